/-
  Walks of the game: may it be? How many draws has it? · Walks of the game: may it be? How many draws has it? · Walks of the game: how many draws has it? A play. · Walks of the game: what a draw comes to. · Walks of the game: counts over all draws. · Walks of the game: alike verdicts; a sketch.
-/
import Derived.Test.YtpfmhkkglaghgaaGreatGam4
namespace Go.Proofs.YtpfmhkkglaghgaaGreat
set_option linter.unusedSimpArgs false
set_option linter.unusedVariables false
set_option linter.unnecessarySimpa false
open Go.RowKit

structure MvR where
  claim : Int
  mark : Int
  fr : Int
  guess : Bool
  flip : Bool
  salt : Int
def MvR.vals (m : MvR) : List Value := [.int .i64 m.claim, .int .i64 m.mark, .int .i64 m.fr, .bool m.guess, .bool m.flip, .int .u64 m.salt]
def MvsR (l : List MvR) : List Value := l.flatMap MvR.vals
def Mv.raw (m : Mv) : MvR := ⟨m.claim, m.mark, m.fr, m.guess, m.flip, m.salt⟩
theorem Mvs_raw (l : List Mv) : Mvs l = MvsR (l.map Mv.raw) := by
  unfold Mvs MvsR
  rw [List.flatMap_map]
  rfl
structure MvR.fit (m : MvR) : Prop where
  claim : isI64 m.claim
  mark : isI64 m.mark
  fr : isI64 m.fr
  salt : isU64 m.salt
/-- The numbers are those of a game that may be. -/
structure GmIs (g : Gm) (b n came marked : Int) (l : List MvR) : Prop where
  ok : g.ok
  b : (g.b : Int) = b
  n : (g.n : Int) = n
  came : (g.came : Int) = came
  marked : (g.marked : Int) = marked
  moves : g.moves.map Mv.raw = l
def GmMay (b n came marked : Int) (l : List MvR) : Prop := ∃ g, GmIs g b n came marked l
def rawVal (b n came marked : Int) (A : Option Addr) (len c : Nat) : Value := .agg #[.int .i64 b, .int .i64 n, .int .i64 came, .int .i64 marked, .slice A len c]

theorem i64_wrap0 {t : Nat} (h : t < 18446744073709551616) : IntKind.i64.wrap (t : Int) = 0 ↔ t = 0 := by
  have hm : (t : Int) % 2 ^ 64 = t := Int.emod_eq_of_lt (by omega) (by omega)
  simp only [IntKind.wrap, IntKind.bits, IntKind.signed, hm]
  by_cases ht : (t : Int) ≥ 2 ^ (64 - 1)
  · rw [if_pos (by simpa using ht)]; omega
  · rw [if_neg (by simpa using ht)]; omega
/-- Nothing of x lies outside m. -/
theorem andNot_sub {x : Int} (hx : isI64 x) {m : Nat} (hm : m < 16) : bits .andNot .i64 x (m : Int) = 0 ↔ ∃ a : Nat, x = a ∧ ∀ i, a.testBit i = true → m.testBit i = true := by
  have h1 := hx.1
  have h2 := hx.2
  have hX : (BitVec.ofInt 64 x).toNat < 18446744073709551616 := (BitVec.ofInt 64 x).isLt
  have eX : ((BitVec.ofInt 64 x).toNat : Int) = x % 18446744073709551616 := by
    rw [BitVec.toNat_ofInt]; omega
  have eM : (BitVec.ofInt 64 (m : Int)).toNat = m := ofInt_u64 m (by omega)
  have e : bits .andNot .i64 x (m : Int) = IntKind.i64.wrap ((BitVec.ofInt 64 x &&& ~~~ BitVec.ofInt 64 (m : Int)).toNat : Int) := rfl
  rw [e, i64_wrap0 (BitVec.isLt _)]
  constructor
  · intro h
    have hb : ∀ i, (BitVec.ofInt 64 x).toNat.testBit i = true → m.testBit i = true := fun i hi => by
      have h0 : (BitVec.ofInt 64 x &&& ~~~ BitVec.ofInt 64 (m : Int)).getLsbD i = false := by
        rw [← BitVec.testBit_toNat, h, Nat.zero_testBit]
      have hi' : (BitVec.ofInt 64 x).getLsbD i = true := by rw [← BitVec.testBit_toNat]; exact hi
      have hlt : i < 64 := BitVec.lt_of_getLsbD hi'
      rw [BitVec.getLsbD_and, BitVec.getLsbD_not, hi'] at h0
      simp only [Bool.true_and, hlt, decide_true, Bool.not_eq_false'] at h0
      rw [← BitVec.testBit_toNat, eM] at h0
      exact h0
    have hle := Nat.le_of_testBit hb
    exact ⟨(BitVec.ofInt 64 x).toNat, by omega, hb⟩
  · rintro ⟨a, rfl, hb⟩
    have hle := Nat.le_of_testBit hb
    have eA : (BitVec.ofInt 64 (a : Int)).toNat = a := ofInt_u64 a (by omega)
    apply Nat.eq_of_testBit_eq
    intro i
    rw [Nat.zero_testBit, BitVec.testBit_toNat, BitVec.getLsbD_and, BitVec.getLsbD_not, ← BitVec.testBit_toNat, ← BitVec.testBit_toNat, eA, eM]
    cases ha : a.testBit i with
    | false => simp
    | true => rw [hb i ha]; simp
theorem bits_lt {a n : Nat} (h : a < 2 ^ n) : ∀ i, a.testBit i = true → (2 ^ n - 1).testBit i = true := fun i hi => by
  rw [Nat.testBit_two_pow_sub_one]
  refine decide_eq_true ?_
  refine Decidable.byContradiction fun hn => ?_
  have := Nat.testBit_lt_two_pow (Nat.lt_of_lt_of_le h (Nat.pow_le_pow_right (n := 2) (by decide) (Nat.le_of_not_lt hn)))
  rw [this] at hi; cases hi
theorem lt_bits {a n : Nat} (h : ∀ i, a.testBit i = true → (2 ^ n - 1).testBit i = true) : a < 2 ^ n := by
  have := Nat.le_of_testBit h
  have := Nat.one_le_two_pow (n := n)
  omega
/-- A move of raw numbers may be. -/
def MvR.good (n : Int) (m : MvR) : Prop := bits .andNot .i64 m.claim (2 ^ n.toNat - 1) = 0 ∧ bits .andNot .i64 m.mark m.claim = 0 ∧ 0 ≤ m.fr ∧ m.fr < n
def RawMay (b n came marked : Int) (l : List MvR) : Prop := (1 ≤ b ∧ b ≤ 6 ∧ 1 ≤ n ∧ n ≤ 4 ∧ b * n ≤ 12 ∧ l.length ≤ 8) ∧ bits .andNot .i64 came (2 ^ n.toNat - 1) = 0 ∧ bits .andNot .i64 marked came = 0 ∧ ∀ m ∈ l, m.good n
theorem pow_nat (n : Nat) : ((2 : Int) ^ n - 1) = ((2 ^ n - 1 : Nat) : Int) := by
  have : ((2 : Int) ^ n) = ((2 ^ n : Nat) : Int) := by simp
  have := Nat.one_le_two_pow (n := n)
  omega
theorem MvR.good_ok {n : Nat} (hn : n ≤ 4) {m : MvR} (hf : m.fit) (h : m.good n) : ∃ x : Mv, x.ok n ∧ x.raw = m := by
  have p16 : 2 ^ n ≤ 16 := Nat.pow_le_pow_right (n := 2) (by decide) (j := 4) hn
  have q1 := Nat.one_le_two_pow (n := n)
  obtain ⟨h1, h2, h3, h4⟩ := h
  rw [Int.toNat_natCast, pow_nat] at h1
  obtain ⟨a, e1, k1⟩ := (andNot_sub hf.claim (by omega)).1 h1
  have la := lt_bits k1
  rw [e1] at h2
  obtain ⟨c, e2, k2⟩ := (andNot_sub hf.mark (by omega)).1 h2
  refine ⟨⟨a, c, m.fr.toNat, m.guess, m.flip, m.salt⟩, ⟨la, k2, by show m.fr.toNat < n; omega, hf.salt⟩, ?_⟩
  obtain ⟨m1, m2, m3, m4, m5, m6⟩ := m
  simp only at e1 e2 h3 ⊢
  subst e1 e2
  unfold Mv.raw
  simp only [MvR.mk.injEq, true_and]
  exact ⟨by omega, trivial⟩
theorem Mv.ok_good {n : Nat} (hn : n ≤ 4) {x : Mv} (h : x.ok n) : x.raw.good n := by
  have p16 : 2 ^ n ≤ 16 := Nat.pow_le_pow_right (n := 2) (by decide) (j := 4) hn
  have q1 := Nat.one_le_two_pow (n := n)
  have hc := h.claim
  have hk := Nat.le_of_testBit h.mark
  have hf := h.fr
  refine ⟨?_, ?_, Int.natCast_nonneg _, by show (x.fr : Int) < n; omega⟩
  · rw [Int.toNat_natCast, pow_nat]
    exact (andNot_sub (show isI64 (x.claim : Int) from ⟨by omega, by omega⟩) (by omega)).2 ⟨_, rfl, bits_lt hc⟩
  · exact (andNot_sub (show isI64 (x.mark : Int) from ⟨by omega, by omega⟩) (by omega)).2 ⟨_, rfl, h.mark⟩
theorem raws_of {n : Nat} (hn : n ≤ 4) : ∀ {l : List MvR}, (∀ m ∈ l, m.fit) → (∀ m ∈ l, m.good n) → ∃ ms : List Mv, (∀ x ∈ ms, x.ok n) ∧ ms.map Mv.raw = l := by
  intro l
  induction l with
  | nil => intro _ _; exact ⟨[], by simp, rfl⟩
  | cons m l ih =>
    intro hf h
    obtain ⟨x, hx, ex⟩ := MvR.good_ok hn (hf m (by simp)) (h m (by simp))
    obtain ⟨ms, hm, em⟩ := ih (fun y hy => hf y (by simp [hy])) (fun y hy => h y (by simp [hy]))
    exact ⟨x :: ms, by simp only [List.mem_cons]; rintro y (rfl | hy); exact hx; exact hm y hy, by simp [ex, em]⟩
theorem raw_may {b n came marked : Int} {l : List MvR} (hc : isI64 came) (hm : isI64 marked) (hf : ∀ m ∈ l, m.fit) : RawMay b n came marked l ↔ GmMay b n came marked l := by
  constructor
  · rintro ⟨⟨b1, b6, n1, n4, bn, h8⟩, h1, h2, h3⟩
    obtain ⟨b, rfl⟩ : ∃ x : Nat, b = x := ⟨b.toNat, by omega⟩
    obtain ⟨n, rfl⟩ : ∃ x : Nat, n = x := ⟨n.toNat, by omega⟩
    have hn : n ≤ 4 := by omega
    have p16 : 2 ^ n ≤ 16 := Nat.pow_le_pow_right (n := 2) (by decide) (j := 4) hn
    have q1 := Nat.one_le_two_pow (n := n)
    rw [Int.toNat_natCast, pow_nat] at h1
    obtain ⟨a, rfl, k1⟩ := (andNot_sub hc (by omega)).1 h1
    have la := lt_bits k1
    obtain ⟨c, rfl, k2⟩ := (andNot_sub hm (by omega)).1 h2
    obtain ⟨ms, o, e⟩ := raws_of hn hf h3
    exact ⟨⟨b, n, a, c, ms⟩, ⟨by show 1 ≤ b; omega, by show b ≤ 6; omega, by show 1 ≤ n; omega, hn, by show b * n ≤ 12; exact_mod_cast bn, la, k2, o, by rw [← e] at h8; simpa using h8⟩, rfl, rfl, rfl, rfl, e⟩
  · rintro ⟨g, h⟩
    have hk := h.ok
    have p16 : 2 ^ g.n ≤ 16 := Nat.pow_le_pow_right (n := 2) (by decide) (j := 4) hk.n4
    have q1 := Nat.one_le_two_pow (n := g.n)
    have hcm := hk.came
    have h4 := hk.n4
    have h6 := hk.b6
    have h5 := hk.n1
    have h7 := hk.b1
    obtain ⟨-, rfl, rfl, rfl, rfl, rfl⟩ := h
    refine ⟨⟨by omega, by omega, by omega, by omega, by exact_mod_cast hk.bn, by simpa using hk.len⟩, ?_, ?_, fun m hm => ?_⟩
    · rw [Int.toNat_natCast, pow_nat]; exact (andNot_sub hc (by omega)).2 ⟨_, rfl, bits_lt hcm⟩
    · exact (andNot_sub hm (by omega)).2 ⟨_, rfl, hk.marked⟩
    · obtain ⟨x, hx, rfl⟩ := List.mem_map.1 hm
      exact Mv.ok_good hk.n4 (hk.moves x hx)

end Go.Proofs.YtpfmhkkglaghgaaGreat

namespace Go.Proofs.YtpfmhkkglaghgaaGreat
set_option linter.unusedSimpArgs false
set_option linter.unusedVariables false
set_option linter.unnecessarySimpa false
open Go.RowKit

instance (n : Int) (m : MvR) : Decidable (m.good n) := by unfold MvR.good; infer_instance
instance (b n came marked : Int) (l : List MvR) : Decidable (RawMay b n came marked l) := by unfold RawMay; infer_instance
def rawB (b n came marked : Int) (l : List MvR) : Bool := decide (RawMay b n came marked l)
theorem MvsR.mv {w : World} {A : Option Addr} {n c : Nat} {l : List MvR} (h : Rd w 6 A n c (MvsR l)) {i : Nat} (hi : i < l.length) :
    ∃ b off, A = some ⟨b, off, none⟩ ∧
      w.cell? ⟨b, off + i * 6, none⟩ = some (.int .i64 l[i].claim) ∧ w.cell? ⟨b, off + i * 6 + 1, none⟩ = some (.int .i64 l[i].mark) ∧
      w.cell? ⟨b, off + i * 6 + 2, none⟩ = some (.int .i64 l[i].fr) ∧ w.cell? ⟨b, off + i * 6 + 3, none⟩ = some (.bool l[i].guess) ∧
      w.cell? ⟨b, off + i * 6 + 4, none⟩ = some (.bool l[i].flip) ∧ w.cell? ⟨b, off + i * 6 + 5, none⟩ = some (.int .u64 l[i].salt) := by
  obtain ⟨b, off, e, hc⟩ := Rd.elem (f := MvR.vals) (k := 6) (fun _ => rfl) h (by omega) hi
  exact ⟨b, off, e, hc 0 _ rfl, hc 1 _ rfl, hc 2 _ rfl, hc 3 _ rfl, hc 4 _ rfl, hc 5 _ rfl⟩

theorem wrap64_in {x : Int} (h : 0 ≤ x ∧ x < 9223372036854775808) : wrap64 x = x := by
  unfold wrap64
  omega
set_option maxHeartbeats 4000000 in
set_option maxRecDepth 100000 in
theorem gam_may (b n came marked : Int) (l : List MvR) (A : Option Addr) (c : Nat) (w : World) (hb : isI64 b) (hn : isI64 n) (hr : Rd w 6 A l.length c (MvsR l)) :
    Calls Tryz.prog 10 #[rawVal b n came marked A l.length c] w fun e w' => e = .returned (.bool (rawB b n came marked l)) ∧ Below w.heap.size w w' := by
  have b0 := box_below w (.cells #[.int .i64 b, .int .i64 n, .int .i64 came, .int .i64 marked, .slice A l.length c] 24)
  have n0 := heap_alloc_new w (.cells #[.int .i64 b, .int .i64 n, .int .i64 came, .int .i64 marked, .slice A l.length c] 24)
  have B0 := Lib.hid b0
  have N0 := Lib.hid n0
  have HR := Lib.hid hr
  have hl63 := hr.cap
  have hl64 := hr.max
  unfold maxLen at hl64
  have s0 : (w.alloc (.cells #[.int .i64 b, .int .i64 n, .int .i64 came, .int .i64 marked, .slice A l.length c] 24)).heap.size = w.heap.size + 1 := by simp
  obtain ⟨hb1, hb2⟩ := hb
  obtain ⟨hn1, hn2⟩ := hn
  clear hr b0 n0
  unfold rawVal
  go_enter Tryz.func10, Tryz.ntmps10
  go_upto_region 1 with fail
  generalize (w.alloc (.cells #[.int .i64 b, .int .i64 n, .int .i64 came, .int .i64 marked, .slice A l.length c] 24)) = w1 at *
  have y0 := cell_of_row w1 w.heap.size 0 _ _ _ N0.out
  have y1 := cell_of_row w1 w.heap.size 1 _ _ _ N0.out
  have y2 := cell_of_row w1 w.heap.size 2 _ _ _ N0.out
  have y3 := cell_of_row w1 w.heap.size 3 _ _ _ N0.out
  have y4 := cell_of_row w1 w.heap.size 4 _ _ _ N0.out
  have F : Hid (¬ (1 ≤ b ∧ b ≤ 6 ∧ 1 ≤ n ∧ n ≤ 4 ∧ b * n ≤ 12 ∧ l.length ≤ 8) → false = rawB b n came marked l) := Lib.hid (fun h => (decide_eq_false (fun e => h e.1)).symm)
  by_cases c1 : b < 1
  · go_wp2
    go_ret
    exact ⟨ret_bool (F.out (by omega)), B0.out⟩
  by_cases c2 : b > 6
  · go_wp2
    go_ret
    exact ⟨ret_bool (F.out (by omega)), B0.out⟩
  by_cases c3 : n < 1
  · go_wp2
    go_ret
    exact ⟨ret_bool (F.out (by omega)), B0.out⟩
  by_cases c4 : n > 4
  · go_wp2
    go_ret
    exact ⟨ret_bool (F.out (by omega)), B0.out⟩
  obtain ⟨bn, rfl⟩ : ∃ x : Nat, b = x := ⟨b.toNat, by omega⟩
  obtain ⟨nn, rfl⟩ : ∃ x : Nat, n = x := ⟨n.toNat, by omega⟩
  have hp : (bn : Int) * nn ≤ 24 := by
    have h1 : bn * nn ≤ 6 * 4 := Nat.mul_le_mul (by omega) (by omega)
    have : ((bn * nn : Nat) : Int) = (bn : Int) * nn := by simp
    omega
  have hp0 : 0 ≤ (bn : Int) * nn := by
    have : ((bn * nn : Nat) : Int) = (bn : Int) * nn := by simp
    omega
  have wp : IntKind.i64.wrap ((bn : Int) * nn) = (bn : Int) * nn := IntWalk.i64_in _ (by omega)
  by_cases c5 : (bn : Int) * nn > 12
  · go_wp2
    go_ret
    exact ⟨ret_bool (F.out (by omega)), B0.out⟩
  by_cases c6 : (l.length : Int) > 8
  · go_wp2
    go_ret
    exact ⟨ret_bool (F.out (by omega)), B0.out⟩
  clear F
  have hnn : 1 ≤ nn ∧ nn ≤ 4 := by omega
  have hnt : (nn : Int).toNat = nn := by omega
  have wn : IntKind.u64.wrap (nn : Int) = nn := IntWalk.u64_in _ (by omega)
  have p16 : 2 ^ nn ≤ 16 := Nat.pow_le_pow_right (n := 2) (by decide) (j := 4) hnn.2
  have q1 := Nat.one_le_two_pow (n := nn)
  have ep : ((2 : Int) ^ nn) = ((2 ^ nn : Nat) : Int) := by simp
  have w2 : IntKind.i64.wrap ((2 : Int) ^ nn) = 2 ^ nn := IntWalk.i64_in _ (by omega)
  have w3 : IntKind.i64.wrap ((2 : Int) ^ nn - 1) = 2 ^ nn - 1 := IntWalk.i64_in _ (by omega)
  have RG : Hid (rawB bn nn came marked l = (decide (bits .andNot .i64 came (2 ^ nn - 1) = 0) && decide (bits .andNot .i64 marked came = 0) && decide (∀ m ∈ l, m.good nn))) := Lib.hid (by
    unfold rawB RawMay
    rw [Bool.eq_iff_iff]
    simp only [Bool.and_eq_true, decide_eq_true_eq, hnt]
    constructor
    · rintro ⟨-, h1, h2, h3⟩; exact ⟨⟨h1, h2⟩, h3⟩
    · rintro ⟨⟨h1, h2⟩, h3⟩; exact ⟨⟨by omega, by omega, by omega, by omega, by omega, by omega⟩, h1, h2, h3⟩)
  have n1' : (1 : Int) ≤ nn := by omega
  have n2' : (nn : Int) < 64 := by omega
  have w4 := Lib.hid w2
  have w5 := Lib.hid w3
  have ep2 : (1 : Int) ≤ 2 ^ nn ∧ (2 : Int) ^ nn ≤ 16 := by omega
  have E2 := Lib.hid ep2
  clear w2 w3 ep q1 p16 hp hp0 ep2
  go_upto_region 4 with fail
  have w6 : wrap64 (wrap64 ((2 : Int) ^ nn) - 1) = 2 ^ nn - 1 := by
    have := E2.out
    rw [wrap64_in (x := (2 : Int) ^ nn) (by omega), wrap64_in (by omega)]
  rw [w6]
  clear w4 w5 w6
  have GD : Hid (∀ m : MvR, m.good nn ↔ bits .andNot .i64 m.claim (2 ^ nn - 1) = 0 ∧ bits .andNot .i64 m.mark m.claim = 0 ∧ 0 ≤ m.fr ∧ m.fr < nn) := Lib.hid (fun m => by unfold MvR.good; rw [hnt])
  generalize (2 : Int) ^ nn - 1 = all at *
  by_cases d1 : bits .andNot .i64 came all = 0
  · by_cases d2 : bits .andNot .i64 marked came = 0
    · have RH : Hid (rawB bn nn came marked l = decide (∀ m ∈ l, m.good nn)) := Lib.hid (by rw [RG.out]; simp [d1, d2])
      clear RG
      go_wp2
      go_loopw [59] (fun iv wr => ∃ j : Nat, j ≤ l.length ∧ iv = .int .i64 j ∧ Hid (∀ m ∈ l.take j, m.good nn) ∧ Hid (Below w1.heap.size w1 wr)) (fun iv _ => l.length - (intOf iv).toNat)
      case atStart => exact ⟨0, Nat.zero_le _, rfl, Lib.hid (by simp), Lib.hid (Below.refl _ _)⟩
      case round =>
        obtain ⟨j, hj, rfl, HG, B1⟩ := hrel
        clear d1 d2 y0 y2 y3 y4
        have sr := B1.out.size
        have BF := Lib.hid (B0.out.trans (B1.out.mono (by omega)))
        by_cases hlt : j < l.length
        · obtain ⟨bb, off, eA, c0, c1', c2', c3', c4', c5'⟩ := MvsR.mv (HR.out.below BF.out) hlt
          have y1 := (B1.out.cell (p := ⟨w.heap.size, 1, none⟩) (by show w.heap.size < w1.heap.size; omega)).trans y1
          subst eA
          have HM : Hid (l[j] ∈ l) := Lib.hid (List.getElem_mem hlt)
          have HT : Hid (l.take (j + 1) = l.take j ++ [l[j]]) := Lib.hid (by rw [List.take_succ_eq_append_getElem hlt])
          generalize l[j] = m at *
          have F : Hid (¬ m.good nn → false = rawB bn nn came marked l) := Lib.hid (fun h => by rw [RH.out]; exact (decide_eq_false (fun e => h (e m HM.out))).symm)
          have hl : (j : Int) < l.length := by omega
          have BX := Lib.hid (box_below wr (.cells #[.int .i64 m.claim, .int .i64 m.mark, .int .i64 m.fr, .bool m.guess, .bool m.flip, .int .u64 m.salt] 41))
          have NX := Lib.hid (heap_alloc_new wr (.cells #[.int .i64 m.claim, .int .i64 m.mark, .int .i64 m.fr, .bool m.guess, .bool m.flip, .int .u64 m.salt] 41))
          go_upto_region 9 with fail
          have y1 := (BX.out.cell (p := ⟨w.heap.size, 1, none⟩) (by show w.heap.size < wr.heap.size; omega)).trans y1
          have BG := Lib.hid (B1.out.trans (BX.out.mono sr))
          have BH := Lib.hid (BF.out.trans (BX.out.mono (by omega)))
          clear BX c0 c1' c2' c3' c4' c5'
          generalize (wr.alloc (.cells #[.int .i64 m.claim, .int .i64 m.mark, .int .i64 m.fr, .bool m.guess, .bool m.flip, .int .u64 m.salt] 41)) = wx at *
          have z0 := cell_of_row wx wr.heap.size 0 _ _ _ NX.out
          have z1 := cell_of_row wx wr.heap.size 1 _ _ _ NX.out
          have z2 := cell_of_row wx wr.heap.size 2 _ _ _ NX.out
          have z3 := cell_of_row wx wr.heap.size 3 _ _ _ NX.out
          have z4 := cell_of_row wx wr.heap.size 4 _ _ _ NX.out
          have z5 := cell_of_row wx wr.heap.size 5 _ _ _ NX.out
          by_cases k1 : bits .andNot .i64 m.claim all = 0
          · by_cases k2 : bits .andNot .i64 m.mark m.claim = 0
            · by_cases k3 : m.fr < 0
              · go_wp2
                go_ret
                exact ⟨ret_bool (F.out (fun h => by have := ((GD.out m).1 h).2.2.1; omega)), BH.out⟩
              · by_cases k4 : m.fr ≥ nn
                · go_wp2
                  go_ret
                  exact ⟨ret_bool (F.out (fun h => by have := ((GD.out m).1 h).2.2.2; omega)), BH.out⟩
                · go_wp2
                  go_roundw
                  case rel => exact ⟨j + 1, by omega, by go_num, Lib.hid (by rw [HT.out]; intro x hx; rw [List.mem_append, List.mem_singleton] at hx; rcases hx with hx | rfl; exact HG.out x hx; exact (GD.out x).2 ⟨k1, k2, by omega, by omega⟩), BG⟩
                  case measure => simp [intOf]; omega
            · go_wp2
              go_ret
              exact ⟨ret_bool (F.out (fun h => k2 ((GD.out m).1 h).2.1)), BH.out⟩
          · go_wp2
            go_ret
            exact ⟨ret_bool (F.out (fun h => k1 ((GD.out m).1 h).1)), BH.out⟩
        · obtain rfl : j = l.length := by omega
          go_wp2
          go_ret
          exact ⟨ret_bool (by rw [RH.out]; refine (decide_eq_true ?_).symm; have h := HG.out; rw [List.take_length] at h; exact h), BF.out⟩
    · have F2 : Hid (false = rawB bn nn came marked l) := Lib.hid (by rw [RG.out]; simp [d2])
      have d3 : (bits .andNot .i64 marked came != 0) = true := by simpa using d2
      clear RG d2 wp
      go_wp2
      go_ret
      exact ⟨ret_bool F2.out, B0.out⟩
  · go_wp2
    go_ret
    exact ⟨ret_bool (by rw [RG.out]; simp [d1]), B0.out⟩

end Go.Proofs.YtpfmhkkglaghgaaGreat

namespace Go.Proofs.YtpfmhkkglaghgaaGreat
set_option linter.unusedSimpArgs false
set_option linter.unusedVariables false
set_option linter.unnecessarySimpa false
open Go.RowKit

def rawDraws (b n came marked : Int) (l : List MvR) : Int := if rawB b n came marked l then ((2 ^ ((b + 1) * n).toNat : Nat) : Int) else 0
def Gm.draws (g : Gm) : Nat := 2 ^ ((g.b + 1) * g.n)
theorem gm_raw {g : Gm} (h : g.ok) : rawB g.b g.n g.came g.marked (g.moves.map Mv.raw) = true := by
  have p16 : 2 ^ g.n ≤ 16 := Nat.pow_le_pow_right (n := 2) (by decide) (j := 4) h.n4
  have q1 := h.came
  have q2 := Nat.le_of_testBit h.marked
  unfold rawB
  refine decide_eq_true ((raw_may (show isI64 _ from ⟨by omega, by omega⟩) (show isI64 _ from ⟨by omega, by omega⟩) (fun m hm => ?_)).2 ⟨g, h, rfl, rfl, rfl, rfl, rfl⟩)
  obtain ⟨x, hx, rfl⟩ := List.mem_map.1 hm
  have o := h.moves x hx
  have c1 := o.claim
  have c2 := Nat.le_of_testBit o.mark
  have c3 := o.fr
  have n4 := h.n4
  exact ⟨show isI64 (x.claim : Int) from ⟨by omega, by omega⟩, show isI64 (x.mark : Int) from ⟨by omega, by omega⟩, show isI64 (x.fr : Int) from ⟨by omega, by omega⟩, o.salt⟩
theorem gm_draws {g : Gm} (h : g.ok) : rawDraws g.b g.n g.came g.marked (g.moves.map Mv.raw) = g.draws := by
  unfold rawDraws Gm.draws
  rw [gm_raw h, if_pos rfl]
  have : ((g.b : Int) + 1) * g.n = (((g.b + 1) * g.n : Nat) : Int) := by simp
  rw [this, Int.toNat_natCast]

theorem wrap_pow {e : Nat} (h : e < 64) : IntKind.u64.wrap ((2 : Int) ^ e) = ((2 ^ e : Nat) : Int) := by
  have h1 : 2 ^ e < 2 ^ 64 := Nat.pow_lt_pow_right (by decide) h
  have h2 : ((2 : Int) ^ e) = ((2 ^ e : Nat) : Int) := by simp
  have h3 : (2 : Nat) ^ 64 = 18446744073709551616 := by decide
  rw [h3] at h1
  rw [h2]
  exact IntWalk.u64_in _ (by generalize 2 ^ e = x at *; omega)
set_option maxHeartbeats 4000000 in
set_option maxRecDepth 100000 in
theorem gam_draws (b n came marked : Int) (l : List MvR) (A : Option Addr) (c : Nat) (w : World) (hb : isI64 b) (hn : isI64 n) (hr : Rd w 6 A l.length c (MvsR l)) :
    Calls Tryz.prog 12 #[rawVal b n came marked A l.length c] w fun e w' => e = .returned (.int .u64 (rawDraws b n came marked l)) ∧ Below w.heap.size w w' := by
  have b0 := box_below w (.cells #[.int .i64 b, .int .i64 n, .int .i64 came, .int .i64 marked, .slice A l.length c] 24)
  have n0 := heap_alloc_new w (.cells #[.int .i64 b, .int .i64 n, .int .i64 came, .int .i64 marked, .slice A l.length c] 24)
  have B0 := Lib.hid b0
  have N0 := Lib.hid n0
  have HR := Lib.hid (hr.below b0)
  have s0 : (w.alloc (.cells #[.int .i64 b, .int .i64 n, .int .i64 came, .int .i64 marked, .slice A l.length c] 24)).heap.size = w.heap.size + 1 := by simp
  clear hr b0 n0
  unfold rawVal
  go_enter Tryz.func12, Tryz.ntmps12
  go_upto_region 1 with fail
  generalize (w.alloc (.cells #[.int .i64 b, .int .i64 n, .int .i64 came, .int .i64 marked, .slice A l.length c] 24)) = w1 at *
  have y0 := cell_of_row w1 w.heap.size 0 _ _ _ N0.out
  have y1 := cell_of_row w1 w.heap.size 1 _ _ _ N0.out
  have y2 := cell_of_row w1 w.heap.size 2 _ _ _ N0.out
  have y3 := cell_of_row w1 w.heap.size 3 _ _ _ N0.out
  have y4 := cell_of_row w1 w.heap.size 4 _ _ _ N0.out
  have K := Lib.hid (gam_may b n came marked l A c w1 hb hn HR.out)
  unfold rawVal at K
  go_wp2_with fail
  (with_reducible refine K.out.mono ?_)
  rintro e w2 ⟨rfl, b2⟩
  have B2 := Lib.hid (B0.out.trans (b2.mono (by omega)))
  have N2 := Lib.hid ((b2.block _ (lt_of_block N0.out)).trans N0.out)
  clear K b2 N0 y0 y1 y2 y3 y4
  have y0 := cell_of_row w2 w.heap.size 0 _ _ _ N2.out
  have y1 := cell_of_row w2 w.heap.size 1 _ _ _ N2.out
  have y2 := cell_of_row w2 w.heap.size 2 _ _ _ N2.out
  have y3 := cell_of_row w2 w.heap.size 3 _ _ _ N2.out
  have y4 := cell_of_row w2 w.heap.size 4 _ _ _ N2.out
  cases hB : rawB b n came marked l with
  | false =>
    go_wp2
    go_ret
    exact ⟨ret_int (by unfold rawDraws; rw [hB]; rfl), B2.out⟩
  | true =>
    have hm : RawMay b n came marked l := of_decide_eq_true hB
    obtain ⟨⟨b1, b6, n1, n4, bn, -⟩, -⟩ := hm
    have hp : (b + 1) * n = b * n + n := by rw [Int.add_mul, Int.one_mul]
    have hp0 : 0 ≤ b * n := Int.mul_nonneg (by omega) (by omega)
    have w1 : IntKind.i64.wrap (b + 1) = b + 1 := IntWalk.i64_in _ (by omega)
    have w2 : IntKind.i64.wrap ((b + 1) * n) = (b + 1) * n := IntWalk.i64_in _ (by omega)
    have w3 : IntKind.u64.wrap ((b + 1) * n) = (b + 1) * n := IntWalk.u64_in _ (by omega)
    have RD : Hid (rawDraws b n came marked l = ((2 ^ ((b + 1) * n).toNat : Nat) : Int)) := Lib.hid (by unfold rawDraws; rw [hB, if_pos rfl])
    have p0 : 0 ≤ (b + 1) * n := by omega
    have p1 : (b + 1) * n < 64 := by omega
    clear hp hp0 bn
    go_wp2
    go_ret
    exact ⟨ret_int (by rw [RD.out]; exact wrap_pow (by omega)), B2.out⟩

/-- Of a game that may be. -/
theorem gam_drawsG (g : Gm) (A : Option Addr) (c : Nat) (w : World) (hg : g.ok) (hr : Rd w 6 A g.moves.length c (Mvs g.moves)) :
    Calls Tryz.prog 12 #[gmVal g A c] w fun e w' => e = .returned (.int .u64 g.draws) ∧ Below w.heap.size w w' := by
  have b6 := hg.b6
  have n4 := hg.n4
  have h := gam_draws g.b g.n g.came g.marked (g.moves.map Mv.raw) A c w ⟨by omega, by omega⟩ ⟨by omega, by omega⟩ (by rw [List.length_map, ← Mvs_raw]; exact hr)
  rw [gm_draws hg] at h
  unfold rawVal at h
  rw [List.length_map] at h
  exact h

theorem gm_draws_lt {g : Gm} (h : g.ok) : g.draws ≤ 65536 := by
  have h1 := h.bn
  have h2 := h.n4
  have e : (g.b + 1) * g.n = g.b * g.n + g.n := by rw [Nat.add_mul, Nat.one_mul]
  have : (g.b + 1) * g.n ≤ 16 := by omega
  exact Nat.pow_le_pow_right (n := 2) (by decide) (j := 16) this

set_option maxHeartbeats 4000000 in
set_option maxRecDepth 100000 in
theorem gam_playG (g : Gm) (k : Nat) (A : Option Addr) (c : Nat) (w : World) (hg : g.ok) (hk : k < 18446744073709551616) (hr : Rd w 6 A g.moves.length c (Mvs g.moves)) :
    Calls Tryz.prog 8 #[gmVal g A c, .int .u64 k] w fun e w' => ∃ VA vc, e = .returned (.tuple #[.slice VA (if k < g.draws then (playedN g k 0).length else 0) vc, .bool (decide (k < g.draws))]) ∧ Rd w' 4 VA (if k < g.draws then (playedN g k 0).length else 0) vc (Vds (if k < g.draws then (playedN g k 0).map (·.1) else [])) ∧ Below w.heap.size w w' := by
  have b0 := box_below w (.cells #[.int .i64 g.b, .int .i64 g.n, .int .i64 g.came, .int .i64 g.marked, .slice A g.moves.length c] 24)
  have n0 := heap_alloc_new w (.cells #[.int .i64 g.b, .int .i64 g.n, .int .i64 g.came, .int .i64 g.marked, .slice A g.moves.length c] 24)
  have B0 := Lib.hid b0
  have N0 := Lib.hid n0
  have HR := Lib.hid (hr.below b0)
  have s0 : (w.alloc (.cells #[.int .i64 g.b, .int .i64 g.n, .int .i64 g.came, .int .i64 g.marked, .slice A g.moves.length c] 24)).heap.size = w.heap.size + 1 := by simp
  have hd := gm_draws_lt hg
  have GO := Lib.hid hg
  clear hr b0 n0 hg
  unfold gmVal
  go_enter Tryz.func8, Tryz.ntmps8
  go_upto_region 1 with fail
  generalize (w.alloc (.cells #[.int .i64 g.b, .int .i64 g.n, .int .i64 g.came, .int .i64 g.marked, .slice A g.moves.length c] 24)) = w1 at *
  have y0 := cell_of_row w1 w.heap.size 0 _ _ _ N0.out
  have y1 := cell_of_row w1 w.heap.size 1 _ _ _ N0.out
  have y2 := cell_of_row w1 w.heap.size 2 _ _ _ N0.out
  have y3 := cell_of_row w1 w.heap.size 3 _ _ _ N0.out
  have y4 := cell_of_row w1 w.heap.size 4 _ _ _ N0.out
  have K := Lib.hid (gam_drawsG g A c w1 GO.out HR.out)
  unfold gmVal at K
  go_wp2_with fail
  (with_reducible refine K.out.mono ?_)
  rintro e w2 ⟨rfl, b2⟩
  have B2 := Lib.hid (B0.out.trans (b2.mono (by omega)))
  have N2 := Lib.hid ((b2.block _ (lt_of_block N0.out)).trans N0.out)
  have H2 := Lib.hid (HR.out.below b2)
  clear K b2 N0 y0 y1 y2 y3 y4
  have y0 := cell_of_row w2 w.heap.size 0 _ _ _ N2.out
  have y1 := cell_of_row w2 w.heap.size 1 _ _ _ N2.out
  have y2 := cell_of_row w2 w.heap.size 2 _ _ _ N2.out
  have y3 := cell_of_row w2 w.heap.size 3 _ _ _ N2.out
  have y4 := cell_of_row w2 w.heap.size 4 _ _ _ N2.out
  by_cases hlt : k < g.draws
  · have hd1 : decide ((k : Int) ≥ g.draws) = false := decide_eq_false (by omega)
    have hd2 : decide (k < g.draws) = true := decide_eq_true hlt
    have K2 := Lib.hid (gam_played g k A c w2 GO.out hk H2.out)
    unfold gmVal at K2
    go_wp2_with fail
    (with_reducible refine K2.out.mono ?_)
    rintro e w3 ⟨VA, vc, MA, mc, rfl, rv, -, b3⟩
    have R3 := Lib.hid rv
    have B3 := Lib.hid (B2.out.trans (b3.mono B2.out.size))
    clear K2 rv b3 y0 y1 y2 y3 y4
    go_wp2
    go_ret2
    exact ⟨VA, vc, by first | rfl | rw [hd2], R3.out, B3.out⟩
  · have hd1 : decide ((k : Int) ≥ g.draws) = true := decide_eq_true (by omega)
    have hd2 : decide (k < g.draws) = false := decide_eq_false hlt
    go_wp2
    go_ret2
    exact ⟨none, 0, by first | rfl | rw [hd2], Rd.nil_ _ _, B2.out⟩

end Go.Proofs.YtpfmhkkglaghgaaGreat

namespace Go.Proofs.YtpfmhkkglaghgaaGreat
set_option linter.unusedSimpArgs false
set_option linter.unusedVariables false
set_option linter.unnecessarySimpa false
open Go.RowKit

structure TS where
  luck : Bool
  times : Nat
  seen : Nat
def freshX (g : Gm) (m : Mv) : Nat := (g.marked &&& m.claim) &&& (15 - m.mark)
def tstep (g : Gm) (s : TS) (x : Vd × Mv) : TS :=
  if x.1.kind = 2 then ⟨s.luck || !(x.2.claim &&& (15 - g.came) == 0), if freshX g x.2 &&& (15 - s.seen) = 0 then s.times else s.times + 1, s.seen ||| freshX g x.2⟩ else s
def tallyTo (g : Gm) (l : List (Vd × Mv)) (j : Nat) : TS := (l.take j).foldl (tstep g) ⟨false, 0, 0⟩
def tallyN (g : Gm) (k : Nat) : TS := tallyTo g (playedN g k 0) (playedN g k 0).length
theorem tally_step (g : Gm) (l : List (Vd × Mv)) {j : Nat} (hj : j < l.length) : tallyTo g l (j + 1) = tstep g (tallyTo g l j) l[j] := by
  unfold tallyTo
  rw [List.take_succ_eq_append_getElem hj, List.foldl_append]
  rfl
theorem and15 : ∀ a, a < 16 → ∀ b, b < 16 → a &&& (15 - b) < 16 := by decide +kernel
theorem tstep_lt {g : Gm} {s : TS} {x : Vd × Mv} (hs : s.seen < 16 ∧ s.times ≤ 1000) (hm : g.marked < 16) (hx : x.2.claim < 16 ∧ x.2.mark < 16) : (tstep g s x).seen < 16 ∧ (tstep g s x).times ≤ s.times + 1 := by
  unfold tstep
  split
  · refine ⟨or_lt16 _ hs.1 _ (and15 _ (and_lt16 _ hm _ hx.1) _ hx.2), ?_⟩
    show (if _ then s.times else s.times + 1) ≤ _
    by_cases h : freshX g x.2 &&& (15 - s.seen) = 0
    · rw [if_pos h]; omega
    · rw [if_neg h]; omega
  · exact ⟨hs.1, by omega⟩
theorem playN_mem (g : Gm) (k : Nat) : ∀ (ms : List Mv) (v : Int) (s : LS) (q : GS) (x : Vd × Mv), x ∈ playN g k ms v s q → x.2 ∈ ms := by
  intro ms
  induction ms with
  | nil => intro v s q x h; cases h
  | cons m ms ih =>
    intro v s q x h
    unfold playN at h
    split at h
    · exact List.mem_cons_of_mem _ (ih _ _ _ _ h)
    · rcases List.mem_cons.1 h with rfl | h
      · exact List.mem_cons_self
      · split at h
        · cases h
        · exact List.mem_cons_of_mem _ (ih _ _ _ _ h)
theorem playN_len (g : Gm) (k : Nat) : ∀ (ms : List Mv) (v : Int) (s : LS) (q : GS), (playN g k ms v s q).length ≤ ms.length := by
  intro ms
  induction ms with
  | nil => intro v s q; exact Nat.le_refl _
  | cons m ms ih =>
    intro v s q
    unfold playN
    split
    · have := ih v s q; simp only [List.length_cons]; omega
    · simp only [List.length_cons]
      split
      · simp
      · exact Nat.succ_le_succ (ih _ _ _)
theorem Rd.vd {w : World} {A : Option Addr} {n c : Nat} {l : List Vd} (h : Rd w 4 A n c (Vds l)) {i : Nat} (hi : i < l.length) :
    ∃ b off, A = some ⟨b, off, none⟩ ∧ w.cell? ⟨b, off + i * 4, none⟩ = some (.int .i64 l[i].kind) ∧ w.cell? ⟨b, off + i * 4 + 1, none⟩ = some (.int .i64 l[i].why) ∧
      w.cell? ⟨b, off + i * 4 + 2, none⟩ = some (.int .u64 l[i].pn) ∧ w.cell? ⟨b, off + i * 4 + 3, none⟩ = some (.bool l[i].ch) := by
  obtain ⟨b, off, e, hc⟩ := Rd.elem (f := Vd.vals) (k := 4) (fun _ => rfl) h (by omega) hi
  exact ⟨b, off, e, hc 0 _ rfl, hc 1 _ rfl, hc 2 _ rfl, hc 3 _ rfl⟩

set_option maxHeartbeats 4000000 in
set_option maxRecDepth 100000 in
theorem gam_tally (g : Gm) (k : Nat) (A : Option Addr) (c : Nat) (w : World) (hg : g.ok) (hk : k < 18446744073709551616) (hr : Rd w 6 A g.moves.length c (Mvs g.moves)) :
    Calls Tryz.prog 20 #[gmVal g A c, .int .u64 k] w fun e w' => e = .returned (.tuple #[.bool (tallyN g k).luck, .int .i64 (tallyN g k).times]) ∧ Below w.heap.size w w' := by
  have b0 := box_below w (.cells #[.int .i64 g.b, .int .i64 g.n, .int .i64 g.came, .int .i64 g.marked, .slice A g.moves.length c] 24)
  have n0 := heap_alloc_new w (.cells #[.int .i64 g.b, .int .i64 g.n, .int .i64 g.came, .int .i64 g.marked, .slice A g.moves.length c] 24)
  have B0 := Lib.hid b0
  have N0 := Lib.hid n0
  have HR := Lib.hid (hr.below b0)
  have s0 : (w.alloc (.cells #[.int .i64 g.b, .int .i64 g.n, .int .i64 g.came, .int .i64 g.marked, .slice A g.moves.length c] 24)).heap.size = w.heap.size + 1 := by simp
  have GO := Lib.hid hg
  have p16 : 2 ^ g.n ≤ 16 := Nat.pow_le_pow_right (n := 2) (by decide) (j := 4) hg.n4
  have hca : g.came < 16 := Nat.lt_of_lt_of_le hg.came p16
  have hma : g.marked < 16 := Nat.lt_of_le_of_lt (Nat.le_of_testBit hg.marked) hca
  have PL : Hid ((playedN g k 0).length ≤ 8) := Lib.hid (Nat.le_trans (playN_len _ _ _ _ _ _) hg.len)
  have PM : Hid (∀ x ∈ playedN g k 0, x.2.claim < 16 ∧ x.2.mark < 16) := Lib.hid (fun x hx => by
    have o := GO.out.moves _ (playN_mem _ _ _ _ _ _ _ hx)
    have h1 := Nat.lt_of_lt_of_le o.claim p16
    exact ⟨h1, Nat.lt_of_le_of_lt (Nat.le_of_testBit o.mark) h1⟩)
  clear hr b0 n0 hg p16
  unfold gmVal
  go_enter Tryz.func20, Tryz.ntmps20
  go_upto_region 1 with fail
  generalize (w.alloc (.cells #[.int .i64 g.b, .int .i64 g.n, .int .i64 g.came, .int .i64 g.marked, .slice A g.moves.length c] 24)) = w1 at *
  have y0 := cell_of_row w1 w.heap.size 0 _ _ _ N0.out
  have y1 := cell_of_row w1 w.heap.size 1 _ _ _ N0.out
  have y2 := cell_of_row w1 w.heap.size 2 _ _ _ N0.out
  have y3 := cell_of_row w1 w.heap.size 3 _ _ _ N0.out
  have y4 := cell_of_row w1 w.heap.size 4 _ _ _ N0.out
  have K := Lib.hid (gam_played g k A c w1 GO.out hk HR.out)
  unfold gmVal at K
  go_wp2_with fail
  (with_reducible refine K.out.mono ?_)
  rintro e w2 ⟨VA, vc, MA, mc, rfl, rv, rm, b2⟩
  have B2 := Lib.hid (B0.out.trans (b2.mono (by omega)))
  have N2 := Lib.hid ((b2.block _ (lt_of_block N0.out)).trans N0.out)
  have RV := Lib.hid rv
  have RM := Lib.hid rm
  have TN : Hid (tallyN g k = tallyTo g (playedN g k 0) (playedN g k 0).length) := Lib.hid rfl
  generalize playedN g k 0 = l at *
  have s2 := b2.size
  clear K b2 N0 y0 y1 y2 y3 y4 rv rm
  have y0 := cell_of_row w2 w.heap.size 0 _ _ _ N2.out
  have y1 := cell_of_row w2 w.heap.size 1 _ _ _ N2.out
  have y2 := cell_of_row w2 w.heap.size 2 _ _ _ N2.out
  have y3 := cell_of_row w2 w.heap.size 3 _ _ _ N2.out
  have y4 := cell_of_row w2 w.heap.size 4 _ _ _ N2.out
  go_wp2_with fail
  go_loopw [4, 5, 8, 20] (fun v4 v5 v8 iv wr => ∃ (j : Nat) (s : TS), j ≤ l.length ∧ iv = .int .i64 j ∧ v4 = .bool s.luck ∧ v5 = .int .i64 s.times ∧ v8 = .int .i64 s.seen ∧ Hid (s = tallyTo g l j) ∧ s.seen < 16 ∧ s.times ≤ j ∧ Hid (Below w2.heap.size w2 wr)) (fun _ _ _ iv _ => l.length - (intOf iv).toNat)
  case atStart => exact ⟨0, ⟨false, 0, 0⟩, Nat.zero_le _, rfl, rfl, rfl, rfl, Lib.hid rfl, by decide, Nat.le_refl _, Lib.hid (Below.refl _ _)⟩
  case round =>
    obtain ⟨j, s, hj, rfl, rfl, rfl, rfl, HS, h16, ht, B1⟩ := hrel
    by_cases hlt : j < l.length
    · obtain ⟨vb, vo, eV, a0, a1, a2, a3⟩ := (RV.out.below B1.out).vd (i := j) (by simpa using hlt)
      obtain ⟨mb, mo, eM, d0, d1, d2, d3, d4, d5⟩ := (RM.out.below B1.out).mv (i := j) (by simpa using hlt)
      have xv := RV.out.cap
      have xv2 := RV.out.max
      have xm := RM.out.cap
      have xm2 := RM.out.max
      unfold maxLen at xv2 xm2
      simp only [List.getElem_map] at a0 a1 a2 a3 d0 d1 d2 d3 d4 d5
      have hx := PM.out _ (List.getElem_mem hlt)
      have HT := Lib.hid (tally_step g l hlt)
      rw [← HS.out] at HT
      have y2 := (B1.out.cell (p := ⟨w.heap.size, 2, none⟩) (by show w.heap.size < w2.heap.size; omega)).trans y2
      have y3 := (B1.out.cell (p := ⟨w.heap.size, 3, none⟩) (by show w.heap.size < w2.heap.size; omega)).trans y3
      have hwl : w.heap.size < wr.heap.size := by have := B1.out.size; omega
      have l8 := PL.out
      subst eV
      subst eM
      generalize l[j] = x at *
      obtain ⟨⟨kd, why, pn, ch⟩, m⟩ := x
      simp only at a0 a1 a2 a3 d0 d1 d2 d3 d4 d5 hx HT
      have hw0 : Hid (Below wr.heap.size wr (wr.alloc (.cells #[.int .i64 kd, .int .i64 why, .int .u64 pn, .bool ch] 43))) := Lib.hid (box_below _ _)
      by_cases hk2 : kd = 2
      · subst hk2
        have HL := Lib.hid (tstep_lt (x := (⟨2, why, pn, ch⟩, m)) ⟨h16, by omega⟩ hma hx)
        have e1 := andNot_i64 m.claim hx.1 g.came hca
        have e2 := and_i64 g.marked hma m.claim hx.1
        have e3 : bits .andNot .i64 ((g.marked &&& m.claim : Nat) : Int) (m.mark : Int) = (freshX g m : Int) := andNot_i64 _ (and_lt16 _ hma _ hx.1) m.mark hx.2
        have f16 : freshX g m < 16 := and15 _ (and_lt16 _ hma _ hx.1) _ hx.2
        have e4 := andNot_i64 (freshX g m) f16 s.seen h16
        have e5 := or_i64 s.seen h16 (freshX g m) f16
        have wt : IntKind.i64.wrap ((s.times : Int) + 1) = (s.times : Int) + 1 := IntWalk.i64_in _ (by omega)
        by_cases hl : m.claim &&& (15 - g.came) = 0
        · rw [hl] at e1
          by_cases hf : freshX g m &&& (15 - s.seen) = 0
          · rw [hf] at e4
            have E0 : Hid (tstep g s (⟨2, why, pn, ch⟩, m) = ⟨s.luck, s.times, s.seen ||| freshX g m⟩) := Lib.hid (by unfold tstep; rw [if_pos rfl]; simp [hl, hf])
            go_upto_region 7 with fail
            have d0 := (hw0.out.cell (block_lt_of_cell d0)).trans d0
            have d1 := (hw0.out.cell (block_lt_of_cell d1)).trans d1
            have y2 := (hw0.out.cell (block_lt_of_cell y2)).trans y2
            have y3 := (hw0.out.cell (block_lt_of_cell y3)).trans y3
            have BX := Lib.hid (B1.out.trans (hw0.out.mono B1.out.size))
            clear hw0 a0 a1 a2 a3 d2 d3 d4 d5
            generalize (wr.alloc (.cells #[.int .i64 2, .int .i64 why, .int .u64 pn, .bool ch] 43)) = wx at *
            refine wp_region_qt (by kernel_rfl) (by kernel_rfl) ?_
            repeat (go_big_quiet_step (fail))
            refine wpQuiet_nil ?_
            intro w7 q7
            obtain ⟨n7, rfl⟩ := q7
            go_upto_region 9 with fail
            refine wp_region_qt (by kernel_rfl) (by kernel_rfl) ?_
            repeat (go_big_quiet_step (fail))
            refine wpQuiet_nil ?_
            intro w9 q9
            obtain ⟨n9, rfl⟩ := q9
            go_wp2
            go_roundw
            case rel => exact ⟨j + 1, _, by omega, by go_num, by rw [E0.out], by rw [E0.out] <;> first | rfl | go_num, by rw [E0.out], Lib.hid HT.out.symm, HL.out.1, by have := HL.out.2; omega, Lib.hid (BX.out.trans (by first | exact (Qt.below ⟨n7, rfl⟩).trans (Qt.below ⟨n9, rfl⟩) | exact Qt.below ⟨_, rfl⟩))⟩
            case measure => simp [intOf]; omega
          · have E0 : Hid (tstep g s (⟨2, why, pn, ch⟩, m) = ⟨s.luck, s.times + 1, s.seen ||| freshX g m⟩) := Lib.hid (by unfold tstep; rw [if_pos rfl]; simp [hl, hf])
            have k2 : (((freshX g m &&& (15 - s.seen) : Nat) : Int) != 0) = true := by simpa using hf
            clear hf
            go_upto_region 7 with fail
            have d0 := (hw0.out.cell (block_lt_of_cell d0)).trans d0
            have d1 := (hw0.out.cell (block_lt_of_cell d1)).trans d1
            have y2 := (hw0.out.cell (block_lt_of_cell y2)).trans y2
            have y3 := (hw0.out.cell (block_lt_of_cell y3)).trans y3
            have BX := Lib.hid (B1.out.trans (hw0.out.mono B1.out.size))
            clear hw0 a0 a1 a2 a3 d2 d3 d4 d5
            generalize (wr.alloc (.cells #[.int .i64 2, .int .i64 why, .int .u64 pn, .bool ch] 43)) = wx at *
            refine wp_region_qt (by kernel_rfl) (by kernel_rfl) ?_
            repeat (go_big_quiet_step (fail))
            refine wpQuiet_nil ?_
            intro w7 q7
            obtain ⟨n7, rfl⟩ := q7
            go_upto_region 9 with fail
            refine wp_region_qt (by kernel_rfl) (by kernel_rfl) ?_
            repeat (go_big_quiet_step (fail))
            refine wpQuiet_nil ?_
            intro w9 q9
            obtain ⟨n9, rfl⟩ := q9
            go_wp2
            go_roundw
            case rel => exact ⟨j + 1, _, by omega, by go_num, by rw [E0.out], by rw [E0.out] <;> first | rfl | go_num, by rw [E0.out], Lib.hid HT.out.symm, HL.out.1, by have := HL.out.2; omega, Lib.hid (BX.out.trans (by first | exact (Qt.below ⟨n7, rfl⟩).trans (Qt.below ⟨n9, rfl⟩) | exact Qt.below ⟨_, rfl⟩))⟩
            case measure => simp [intOf]; omega
        · by_cases hf : freshX g m &&& (15 - s.seen) = 0
          · rw [hf] at e4
            have E0 : Hid (tstep g s (⟨2, why, pn, ch⟩, m) = ⟨true, s.times, s.seen ||| freshX g m⟩) := Lib.hid (by unfold tstep; rw [if_pos rfl]; simp [hl, hf])
            have k1 : (((m.claim &&& (15 - g.came) : Nat) : Int) != 0) = true := by simpa using hl
            clear hl
            go_upto_region 7 with fail
            have d0 := (hw0.out.cell (block_lt_of_cell d0)).trans d0
            have d1 := (hw0.out.cell (block_lt_of_cell d1)).trans d1
            have y2 := (hw0.out.cell (block_lt_of_cell y2)).trans y2
            have y3 := (hw0.out.cell (block_lt_of_cell y3)).trans y3
            have BX := Lib.hid (B1.out.trans (hw0.out.mono B1.out.size))
            clear hw0 a0 a1 a2 a3 d2 d3 d4 d5
            generalize (wr.alloc (.cells #[.int .i64 2, .int .i64 why, .int .u64 pn, .bool ch] 43)) = wx at *
            refine wp_region_qt (by kernel_rfl) (by kernel_rfl) ?_
            repeat (go_big_quiet_step (fail))
            refine wpQuiet_nil ?_
            intro w7 q7
            obtain ⟨n7, rfl⟩ := q7
            go_upto_region 9 with fail
            refine wp_region_qt (by kernel_rfl) (by kernel_rfl) ?_
            repeat (go_big_quiet_step (fail))
            refine wpQuiet_nil ?_
            intro w9 q9
            obtain ⟨n9, rfl⟩ := q9
            go_wp2
            go_roundw
            case rel => exact ⟨j + 1, _, by omega, by go_num, by rw [E0.out], by rw [E0.out] <;> first | rfl | go_num, by rw [E0.out], Lib.hid HT.out.symm, HL.out.1, by have := HL.out.2; omega, Lib.hid (BX.out.trans (by first | exact (Qt.below ⟨n7, rfl⟩).trans (Qt.below ⟨n9, rfl⟩) | exact Qt.below ⟨_, rfl⟩))⟩
            case measure => simp [intOf]; omega
          · have E0 : Hid (tstep g s (⟨2, why, pn, ch⟩, m) = ⟨true, s.times + 1, s.seen ||| freshX g m⟩) := Lib.hid (by unfold tstep; rw [if_pos rfl]; simp [hl, hf])
            have k1 : (((m.claim &&& (15 - g.came) : Nat) : Int) != 0) = true := by simpa using hl
            have k2 : (((freshX g m &&& (15 - s.seen) : Nat) : Int) != 0) = true := by simpa using hf
            clear hl
            clear hf
            go_upto_region 7 with fail
            have d0 := (hw0.out.cell (block_lt_of_cell d0)).trans d0
            have d1 := (hw0.out.cell (block_lt_of_cell d1)).trans d1
            have y2 := (hw0.out.cell (block_lt_of_cell y2)).trans y2
            have y3 := (hw0.out.cell (block_lt_of_cell y3)).trans y3
            have BX := Lib.hid (B1.out.trans (hw0.out.mono B1.out.size))
            clear hw0 a0 a1 a2 a3 d2 d3 d4 d5
            generalize (wr.alloc (.cells #[.int .i64 2, .int .i64 why, .int .u64 pn, .bool ch] 43)) = wx at *
            refine wp_region_qt (by kernel_rfl) (by kernel_rfl) ?_
            repeat (go_big_quiet_step (fail))
            refine wpQuiet_nil ?_
            intro w7 q7
            obtain ⟨n7, rfl⟩ := q7
            go_upto_region 9 with fail
            refine wp_region_qt (by kernel_rfl) (by kernel_rfl) ?_
            repeat (go_big_quiet_step (fail))
            refine wpQuiet_nil ?_
            intro w9 q9
            obtain ⟨n9, rfl⟩ := q9
            go_wp2
            go_roundw
            case rel => exact ⟨j + 1, _, by omega, by go_num, by rw [E0.out], by rw [E0.out] <;> first | rfl | go_num, by rw [E0.out], Lib.hid HT.out.symm, HL.out.1, by have := HL.out.2; omega, Lib.hid (BX.out.trans (by first | exact (Qt.below ⟨n7, rfl⟩).trans (Qt.below ⟨n9, rfl⟩) | exact Qt.below ⟨_, rfl⟩))⟩
            case measure => simp [intOf]; omega
      · have hn : (kd != 2) = true := by simpa using hk2
        have E0 : Hid (tstep g s (⟨kd, why, pn, ch⟩, m) = s) := Lib.hid (by unfold tstep; rw [if_neg hk2])
        clear hk2
        go_wp2
        go_roundw
        case rel => exact ⟨j + 1, s, by omega, by go_num, rfl, rfl, rfl, Lib.hid (by rw [HT.out, E0.out]), h16, by omega, Lib.hid (by have := hw0.out; exact B1.out.trans (this.mono B1.out.size))⟩
        case measure => simp [intOf]; omega
    · obtain rfl : j = l.length := by omega
      go_wp2
      go_ret2
      exact ⟨by rw [TN.out, ← HS.out]; rfl, B2.out.trans (B1.out.mono (by omega))⟩

end Go.Proofs.YtpfmhkkglaghgaaGreat

namespace Go.Proofs.YtpfmhkkglaghgaaGreat
set_option linter.unusedSimpArgs false
set_option linter.unusedVariables false
set_option linter.unnecessarySimpa false
open Go.RowKit

def countTo (p : Nat → Bool) (d : Nat) : Nat := ((List.range d).filter p).length
theorem count_step (p : Nat → Bool) (d : Nat) : countTo p (d + 1) = if p d then countTo p d + 1 else countTo p d := by
  unfold countTo
  rw [List.range_succ, List.filter_append, List.length_append]
  cases h : p d <;> simp [h]
theorem count_le (p : Nat → Bool) (d : Nat) : countTo p d ≤ d := by
  unfold countTo
  have := List.length_filter_le p (List.range d)
  simpa using this
def luckyN (g : Gm) : Nat := countTo (fun k => (tallyN g k).luck) g.draws
def hiddenP (g : Gm) (n : Int) (k : Nat) : Bool := !(tallyN g k).luck && decide (((tallyN g k).times : Int) ≥ n)
def hiddenN (g : Gm) (n : Int) : Nat := countTo (hiddenP g n) g.draws

set_option maxHeartbeats 4000000 in
set_option maxRecDepth 100000 in
theorem gam_lucky (g : Gm) (A : Option Addr) (c : Nat) (w : World) (hg : g.ok) (hr : Rd w 6 A g.moves.length c (Mvs g.moves)) :
    Calls Tryz.prog 14 #[gmVal g A c] w fun e w' => e = .returned (.int .u64 (luckyN g)) ∧ Below w.heap.size w w' := by
  have b0 := box_below w (.cells #[.int .i64 g.b, .int .i64 g.n, .int .i64 g.came, .int .i64 g.marked, .slice A g.moves.length c] 24)
  have n0 := heap_alloc_new w (.cells #[.int .i64 g.b, .int .i64 g.n, .int .i64 g.came, .int .i64 g.marked, .slice A g.moves.length c] 24)
  have B0 := Lib.hid b0
  have N0 := Lib.hid n0
  have HR := Lib.hid (hr.below b0)
  have s0 : (w.alloc (.cells #[.int .i64 g.b, .int .i64 g.n, .int .i64 g.came, .int .i64 g.marked, .slice A g.moves.length c] 24)).heap.size = w.heap.size + 1 := by simp
  have hd := gm_draws_lt hg
  have GO := Lib.hid hg
  have LN : Hid (luckyN g = countTo (fun k => (tallyN g k).luck) g.draws) := Lib.hid rfl
  clear hr b0 n0 hg
  unfold gmVal
  go_enter Tryz.func14, Tryz.ntmps14
  go_upto_region 2 with fail
  generalize (w.alloc (.cells #[.int .i64 g.b, .int .i64 g.n, .int .i64 g.came, .int .i64 g.marked, .slice A g.moves.length c] 24)) = w1 at *
  have y0 := cell_of_row w1 w.heap.size 0 _ _ _ N0.out
  have y1 := cell_of_row w1 w.heap.size 1 _ _ _ N0.out
  have y2 := cell_of_row w1 w.heap.size 2 _ _ _ N0.out
  have y3 := cell_of_row w1 w.heap.size 3 _ _ _ N0.out
  have y4 := cell_of_row w1 w.heap.size 4 _ _ _ N0.out
  have K := Lib.hid (gam_drawsG g A c w1 GO.out HR.out)
  unfold gmVal at K
  go_wp2_with fail
  (with_reducible refine K.out.mono ?_)
  rintro e w2 ⟨rfl, b2⟩
  have B2 := Lib.hid b2
  have s2 := b2.size
  clear K b2 y0 y1 y2 y3 y4
  generalize g.draws = d at *
  go_wp2_with fail
  go_loopw [3, 9] (fun v3 iv wr => ∃ j : Nat, j ≤ d ∧ iv = .int .u64 j ∧ v3 = .int .u64 (countTo (fun k => (tallyN g k).luck) j) ∧ Hid (Below w1.heap.size w1 wr)) (fun _ iv _ => d - (intOf iv).toNat)
  case atStart => exact ⟨0, Nat.zero_le _, rfl, rfl, B2⟩
  case round =>
    obtain ⟨j, hj, rfl, rfl, B⟩ := hrel
    have sr := B.out.size
    by_cases hlt : j < d
    · have NR := Lib.hid ((B.out.block _ (lt_of_block N0.out)).trans N0.out)
      have y0 := cell_of_row wr w.heap.size 0 _ _ _ NR.out
      have y1 := cell_of_row wr w.heap.size 1 _ _ _ NR.out
      have y2 := cell_of_row wr w.heap.size 2 _ _ _ NR.out
      have y3 := cell_of_row wr w.heap.size 3 _ _ _ NR.out
      have y4 := cell_of_row wr w.heap.size 4 _ _ _ NR.out
      have hc := count_le (fun k => (tallyN g k).luck) j
      have CS := Lib.hid (count_step (fun k => (tallyN g k).luck) j)
      have K := Lib.hid (gam_tally g j A c wr GO.out (by omega) (HR.out.below B.out))
      unfold gmVal at K
      have wj : IntKind.u64.wrap ((j : Int) + 1) = (j : Int) + 1 := IntWalk.u64_in _ (by omega)
      generalize countTo (fun k => (tallyN g k).luck) j = ct at *
      have wc : IntKind.u64.wrap ((ct : Int) + 1) = (ct : Int) + 1 := IntWalk.u64_in _ (by omega)
      go_wp2_with fail
      (with_reducible refine K.out.mono ?_)
      rintro e w3 ⟨rfl, b3⟩
      have B3 := Lib.hid (B.out.trans (b3.mono sr))
      clear K b3 y0 y1 y2 y3 y4
      cases hL : (tallyN g j).luck with
      | true =>
        go_wp2
        go_roundw
        case rel => exact ⟨j + 1, by omega, by go_num, by rw [CS.out]; simp [hL], B3⟩
        case measure => simp [intOf]; omega
      | false =>
        go_wp2
        go_roundw
        case rel => exact ⟨j + 1, by omega, by go_num, by rw [CS.out]; simp [hL], B3⟩
        case measure => simp [intOf]; omega
    · obtain rfl : j = d := by omega
      go_wp2
      go_ret
      exact ⟨ret_int (by rw [LN.out]), B0.out.trans (B.out.mono (by omega))⟩

set_option maxHeartbeats 4000000 in
set_option maxRecDepth 100000 in
theorem gam_hidden (g : Gm) (n : Int) (A : Option Addr) (c : Nat) (w : World) (hg : g.ok) (hr : Rd w 6 A g.moves.length c (Mvs g.moves)) :
    Calls Tryz.prog 16 #[gmVal g A c, .int .i64 n] w fun e w' => e = .returned (.int .u64 (hiddenN g n)) ∧ Below w.heap.size w w' := by
  have b0 := box_below w (.cells #[.int .i64 g.b, .int .i64 g.n, .int .i64 g.came, .int .i64 g.marked, .slice A g.moves.length c] 24)
  have n0 := heap_alloc_new w (.cells #[.int .i64 g.b, .int .i64 g.n, .int .i64 g.came, .int .i64 g.marked, .slice A g.moves.length c] 24)
  have B0 := Lib.hid b0
  have N0 := Lib.hid n0
  have HR := Lib.hid (hr.below b0)
  have s0 : (w.alloc (.cells #[.int .i64 g.b, .int .i64 g.n, .int .i64 g.came, .int .i64 g.marked, .slice A g.moves.length c] 24)).heap.size = w.heap.size + 1 := by simp
  have hd := gm_draws_lt hg
  have GO := Lib.hid hg
  have LN : Hid (hiddenN g n = countTo (hiddenP g n) g.draws) := Lib.hid rfl
  clear hr b0 n0 hg
  unfold gmVal
  go_enter Tryz.func16, Tryz.ntmps16
  go_upto_region 2 with fail
  generalize (w.alloc (.cells #[.int .i64 g.b, .int .i64 g.n, .int .i64 g.came, .int .i64 g.marked, .slice A g.moves.length c] 24)) = w1 at *
  have y0 := cell_of_row w1 w.heap.size 0 _ _ _ N0.out
  have y1 := cell_of_row w1 w.heap.size 1 _ _ _ N0.out
  have y2 := cell_of_row w1 w.heap.size 2 _ _ _ N0.out
  have y3 := cell_of_row w1 w.heap.size 3 _ _ _ N0.out
  have y4 := cell_of_row w1 w.heap.size 4 _ _ _ N0.out
  have K := Lib.hid (gam_drawsG g A c w1 GO.out HR.out)
  unfold gmVal at K
  go_wp2_with fail
  (with_reducible refine K.out.mono ?_)
  rintro e w2 ⟨rfl, b2⟩
  have B2 := Lib.hid b2
  have s2 := b2.size
  clear K b2 y0 y1 y2 y3 y4
  generalize g.draws = d at *
  go_wp2_with fail
  go_loopw [5, 11] (fun v3 iv wr => ∃ j : Nat, j ≤ d ∧ iv = .int .u64 j ∧ v3 = .int .u64 (countTo (hiddenP g n) j) ∧ Hid (Below w1.heap.size w1 wr)) (fun _ iv _ => d - (intOf iv).toNat)
  case atStart => exact ⟨0, Nat.zero_le _, rfl, rfl, B2⟩
  case round =>
    obtain ⟨j, hj, rfl, rfl, B⟩ := hrel
    have sr := B.out.size
    by_cases hlt : j < d
    · have NR := Lib.hid ((B.out.block _ (lt_of_block N0.out)).trans N0.out)
      have y0 := cell_of_row wr w.heap.size 0 _ _ _ NR.out
      have y1 := cell_of_row wr w.heap.size 1 _ _ _ NR.out
      have y2 := cell_of_row wr w.heap.size 2 _ _ _ NR.out
      have y3 := cell_of_row wr w.heap.size 3 _ _ _ NR.out
      have y4 := cell_of_row wr w.heap.size 4 _ _ _ NR.out
      have hc := count_le (hiddenP g n) j
      have CS := Lib.hid (count_step (hiddenP g n) j)
      have K := Lib.hid (gam_tally g j A c wr GO.out (by omega) (HR.out.below B.out))
      unfold gmVal at K
      have wj : IntKind.u64.wrap ((j : Int) + 1) = (j : Int) + 1 := IntWalk.u64_in _ (by omega)
      generalize countTo (hiddenP g n) j = ct at *
      have wc : IntKind.u64.wrap ((ct : Int) + 1) = (ct : Int) + 1 := IntWalk.u64_in _ (by omega)
      go_wp2_with fail
      (with_reducible refine K.out.mono ?_)
      rintro e w3 ⟨rfl, b3⟩
      have B3 := Lib.hid (B.out.trans (b3.mono sr))
      clear K b3 y0 y1 y2 y3 y4
      cases hL : (tallyN g j).luck with
      | true =>
        go_wp2
        go_roundw
        case rel => exact ⟨j + 1, by omega, by go_num, by rw [CS.out]; simp [hiddenP, hL], B3⟩
        case measure => simp [intOf]; omega
      | false =>
        by_cases hT : ((tallyN g j).times : Int) ≥ n
        · have hk : decide (((tallyN g j).times : Int) ≥ n) = true := decide_eq_true hT
          have HH : Hid (hiddenP g n j = true) := Lib.hid (by simp [hiddenP, hL, hk])
          go_wp2
          go_roundw
          case rel => exact ⟨j + 1, by omega, by go_num, by rw [CS.out, HH.out]; simp, B3⟩
          case measure => simp [intOf]; omega
        · have hk : decide (((tallyN g j).times : Int) ≥ n) = false := decide_eq_false hT
          have HH : Hid (hiddenP g n j = false) := Lib.hid (by simp [hiddenP, hL, hk])
          go_wp2
          go_roundw
          case rel => exact ⟨j + 1, by omega, by go_num, by rw [CS.out, HH.out]; simp, B3⟩
          case measure => simp [intOf]; omega
    · obtain rfl : j = d := by omega
      go_wp2
      go_ret
      exact ⟨ret_int (by rw [LN.out]), B0.out.trans (B.out.mono (by omega))⟩

end Go.Proofs.YtpfmhkkglaghgaaGreat

namespace Go.Proofs.YtpfmhkkglaghgaaGreat
set_option linter.unusedSimpArgs false
set_option linter.unusedVariables false
set_option linter.unnecessarySimpa false
open Go.RowKit

set_option maxHeartbeats 1600000 in
theorem sameVd_yes (w : World) (A B : Option Addr) (c d : Nat) (l : List Vd) (ha : Rd w 4 A l.length c (Vds l)) (hb : Rd w 4 B l.length d (Vds l)) :
    Calls Tryz.prog 13 #[.slice A l.length c, .slice B l.length d] w fun e w' => e = .returned (.bool true) ∧ Qt w w' := by
  have h1 := ha.cap
  have h2 := ha.max
  unfold maxLen at h2
  go_enter Tryz.func13, Tryz.ntmps13
  go_wp2
  go_loopw [5] (fun i wr => ∃ k : Nat, k ≤ l.length ∧ i = .int .i64 k ∧ Qt w wr) (fun i _ => l.length - (intOf i).toNat)
  case atStart => exact ⟨0, Nat.zero_le _, rfl, Qt.refl _⟩
  case round =>
    obtain ⟨k, hk, rfl, n, rfl⟩ := hrel
    by_cases hlt : k < l.length
    · obtain ⟨b1, o1, rfl, d0, d1, d2, d3⟩ := ha.vd hlt
      obtain ⟨b2, o2, rfl, e0, e1, e2, e3⟩ := hb.vd hlt
      have i1 : (0 : Int) ≤ k := by omega
      have i2 : (k : Int) < l.length := by omega
      generalize l[k] = x at *
      go_wp2
      refine wp_region_qt (by kernel_rfl) (by kernel_rfl) ?_
      repeat (go_big_quiet_step (fail))
      refine wpQuiet_nil ?_
      intro w2 q2
      go_wp2
      exact ⟨⟨k + 1, by omega, by go_num, (show Qt w (w.drewN n) from ⟨n, rfl⟩).trans q2⟩, by simp [intOf]; omega⟩
    · go_wp2
      go_ret
      exact ⟨rfl, ⟨n, rfl⟩⟩

end Go.Proofs.YtpfmhkkglaghgaaGreat

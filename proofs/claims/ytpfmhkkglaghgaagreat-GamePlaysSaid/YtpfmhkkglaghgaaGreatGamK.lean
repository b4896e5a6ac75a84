/-
  Walks of the game: a sketch. · Walks of the game: a sketch made a game. · The game: the laws' examples. · The law GameLucky, walked.
-/
import Derived.Test.YtpfmhkkglaghgaaGreatGam5
import Derived.Test.YtpfmhkkglaghgaaGreatGamQ
namespace Go.Proofs.YtpfmhkkglaghgaaGreat
set_option linter.unusedSimpArgs false
set_option linter.unusedVariables false
set_option linter.unnecessarySimpa false
open Go.RowKit

def andA (x : Int) (m : Nat) : Nat := (bits .and .i64 x (m : Int)).toNat
theorem andA_spec (x : Int) {m : Nat} (hm : m < 16) : bits .and .i64 x (m : Int) = (andA x m : Int) ∧ (∀ i, (andA x m).testBit i = true → m.testBit i = true) ∧ andA x m < 16 := by
  have eM : (BitVec.ofInt 64 (m : Int)).toNat = m := ofInt_u64 m (by omega)
  have e : bits .and .i64 x (m : Int) = IntKind.i64.wrap ((BitVec.ofInt 64 x &&& BitVec.ofInt 64 (m : Int)).toNat : Int) := rfl
  have e1 : (BitVec.ofInt 64 x &&& BitVec.ofInt 64 (m : Int)).toNat = (BitVec.ofInt 64 x).toNat &&& m := by rw [BitVec.toNat_and, eM]
  have hle : (BitVec.ofInt 64 x).toNat &&& m ≤ m := Nat.and_le_right
  have e2 : bits .and .i64 x (m : Int) = (((BitVec.ofInt 64 x).toNat &&& m : Nat) : Int) := by
    rw [e, e1]
    exact IntWalk.i64_in _ (by omega)
  have e3 : andA x m = (BitVec.ofInt 64 x).toNat &&& m := by unfold andA; rw [e2]; omega
  refine ⟨by rw [e2, e3], fun i hi => ?_, by omega⟩
  rw [e3, Nat.testBit_and, Bool.and_eq_true] at hi
  exact hi.2

/-- A sketch of a game. -/
structure Sk where
  bits : Nat
  packets : Nat
  came : Nat
  marked : Nat
  moves : List MvR
structure Sk.fit (s : Sk) : Prop where
  bits : s.bits < 256
  packets : s.packets < 256
  came : s.came < 256
  marked : s.marked < 256
  moves : ∀ m ∈ s.moves, m.fit
def skMv (n : Nat) (m : MvR) : Mv := ⟨andA m.claim (2 ^ n - 1), andA m.mark (andA m.claim (2 ^ n - 1)), andA m.fr 3 % n, m.guess, m.flip, m.salt⟩
def Sk.n (s : Sk) : Nat := 1 + s.packets % 4
def Sk.game (s : Sk) (most moves : Nat) : Gm :=
  ⟨1 + s.bits % max 1 (min 6 (most / s.n)), s.n, s.came &&& (2 ^ s.n - 1), s.marked &&& (s.came &&& (2 ^ s.n - 1)), (s.moves.take moves).map (skMv s.n)⟩
theorem Sk.n_le (s : Sk) : 1 ≤ s.n ∧ s.n ≤ 4 := by unfold Sk.n; omega
theorem pow_le16 {n : Nat} (h : n ≤ 4) : 1 ≤ 2 ^ n ∧ 2 ^ n ≤ 16 := ⟨Nat.one_le_two_pow, Nat.pow_le_pow_right (n := 2) (by decide) (j := 4) h⟩
theorem skMv_ok {n : Nat} (h1 : 1 ≤ n) (h4 : n ≤ 4) {m : MvR} (h : m.fit) : (skMv n m).ok n := by
  have p := pow_le16 h4
  obtain ⟨-, a2, a3⟩ := andA_spec m.claim (m := 2 ^ n - 1) (by omega)
  obtain ⟨-, b2, b3⟩ := andA_spec m.mark (m := andA m.claim (2 ^ n - 1)) a3
  exact ⟨lt_bits a2, b2, Nat.mod_lt _ (by omega), h.salt⟩
theorem Sk.ok {s : Sk} (h : s.fit) {most moves : Nat} (hm : most ≤ 12) (hv : moves ≤ 8) : (s.game most moves).ok := by
  obtain ⟨n1, n4⟩ := s.n_le
  have p := pow_le16 n4
  have hb : s.bits % max 1 (min 6 (most / s.n)) < max 1 (min 6 (most / s.n)) := Nat.mod_lt _ (by omega)
  refine ⟨by show 1 ≤ 1 + _; omega, by show 1 + _ ≤ 6; omega, n1, n4, ?_, ?_, fun i hi => ?_, fun m hx => ?_, ?_⟩
  · show (1 + s.bits % max 1 (min 6 (most / s.n))) * s.n ≤ 12
    have hd : most / s.n * s.n ≤ most := Nat.div_mul_le_self _ _
    by_cases h1 : most / s.n < 1
    · have : s.bits % max 1 (min 6 (most / s.n)) = 0 := by omega
      rw [this]; omega
    · have h2 : 1 + s.bits % max 1 (min 6 (most / s.n)) ≤ most / s.n := by omega
      have := Nat.mul_le_mul_right s.n h2
      omega
  · show s.came &&& (2 ^ s.n - 1) < 2 ^ s.n
    have : s.came &&& (2 ^ s.n - 1) ≤ 2 ^ s.n - 1 := Nat.and_le_right
    omega
  · have hi : (s.marked &&& (s.came &&& (2 ^ s.n - 1))).testBit i = true := hi
    rw [Nat.testBit_and, Bool.and_eq_true] at hi
    exact hi.2
  · obtain ⟨x, hy, rfl⟩ := List.mem_map.1 hx
    exact skMv_ok n1 n4 (h.moves x (List.mem_of_mem_take hy))
  · show ((s.moves.take moves).map (skMv s.n)).length ≤ 8
    simp only [List.length_map, List.length_take]
    omega

end Go.Proofs.YtpfmhkkglaghgaaGreat

namespace Go.Proofs.YtpfmhkkglaghgaaGreat
set_option linter.unusedSimpArgs false
set_option linter.unusedVariables false
set_option linter.unnecessarySimpa false
open Go.RowKit

def skVal (s : Sk) (A : Option Addr) (c : Nat) : Value := .agg #[.int .u8 s.bits, .int .u8 s.packets, .int .u8 s.came, .int .u8 s.marked, .slice A s.moves.length c]
theorem gbox3 (w : World) (o1 o2 o3 : Obj) : (((w.alloc o1).alloc o2).alloc o3).heap[w.heap.size]? = some o1 ∧ (((w.alloc o1).alloc o2).alloc o3).heap[w.heap.size + 1]? = some o2 ∧ (((w.alloc o1).alloc o2).alloc o3).heap[w.heap.size + 2]? = some o3 ∧ Below w.heap.size w (((w.alloc o1).alloc o2).alloc o3) ∧ (((w.alloc o1).alloc o2).alloc o3).heap.size = w.heap.size + 3 := by
  obtain ⟨h1, h2, h3, h4⟩ := gbox2 w o1 o2
  have e := box_below ((w.alloc o1).alloc o2) o3
  have n := heap_alloc_new ((w.alloc o1).alloc o2) o3
  rw [h4] at n
  exact ⟨(e.block _ (by omega)).trans h1, (e.block _ (by omega)).trans h2, n, h3.trans (e.mono (by omega)), by simp [h4]⟩
theorem and_u8 (a m : Nat) (ha : a < 256) (hm : m < 16) : bits .and .i64 (a : Int) (m : Int) = ((a &&& m : Nat) : Int) := by
  have eA : (BitVec.ofInt 64 (a : Int)).toNat = a := ofInt_u64 a (by omega)
  have eM : (BitVec.ofInt 64 (m : Int)).toNat = m := ofInt_u64 m (by omega)
  have e : bits .and .i64 (a : Int) (m : Int) = IntKind.i64.wrap ((BitVec.ofInt 64 (a : Int) &&& BitVec.ofInt 64 (m : Int)).toNat : Int) := rfl
  rw [e, BitVec.toNat_and, eA, eM]
  have hle : a &&& m ≤ m := Nat.and_le_right
  exact IntWalk.i64_in _ (by omega)
def zeroG : Array Value := #[.int .i64 0, .int .i64 0, .int .i64 0, .int .i64 0, .slice none 0 0]
structure SkC (w : World) (s : Sk) (A : Option Addr) (c : Nat) (b n cm mk : Int) (V : Value) (W : World) : Prop where
  t0 : W.heap[w.heap.size]? = some (.cells #[.int .u8 s.bits, .int .u8 s.packets, .int .u8 s.came, .int .u8 s.marked, .slice A s.moves.length c] 26 (0, 0))
  t1 : W.heap[w.heap.size + 1]? = some (.cells #[.int .i64 0, .int .i64 0, .int .i64 0, .int .i64 0, .slice none 0 0] 24 (0, 0))
  t2 : W.heap[w.heap.size + 2]? = some (.cells #[.int .i64 b, .int .i64 n, .int .i64 cm, .int .i64 mk, V] 24 (0, 0))
  bel : Below w.heap.size w W
section
variable {w W W' : World} {s : Sk} {A : Option Addr} {c : Nat} {b n cm mk : Int} {V : Value}
theorem SkC.below (h : SkC w s A c b n cm mk V W) (q : Below W.heap.size W W') : SkC w s A c b n cm mk V W' :=
  ⟨(q.block _ (lt_of_block h.t0)).trans h.t0, (q.block _ (lt_of_block h.t1)).trans h.t1, (q.block _ (lt_of_block h.t2)).trans h.t2, h.bel.trans (q.mono h.bel.size)⟩
theorem SkC.chg {F : Nat → Prop} (h : SkC w s A c b n cm mk V W) (q : Chg F W W') (hF : ∀ x, x ≤ w.heap.size + 2 → ¬ F x) : SkC w s A c b n cm mk V W' :=
  ⟨q.blk h.t0 (hF _ (by omega)), q.blk h.t1 (hF _ (by omega)), q.blk h.t2 (hF _ (by omega)), h.bel.trans (q.below h.bel.size (fun x hx => hF x (by omega)))⟩
theorem SkC.put (h : SkC w s A c b n cm mk V W) (i : Nat) (x : Value) {b' n' cm' mk' : Int} {V' : Value} (e : (#[.int .i64 b, .int .i64 n, .int .i64 cm, .int .i64 mk, V] : Array Value).setIfInBounds i x = #[.int .i64 b', .int .i64 n', .int .i64 cm', .int .i64 mk', V']) : SkC w s A c b' n' cm' mk' V' (W.setCell ⟨w.heap.size + 2, i, none⟩ x) := by
  refine ⟨(heap_setCell_other _ ⟨w.heap.size + 2, i, none⟩ w.heap.size _ (by simp)).trans h.t0, (heap_setCell_other _ ⟨w.heap.size + 2, i, none⟩ (w.heap.size + 1) _ (by simp)).trans h.t1, ?_, h.bel.setCell (by show w.heap.size ≤ w.heap.size + 2; omega) _⟩
  have := heap_setCell_same W (w.heap.size + 2) i _ _ x h.t2
  rw [this, e]
theorem SkC.put0 {x b' : Int} (h : SkC w s A c b n cm mk V W) (e : x = b') : SkC w s A c b' n cm mk V (W.setCell ⟨w.heap.size + 2, 0, none⟩ (.int .i64 x)) := by subst e; exact h.put 0 _ rfl
theorem SkC.put2 {x b' : Int} (h : SkC w s A c b n cm mk V W) (e : x = b') : SkC w s A c b n b' mk V (W.setCell ⟨w.heap.size + 2, 2, none⟩ (.int .i64 x)) := by subst e; exact h.put 2 _ rfl
theorem SkC.put3 {x b' : Int} (h : SkC w s A c b n cm mk V W) (e : x = b') : SkC w s A c b n cm b' V (W.setCell ⟨w.heap.size + 2, 3, none⟩ (.int .i64 x)) := by subst e; exact h.put 3 _ rfl
theorem SkC.put4 {V' : Value} (h : SkC w s A c b n cm mk V W) : SkC w s A c b n cm mk V' (W.setCell ⟨w.heap.size + 2, 4, none⟩ V') := h.put 4 _ rfl
end

set_option maxHeartbeats 4000000 in
set_option maxRecDepth 100000 in
theorem sk_game (s : Sk) (most moves : Nat) (A : Option Addr) (c : Nat) (w : World) (hs : s.fit) (hm : most ≤ 12) (hv : moves ≤ 8) (hr : Rd w 6 A s.moves.length c (MvsR s.moves)) :
    Calls Tryz.prog 6 #[skVal s A c, .int .i64 most, .int .i64 moves] w fun e w' => ∃ B d, e = .returned (gmVal (s.game most moves) B d) ∧ Rd w' 6 B (s.game most moves).moves.length d (Mvs (s.game most moves).moves) ∧ Below w.heap.size w w' := by
  have h1 := hs.bits
  have h2 := hs.packets
  have h3 := hs.came
  have h4 := hs.marked
  have HS := Lib.hid hs
  have HR := Lib.hid hr
  have hl63 := hr.cap
  have hl64 := hr.max
  unfold maxLen at hl64
  have hn : (1 + (s.packets : Int) % 4) = (s.n : Int) := by unfold Sk.n; omega
  have hn14 := s.n_le
  have g3 := gbox3 w (.cells #[.int .u8 s.bits, .int .u8 s.packets, .int .u8 s.came, .int .u8 s.marked, .slice A s.moves.length c] 26) (.cells #[.int .i64 0, .int .i64 0, .int .i64 0, .int .i64 0, .slice none 0 0] 24) (.cells #[.int .i64 0, .int .i64 s.n, .int .i64 0, .int .i64 0, .slice none 0 0] 24)
  have S0 : Hid (SkC w s A c 0 s.n 0 0 (.slice none 0 0) (((w.alloc (.cells #[.int .u8 s.bits, .int .u8 s.packets, .int .u8 s.came, .int .u8 s.marked, .slice A s.moves.length c] 26)).alloc (.cells #[.int .i64 0, .int .i64 0, .int .i64 0, .int .i64 0, .slice none 0 0] 24)).alloc (.cells #[.int .i64 0, .int .i64 s.n, .int .i64 0, .int .i64 0, .slice none 0 0] 24))) := Lib.hid ⟨g3.1, g3.2.1, g3.2.2.1, g3.2.2.2.1⟩
  have z0 : Hid ((((w.alloc (.cells #[.int .u8 s.bits, .int .u8 s.packets, .int .u8 s.came, .int .u8 s.marked, .slice A s.moves.length c] 26)).alloc (.cells #[.int .i64 0, .int .i64 0, .int .i64 0, .int .i64 0, .slice none 0 0] 24)).alloc (.cells #[.int .i64 0, .int .i64 s.n, .int .i64 0, .int .i64 0, .slice none 0 0] 24)).heap.size = w.heap.size + 3) := Lib.hid g3.2.2.2.2
  have HN := Lib.hid hn
  clear hs hr g3 hn
  unfold skVal
  go_enter Tryz.func6, Tryz.ntmps6
  go_upto_region 2 with fail
  rw [HN.out]
  generalize (((w.alloc (.cells #[.int .u8 s.bits, .int .u8 s.packets, .int .u8 s.came, .int .u8 s.marked, .slice A s.moves.length c] 26)).alloc (.cells #[.int .i64 0, .int .i64 0, .int .i64 0, .int .i64 0, .slice none 0 0] 24)).alloc (.cells #[.int .i64 0, .int .i64 s.n, .int .i64 0, .int .i64 0, .slice none 0 0] 24)) = w3 at *
  have x0 : w3.cell? ⟨w.heap.size, 0, none⟩ = some (.int .u8 s.bits) := cell_of_row w3 w.heap.size 0 _ _ _ S0.out.t0
  have y1 : w3.cell? ⟨w.heap.size + 2, 1, none⟩ = some (.int .i64 s.n) := cell_of_row w3 (w.heap.size + 2) 1 _ _ _ S0.out.t2
  have m0 := mixF_cell (F := fun _ => False) x0 id
  have m1 := mixF_cell (F := fun _ => False) y1 id
  clear x0 y1
  have HB0 : Hid (∃ q : Nat, (most : Int) / (s.n : Int) = (q : Int) ∧ q = most / s.n) := Lib.hid ⟨most / s.n, by simp, rfl⟩
  obtain ⟨q, hq, eq⟩ := HB0.out
  have q12 : q ≤ 12 := by rw [eq]; exact Nat.le_trans (Nat.div_le_self _ _) hm
  have EQ := Lib.hid eq
  clear eq HB0
  go_cut [] (fun wx => Hid (SkC w s A c ((1 + s.bits % max 1 (min 6 q) : Nat) : Int) s.n 0 0 (.slice none 0 0) wx ∧ wx.heap.size = w.heap.size + 3))
  case first =>
    rcases (show q ≤ 1 ∨ (1 < q ∧ q < 6) ∨ 6 ≤ q by omega) with h | h | h
    case' inl =>
      have a1 : (q : Int) < 6 := by omega
      have a2 : ¬ ((1 : Int) < q) := by omega
      have E : Hid (1 + s.bits % max 1 (min 6 q) = 1) := Lib.hid (by rw [show max 1 (min 6 q) = 1 by omega]; omega)
    case' inr.inl =>
      have a1 : (q : Int) < 6 := by omega
      have a2 : ((1 : Int) < q) := by omega
      have a3 : 0 ≤ (s.bits : Int) % (q : Int) ∧ (s.bits : Int) % (q : Int) < 6 := by
        have h5 := Int.emod_nonneg (s.bits : Int) (show (q : Int) ≠ 0 by omega)
        have h6 := Int.emod_lt_of_pos (s.bits : Int) (show (0 : Int) < q by omega)
        omega
      have E : Hid (1 + s.bits % max 1 (min 6 q) = 1 + s.bits % q) := Lib.hid (by rw [show max 1 (min 6 q) = q by omega])
    case' inr.inr =>
      have a1 : ¬ ((q : Int) < 6) := by omega
      have E : Hid (1 + s.bits % max 1 (min 6 q) = 1 + s.bits % 6) := Lib.hid (by rw [show max 1 (min 6 q) = 6 by omega])
    all_goals
      clear h
      refine wp_region_chgE (fun _ => False) (by kernel_rfl) (by kernel_rfl) ?_
      repeat (refine wpMixE_seg 1 _ _ rfl ?_; simp only [List.take_succ_cons, List.take_zero, List.drop_succ_cons, List.drop_zero]; go_big_quiet_step (fail); refine wpQuiet_nil ?_)
      generalize hwd : w3.drew = wd at *
      have S1 : Hid (SkC w s A c 0 s.n 0 0 (.slice none 0 0) wd) := Lib.hid (by rw [← hwd]; exact S0.out.below (Below.refl _ _).drew)
      have z1 : Hid (wd.heap.size = w.heap.size + 3) := Lib.hid (by rw [← hwd]; exact z0.out)
      clear hwd
      have c2' := cell_of_row wd (w.heap.size + 2) 0 _ _ _ S1.out.t2
      have fc2 := frozen_of_row wd (w.heap.size + 2) 0 _ _ S1.out.t2
      have hlt := lt_of_block S1.out.t2
      refine wpMixE_bar rfl (by rfl) ?_
      go_wp2
      refine mixGo_fin ?_
      go_wp2
      go_meet
      exact Lib.hid ⟨S1.out.put0 (by rw [E.out]; try simp), by simp; exact z1.out⟩
  case rest =>
    have S1 := Lib.hid hcut.out.1
    have z1 := Lib.hid hcut.out.2
    clear hcut S0 z0 m0 m1
    have hb : 1 + s.bits % max 1 (min 6 q) ≤ 6 := by
      have := Nat.mod_lt s.bits (show max 1 (min 6 q) > 0 by omega)
      omega
    rw [EQ.out] at hb S1
    obtain ⟨b, hbe⟩ : ∃ b, b = 1 + s.bits % max 1 (min 6 (most / s.n)) := ⟨_, rfl⟩
    rw [← hbe] at hb S1
    have HBE := Lib.hid hbe
    clear hbe
    have y1 : wc.cell? ⟨w.heap.size + 2, 1, none⟩ = some (.int .i64 s.n) := cell_of_row wc (w.heap.size + 2) 1 _ _ _ S1.out.t2
    have pn : Hid (wrap64 (wrap64 ((2 : Int) ^ s.n) - 1) = ((2 ^ s.n - 1 : Nat) : Int)) := Lib.hid (by
      have p := pow_le16 hn14.2
      have ep : ((2 : Int) ^ s.n) = ((2 ^ s.n : Nat) : Int) := by simp
      rw [wrap64_in (x := (2 : Int) ^ s.n) (by omega), wrap64_in (by omega)]
      exact pow_nat s.n)
    have al16 : 2 ^ s.n - 1 < 16 := by have := pow_le16 hn14.2; omega
    go_upto_region 4 with fail
    rw [pn.out]
    obtain ⟨al, hal⟩ : ∃ al, al = 2 ^ s.n - 1 := ⟨_, rfl⟩
    rw [← hal] at al16 ⊢
    have HA := Lib.hid hal
    clear hal y1
    have hcm : s.came &&& al < 16 := by have : s.came &&& al ≤ al := Nat.and_le_right; omega
    have hmk : s.marked &&& (s.came &&& al) < 16 := by have : s.marked &&& (s.came &&& al) ≤ (s.came &&& al) := Nat.and_le_right; omega
    have e1 := and_u8 s.came al h3 al16
    have e2 := and_u8 s.marked (s.came &&& al) h4 hcm
    obtain ⟨cm, hcm'⟩ : ∃ cm, cm = s.came &&& al := ⟨_, rfl⟩
    rw [← hcm'] at e1 e2 hcm hmk
    obtain ⟨mk, hmk'⟩ : ∃ mk, mk = s.marked &&& cm := ⟨_, rfl⟩
    rw [← hmk'] at e2 hmk
    have HC := Lib.hid hcm'
    have HM := Lib.hid hmk'
    clear hcm' hmk'
    have x2 : wc.cell? ⟨w.heap.size, 2, none⟩ = some (.int .u8 s.came) := cell_of_row wc w.heap.size 2 _ _ _ S1.out.t0
    have y2 := cell_of_row wc (w.heap.size + 2) 2 _ _ _ S1.out.t2
    have fy2 := frozen_of_row wc (w.heap.size + 2) 2 _ _ S1.out.t2
    go_upto_region 5 with fail
    have S2 : Hid (SkC w s A c b s.n cm 0 (.slice none 0 0) (wc.setCell ⟨w.heap.size + 2, 2, none⟩ (.int .i64 cm)) ∧ (wc.setCell ⟨w.heap.size + 2, 2, none⟩ (.int .i64 cm)).heap.size = w.heap.size + 3) := Lib.hid ⟨S1.out.put2 rfl, by simp; exact z1.out⟩
    clear x2 y2 fy2 e1 S1 z1
    generalize (wc.setCell ⟨w.heap.size + 2, 2, none⟩ (.int .i64 cm)) = w4 at *
    have x3 : w4.cell? ⟨w.heap.size, 3, none⟩ = some (.int .u8 s.marked) := cell_of_row w4 w.heap.size 3 _ _ _ S2.out.1.t0
    have y2 : w4.cell? ⟨w.heap.size + 2, 2, none⟩ = some (.int .i64 cm) := cell_of_row w4 (w.heap.size + 2) 2 _ _ _ S2.out.1.t2
    have y3 := cell_of_row w4 (w.heap.size + 2) 3 _ _ _ S2.out.1.t2
    have fy3 := frozen_of_row w4 (w.heap.size + 2) 3 _ _ S2.out.1.t2
    go_upto_region 6 with fail
    have S3 : Hid (SkC w s A c b s.n cm mk (.slice none 0 0) (w4.setCell ⟨w.heap.size + 2, 3, none⟩ (.int .i64 mk)) ∧ (w4.setCell ⟨w.heap.size + 2, 3, none⟩ (.int .i64 mk)).heap.size = w.heap.size + 3) := Lib.hid ⟨S2.out.1.put3 rfl, by simp; exact S2.out.2⟩
    clear x3 y2 y3 fy3 e2 S2
    generalize (w4.setCell ⟨w.heap.size + 2, 3, none⟩ (.int .i64 mk)) = w5 at *
    go_wp2_with fail
    go_loopw [9] (fun v9 wr => ∃ (j : Nat) (V : Value), j ≤ s.moves.length ∧ j ≤ moves ∧ v9 = .int .i64 j ∧ Hid (SkC w s A c b s.n cm mk V wr) ∧ Hid (wr.ownsRow (w.heap.size + 3) 41 6 V j (Mvs ((s.moves.take j).map (skMv s.n)))) ∧ Hid (w.heap.size + 3 ≤ wr.heap.size)) (fun v9 _ => moves - (intOf v9).toNat)
    case atStart => exact ⟨0, _, Nat.zero_le _, Nat.zero_le _, rfl, Lib.hid S3.out.1, Lib.hid (World.ownsRow_nil _ _ _ _), Lib.hid (by have := S3.out.2; omega)⟩
    case round =>
      obtain ⟨j, V, hj1, hj2, rfl, SC, OW, Z⟩ := hrel
      clear S3
      have x4 : wr.cell? ⟨w.heap.size, 4, none⟩ = some (.slice A s.moves.length c) := cell_of_row wr w.heap.size 4 _ _ _ SC.out.t0
      have f1 : (0 : Int) ≤ j := by omega
      rcases (show (j < s.moves.length ∧ j < moves) ∨ (j < s.moves.length ∧ j = moves) ∨ j = s.moves.length by omega) with ⟨hlt, hlt2⟩ | ⟨hlt, hlt2⟩ | hlt
      · have f2 : (j : Int) < s.moves.length := by omega
        have f3 : (j : Int) < moves := by omega
        obtain ⟨bb, off, eA, c0, c1, c2, c3, c4, c5⟩ := MvsR.mv (HR.out.below SC.out.bel) hlt
        have HT := Lib.hid (List.take_succ_eq_append_getElem hlt)
        have HF := Lib.hid (HS.out.moves _ (List.getElem_mem hlt))
        subst eA
        generalize s.moves[j] = m at *
        have y1 : wr.cell? ⟨w.heap.size + 2, 1, none⟩ = some (.int .i64 s.n) := cell_of_row wr (w.heap.size + 2) 1 _ _ _ SC.out.t2
        have HV : Hid ((skMv s.n m).vals = [.int .i64 (andA m.claim al : Nat), .int .i64 (andA m.mark (andA m.claim al) : Nat), .int .i64 (andA m.fr 3 % s.n : Nat), .bool m.guess, .bool m.flip, .int .u64 m.salt]) := Lib.hid (by rw [HA.out]; rfl)
        obtain ⟨e1, -, l1⟩ := andA_spec m.claim al16
        obtain ⟨e2, -, l2⟩ := andA_spec m.mark l1
        obtain ⟨e3', -, l3⟩ := andA_spec m.fr (m := 3) (by omega)
        have e3 : bits .and .i64 m.fr 3 = (andA m.fr 3 : Int) := e3'
        have e4 : ((andA m.fr 3 : Nat) : Int) % (s.n : Int) = ((andA m.fr 3 % s.n : Nat) : Int) := by simp
        clear e3'
        generalize andA m.claim al = a1 at *
        generalize andA m.mark a1 = a2 at *
        generalize andA m.fr 3 = a3 at *
        generalize a3 % s.n = a4 at *
        have hz : w.heap.size + 2 < wr.heap.size := by have := Z.out; omega
        have hz2 : w.heap.size + 1 + 1 < wr.heap.size := hz
        have hn0 : (1 : Int) ≤ (s.n : Int) := by omega
        go_upto_region 13 with fail
        have HB := Lib.hid (box_below wr (.cells #[.int .i64 a1, .int .i64 a2, .int .i64 a4, .bool m.guess, .bool m.flip, .int .u64 m.salt] 41))
        have HN := Lib.hid (heap_alloc_new wr (.cells #[.int .i64 a1, .int .i64 a2, .int .i64 a4, .bool m.guess, .bool m.flip, .int .u64 m.salt] 41))
        clear c0 c1 c2 c3 c4 c5 e1 e2 e3 e4 x4 y1
        generalize (wr.alloc (.cells #[.int .i64 a1, .int .i64 a2, .int .i64 a4, .bool m.guess, .bool m.flip, .int .u64 m.salt] 41)) = wx at *
        have SX := Lib.hid (SC.out.below HB.out)
        have OX := Lib.hid (own_bel OW.out HB.out)
        have zx := HB.out.size
        obtain ⟨VA, vc, rfl, -⟩ := own_slice OX.out
        have y4 : wx.cell? ⟨w.heap.size + 2, 4, none⟩ = some (.slice VA j vc) := cell_of_row wx (w.heap.size + 2) 4 _ _ _ SX.out.t2
        have z0 := cell_of_row wx wr.heap.size 0 _ _ _ HN.out
        have z1 := cell_of_row wx wr.heap.size 1 _ _ _ HN.out
        have z2 := cell_of_row wx wr.heap.size 2 _ _ _ HN.out
        have z3 := cell_of_row wx wr.heap.size 3 _ _ _ HN.out
        have z4 := cell_of_row wx wr.heap.size 4 _ _ _ HN.out
        have z5 := cell_of_row wx wr.heap.size 5 _ _ _ HN.out
        obtain ⟨iM, hiM, mz0, mz1, mz2⟩ := info_parts infoMv3
        generalize hout : ((s.moves.take j).map (skMv s.n)) = out at *
        have HO := Lib.hid hout
        clear hout
        have VL := Lib.hid (fun x e => (OX.out.lt x e).1)
        go_wp2_with (
          at_builtin
          refine wpList_append_rd _ rfl (.tmp 83) (.tmp 85) 22 rfl (w.heap.size + 3) 41 iM _ 6 40 Tryz.underlying22 hiM mz0 mz1 mz2 rfl (by decide) (.slice VA j vc) j (Mvs out) rfl (own_bel OX.out (box_below _ _)) _ 1 1 [.int .i64 a1, .int .i64 a2, .int .i64 a4, .bool m.guess, .bool m.flip, .int .u64 m.salt] rfl (Rd.lit wx 6 #[.int .i64 a1, .int .i64 a2, .int .i64 a4, .bool m.guess, .bool m.flip, .int .u64 m.salt] 41 1 _ rfl (by simp) (by unfold maxLen; omega)) (by simp [Value.oneCell']) (by unfold maxLen; omega) (by omega) (by simp; omega) ?_
          intro v6 w6 ho6 hg6 hv6
          obtain ⟨A6, c6, ev6, hA6⟩ := own_slice ho6
          subst ev6
          clear hA6
          have B6 : Hid (Below wx.heap.size wx (wx.alloc (.cells #[.int .i64 a1, .int .i64 a2, .int .i64 a4, .bool m.guess, .bool m.flip, .int .u64 m.salt] 41))) := Lib.hid (box_below wx _)
          have S6 := Lib.hid ((SX.out.below B6.out).chg (grown_ch hg6) (fun x hx e => by have := VL.out x e; omega))
          have HO6 := Lib.hid ho6
          have Z6 := Lib.hid (Nat.le_trans B6.out.size hg6.size)
          clear ho6 hg6 hv6
          have y5 := cell_of_row w6 (w.heap.size + 2) 4 _ _ _ S6.out.t2
          have fy5 := frozen_of_row w6 (w.heap.size + 2) 4 _ _ S6.out.t2)
        go_roundw
        case rel => 
          refine ⟨j + 1, _, by omega, by omega, by go_num, Lib.hid (S6.out.put4), Lib.hid ?_, Lib.hid (by simp; have := Z6.out; omega)⟩
          rw [HT.out, List.map_append, HO.out, Mvs_app]
          have e : Mvs (List.map (skMv s.n) [m]) = (skMv s.n m).vals := by simp [Mvs]
          rw [e, HV.out]
          exact ownsRow_setCell_other HO6.out (fun e => by have h := (HO6.out.lt _ e).1; simp only at h; omega) _
        case measure => simp [intOf]; omega
      case' inr.inl =>
        have f2 : (j : Int) < s.moves.length := by omega
        have f3 : ¬ (j : Int) < moves := by omega
        have HE : Hid ((s.moves.take j).map (skMv s.n) = (s.moves.take moves).map (skMv s.n) ∧ j = ((s.moves.take moves).map (skMv s.n)).length) := Lib.hid ⟨by rw [hlt2], by rw [List.length_map, List.length_take]; omega⟩
        clear hlt2
      case' inr.inr =>
        have f2 : ¬ (j : Int) < s.moves.length := by omega
        have HE : Hid ((s.moves.take j).map (skMv s.n) = (s.moves.take moves).map (skMv s.n) ∧ j = ((s.moves.take moves).map (skMv s.n)).length) := Lib.hid ⟨by rw [List.take_of_length_le (by omega), List.take_of_length_le (by omega)], by rw [List.length_map, List.length_take]; omega⟩
      all_goals
        clear hlt
        obtain ⟨VA, vc, rfl, -⟩ := own_slice OW.out
        have y0 := cell_of_row wr (w.heap.size + 2) 0 _ _ _ SC.out.t2
        have y1 := cell_of_row wr (w.heap.size + 2) 1 _ _ _ SC.out.t2
        have y2 := cell_of_row wr (w.heap.size + 2) 2 _ _ _ SC.out.t2
        have y3 := cell_of_row wr (w.heap.size + 2) 3 _ _ _ SC.out.t2
        have y4 := cell_of_row wr (w.heap.size + 2) 4 _ _ _ SC.out.t2
        have z0 := cell_of_row wr (w.heap.size + 1) 0 _ _ _ SC.out.t1
        have fz0 := frozen_of_row wr (w.heap.size + 1) 0 _ _ SC.out.t1
        have z1 := cell_of_row wr (w.heap.size + 1) 1 _ _ _ SC.out.t1
        have fz1 := frozen_of_row wr (w.heap.size + 1) 1 _ _ SC.out.t1
        have z2 := cell_of_row wr (w.heap.size + 1) 2 _ _ _ SC.out.t1
        have fz2 := frozen_of_row wr (w.heap.size + 1) 2 _ _ SC.out.t1
        have z3 := cell_of_row wr (w.heap.size + 1) 3 _ _ _ SC.out.t1
        have fz3 := frozen_of_row wr (w.heap.size + 1) 3 _ _ SC.out.t1
        have z4 := cell_of_row wr (w.heap.size + 1) 4 _ _ _ SC.out.t1
        have fz4 := frozen_of_row wr (w.heap.size + 1) 4 _ _ SC.out.t1
        have q := fill_all [.int .i64 b, .int .i64 s.n, .int .i64 cm, .int .i64 mk, .slice VA j vc] SC.out.t1 rfl
        have hf := fill_chg (w.heap.size + 1) [.int .i64 b, .int .i64 s.n, .int .i64 cm, .int .i64 mk, .slice VA j vc] wr 0
        simp only [fillFrom] at q hf
        have HQ := Lib.hid q
        have HF := Lib.hid hf
        clear q hf
        go_wp2
        (try simp only [Exit.inBlock, Exit.then])
        refine bodyPost_ret (results_cell_row rfl _ _ (w.heap.size + 1) _ _ _ _ rfl HQ.out Tryz.underlying24 rfl (by kernel_rfl)) rfl ?_
        have HG : s.game most moves = ⟨b, s.n, cm, mk, (s.moves.take moves).map (skMv s.n)⟩ := by rw [HBE.out, HM.out, HC.out, HA.out]; rfl
        rw [HG]
        have OF := own_chg OW.out HF.out (fun x hx e => by have := (OW.out.lt x hx).1; omega)
        have RF := Rd.of_own OF
        rw [HE.out.1] at RF
        refine ⟨VA, vc, ?_, ?_, SC.out.bel.trans (HF.out.below SC.out.bel.size (fun j hj e => by omega))⟩
        · unfold gmVal
          simp only
          rw [← HE.out.2]
        · simp only
          rw [← HE.out.2]
          exact RF

end Go.Proofs.YtpfmhkkglaghgaaGreat

namespace Go.Proofs.YtpfmhkkglaghgaaGreat
set_option linter.unusedSimpArgs false
set_option linter.unusedVariables false
set_option linter.unnecessarySimpa false
open Go.RowKit

def mvA : Mv := ⟨1, 0, 0, false, false, 0⟩
def gmA : Gm := ⟨1, 1, 1, 0, [mvA]⟩
def gmB : Gm := ⟨1, 1, 0, 0, [mvA]⟩
theorem mvA_ok : mvA.ok 1 := ⟨by decide, fun i h => by simp [mvA] at h, by decide, ⟨by decide, by decide⟩⟩
theorem gmA_ok : gmA.ok := ⟨by decide, by decide, by decide, by decide, by decide, by decide, fun i h => by simp [gmA] at h, fun m hm => by rw [List.mem_singleton.1 hm]; exact mvA_ok, by decide⟩
theorem gmB_ok : gmB.ok := ⟨by decide, by decide, by decide, by decide, by decide, by decide, fun i h => by simp [gmB] at h, fun m hm => by rw [List.mem_singleton.1 hm]; exact mvA_ok, by decide⟩
theorem playA : playedN gmA 3 0 = [(⟨2, 0, 0, false⟩, mvA)] := by
  rw [playedS _ _ _ gmA_ok]
  rfl
theorem luckyA : luckyN gmA = 0 := by
  unfold luckyN
  refine count_none (fun k => ?_) _
  rw [(tally_run gmA_ok k).1]
  cases h : lkN gmA k with
  | none => rfl
  | some j =>
    obtain ⟨hj, hc⟩ := lk_at _ _ _ _ _ _ h
    have : j = 0 := by have : j < 1 := hj; omega
    subst this
    exact absurd (by simp [gmA, mvA]) hc
theorem luckyB : luckyN gmB ≤ 2 := by
  have h := lucky_le gmB_ok
  have e1 : 2 ^ gmB.b = 2 := rfl
  have e2 : gmB.draws = 4 := rfl
  have e3 : gmB.moves.length = 1 := rfl
  rw [e1, e2, e3] at h
  omega
theorem mayZ : rawB 0 0 0 0 [] = false := decide_eq_false (fun h => by have := h.1.1; omega)
theorem drawsZ : rawDraws 0 0 0 0 [] = 0 := by unfold rawDraws; rw [mayZ]; rfl
structure AlvG (a b c d : Nat) (W : World) : Prop where
  r1 : Rd W 6 (some ⟨a, 0, none⟩) 1 1 (Mvs [mvA])
  t1 : W.heap[b]? = some (.cells #[.int .i64 1, .int .i64 1, .int .i64 1, .int .i64 0, .slice (some ⟨a, 0, none⟩) 1 1] 24 (0, 0))
  r2 : Rd W 6 (some ⟨c, 0, none⟩) 1 1 (Mvs [mvA])
  t2 : W.heap[d]? = some (.cells #[.int .i64 1, .int .i64 1, .int .i64 0, .int .i64 0, .slice (some ⟨c, 0, none⟩) 1 1] 24 (0, 0))
theorem AlvG.below {a b c d : Nat} {W W' : World} (h : AlvG a b c d W) (q : Below W.heap.size W W') : AlvG a b c d W' :=
  ⟨h.r1.below q, (q.block _ (lt_of_block h.t1)).trans h.t1, h.r2.below q, (q.block _ (lt_of_block h.t2)).trans h.t2⟩
theorem gbox4 (w : World) (o1 o2 o3 o4 : Obj) : ((((w.alloc o1).alloc o2).alloc o3).alloc o4).heap[w.heap.size]? = some o1 ∧ ((((w.alloc o1).alloc o2).alloc o3).alloc o4).heap[w.heap.size + 1]? = some o2 ∧ ((((w.alloc o1).alloc o2).alloc o3).alloc o4).heap[w.heap.size + 2]? = some o3 ∧ ((((w.alloc o1).alloc o2).alloc o3).alloc o4).heap[w.heap.size + 3]? = some o4 ∧ Below w.heap.size w ((((w.alloc o1).alloc o2).alloc o3).alloc o4) ∧ ((((w.alloc o1).alloc o2).alloc o3).alloc o4).heap.size = w.heap.size + 4 := by
  obtain ⟨h1, h2, h3, h4, h5⟩ := gbox3 w o1 o2 o3
  have e := box_below (((w.alloc o1).alloc o2).alloc o3) o4
  have n := heap_alloc_new (((w.alloc o1).alloc o2).alloc o3) o4
  rw [h5] at n
  exact ⟨(e.block _ (by omega)).trans h1, (e.block _ (by omega)).trans h2, (e.block _ (by omega)).trans h3, n, h4.trans (e.mono (by omega)), by simp [h5]⟩

theorem gamA_play (A : Option Addr) (c : Nat) (w : World) (h : Rd w 6 A 1 c (Mvs [mvA])) :
    Calls Tryz.prog 8 #[.agg #[.int .i64 1, .int .i64 1, .int .i64 1, .int .i64 0, .slice A 1 c], .int .u64 3] w fun e w' => ∃ VA vc, e = .returned (.tuple #[.slice VA 1 vc, .bool true]) ∧ Rd w' 4 VA 1 vc (Vds [⟨2, 0, 0, false⟩]) ∧ Below w.heap.size w w' := by
  have k := gam_playG gmA 3 A c w gmA_ok (by decide) h
  rw [playA] at k
  exact k
theorem gamA_draws (A : Option Addr) (c : Nat) (w : World) (h : Rd w 6 A 1 c (Mvs [mvA])) :
    Calls Tryz.prog 12 #[.agg #[.int .i64 1, .int .i64 1, .int .i64 1, .int .i64 0, .slice A 1 c]] w fun e w' => e = .returned (.int .u64 4) ∧ Below w.heap.size w w' := gam_drawsG gmA A c w gmA_ok h
theorem gamA_lucky (A : Option Addr) (c : Nat) (w : World) (h : Rd w 6 A 1 c (Mvs [mvA])) :
    Calls Tryz.prog 14 #[.agg #[.int .i64 1, .int .i64 1, .int .i64 1, .int .i64 0, .slice A 1 c]] w fun e w' => e = .returned (.int .u64 0) ∧ Below w.heap.size w w' := by
  have k := gam_lucky gmA A c w gmA_ok h
  rw [luckyA] at k
  exact k
def SmallU (w : World) (e : Ending) (w' : World) : Prop := ∃ x : Nat, x ≤ 2 ∧ e = .returned (.int .u64 x) ∧ Below w.heap.size w w'
theorem gamB_lucky (A : Option Addr) (c : Nat) (w : World) (h : Rd w 6 A 1 c (Mvs [mvA])) :
    Calls Tryz.prog 14 #[.agg #[.int .i64 1, .int .i64 1, .int .i64 0, .int .i64 0, .slice A 1 c]] w (SmallU w) :=
  (gam_lucky gmB A c w gmB_ok h).mono fun _ _ ⟨he, hb⟩ => ⟨_, luckyB, he, hb⟩
theorem gamZ_draws (w : World) :
    Calls Tryz.prog 12 #[.agg #[.int .i64 0, .int .i64 0, .int .i64 0, .int .i64 0, .slice none 0 0]] w fun e w' => e = .returned (.int .u64 0) ∧ Below w.heap.size w w' := by
  have k := gam_draws 0 0 0 0 [] none 0 w ⟨by decide, by decide⟩ ⟨by decide, by decide⟩ (Rd.nil_ _ _)
  rw [drawsZ] at k
  exact k
theorem gamZ_may (w : World) :
    Calls Tryz.prog 10 #[.agg #[.int .i64 0, .int .i64 0, .int .i64 0, .int .i64 0, .slice none 0 0]] w fun e w' => e = .returned (.bool false) ∧ Below w.heap.size w w' := by
  have k := gam_may 0 0 0 0 [] none 0 w ⟨by decide, by decide⟩ ⟨by decide, by decide⟩ (Rd.nil_ _ _)
  rw [mayZ] at k
  exact k

set_option maxHeartbeats 8000000 in
set_option maxRecDepth 100000 in
theorem gamAlive (w : World) : Calls Tryz.prog 5 #[] w fun e w' => e = .returned (.bool true) ∧ Below w.heap.size w w' := by
  have A4 : Hid (AlvG w.heap.size (w.heap.size + 1) (w.heap.size + 1 + 1) (w.heap.size + 1 + 1 + 1) ((((w.alloc (.cells #[.int .i64 1, .int .i64 0, .int .i64 0, .bool false, .bool false, .int .u64 0] 41)).alloc (.cells #[.int .i64 1, .int .i64 1, .int .i64 1, .int .i64 0, .slice (some ⟨w.heap.size, 0, none⟩) 1 1] 24)).alloc (.cells #[.int .i64 1, .int .i64 0, .int .i64 0, .bool false, .bool false, .int .u64 0] 41)).alloc (.cells #[.int .i64 1, .int .i64 1, .int .i64 0, .int .i64 0, .slice (some ⟨w.heap.size + 1 + 1, 0, none⟩) 1 1] 24)) ∧ Below w.heap.size w ((((w.alloc (.cells #[.int .i64 1, .int .i64 0, .int .i64 0, .bool false, .bool false, .int .u64 0] 41)).alloc (.cells #[.int .i64 1, .int .i64 1, .int .i64 1, .int .i64 0, .slice (some ⟨w.heap.size, 0, none⟩) 1 1] 24)).alloc (.cells #[.int .i64 1, .int .i64 0, .int .i64 0, .bool false, .bool false, .int .u64 0] 41)).alloc (.cells #[.int .i64 1, .int .i64 1, .int .i64 0, .int .i64 0, .slice (some ⟨w.heap.size + 1 + 1, 0, none⟩) 1 1] 24))) := Lib.hid (by
    obtain ⟨n1, n2, n3, n4, bb, sz⟩ := gbox4 w (.cells #[.int .i64 1, .int .i64 0, .int .i64 0, .bool false, .bool false, .int .u64 0] 41) (.cells #[.int .i64 1, .int .i64 1, .int .i64 1, .int .i64 0, .slice (some ⟨w.heap.size, 0, none⟩) 1 1] 24) (.cells #[.int .i64 1, .int .i64 0, .int .i64 0, .bool false, .bool false, .int .u64 0] 41) (.cells #[.int .i64 1, .int .i64 1, .int .i64 0, .int .i64 0, .slice (some ⟨w.heap.size + 1 + 1, 0, none⟩) 1 1] 24)
    exact ⟨⟨rd_lit n1 rfl rfl, n2, rd_lit n3 rfl rfl, n4⟩, bb⟩)
  go_enter Tryz.func5, Tryz.ntmps5
  go_upto_region 3 with fail
  generalize ((((w.alloc (.cells #[.int .i64 1, .int .i64 0, .int .i64 0, .bool false, .bool false, .int .u64 0] 41)).alloc (.cells #[.int .i64 1, .int .i64 1, .int .i64 1, .int .i64 0, .slice (some ⟨w.heap.size, 0, none⟩) 1 1] 24)).alloc (.cells #[.int .i64 1, .int .i64 0, .int .i64 0, .bool false, .bool false, .int .u64 0] 41)).alloc (.cells #[.int .i64 1, .int .i64 1, .int .i64 0, .int .i64 0, .slice (some ⟨w.heap.size + 1 + 1, 0, none⟩) 1 1] 24)) = w4 at *
  have B4 := Lib.hid A4.out.2
  have A4 := Lib.hid A4.out.1
  generalize w.heap.size + 1 + 1 + 1 = d at *
  generalize w.heap.size + 1 + 1 = c at *
  generalize w.heap.size + 1 = b at *
  generalize ha : w.heap.size = a at A4 ⊢
  clear ha
  have y0 := cell_of_row w4 b 0 _ _ _ A4.out.t1
  have y1 := cell_of_row w4 b 1 _ _ _ A4.out.t1
  have y2 := cell_of_row w4 b 2 _ _ _ A4.out.t1
  have y3 := cell_of_row w4 b 3 _ _ _ A4.out.t1
  have y4 := cell_of_row w4 b 4 _ _ _ A4.out.t1
  have K := Lib.hid (gamA_play (some ⟨a, 0, none⟩) 1 w4 A4.out.r1)
  go_wp2_with fail
  (with_reducible refine K.out.mono ?_)
  rintro e w5 ⟨VA, vc, rfl, rv, b5⟩
  have A5 := Lib.hid (A4.out.below b5)
  have B5 := Lib.hid (B4.out.trans (b5.mono B4.out.size))
  have RV := Lib.hid rv
  clear K A4 B4 b5 rv y0 y1 y2 y3 y4
  have K := Lib.hid (gamZ_draws w5)
  go_wp2_with fail
  (with_reducible refine K.out.mono ?_)
  rintro e w6 ⟨rfl, b6⟩
  have A6 := Lib.hid (A5.out.below b6)
  have B6 := Lib.hid (B5.out.trans (b6.mono B5.out.size))
  have RV6 := Lib.hid (RV.out.below b6)
  clear K A5 B5 b6 RV
  have y0 := cell_of_row w6 b 0 _ _ _ A6.out.t1
  have y1 := cell_of_row w6 b 1 _ _ _ A6.out.t1
  have y2 := cell_of_row w6 b 2 _ _ _ A6.out.t1
  have y3 := cell_of_row w6 b 3 _ _ _ A6.out.t1
  have y4 := cell_of_row w6 b 4 _ _ _ A6.out.t1
  have K := Lib.hid (gamA_draws (some ⟨a, 0, none⟩) 1 w6 A6.out.r1)
  go_wp2_with fail
  (with_reducible refine K.out.mono ?_)
  rintro e w7 ⟨rfl, b7⟩
  have A7 := Lib.hid (A6.out.below b7)
  have B7 := Lib.hid (B6.out.trans (b7.mono B6.out.size))
  have RV7 := Lib.hid (RV6.out.below b7)
  clear K A6 B6 b7 RV6 y0 y1 y2 y3 y4
  have bx := box_below w7 (.cells #[.int .i64 2, .int .i64 0, .int .u64 0, .bool false] 43)
  have RL : Hid (Rd (w7.alloc (.cells #[.int .i64 2, .int .i64 0, .int .u64 0, .bool false] 43)) 4 (some ⟨w7.heap.size, 0, none⟩) 1 1 (Vds [⟨2, 0, 0, false⟩])) := Lib.hid (rd_lit (heap_alloc_new w7 _) rfl rfl)
  have A8 := Lib.hid (A7.out.below bx)
  have B8 := Lib.hid (B7.out.trans (bx.mono B7.out.size))
  have RV8 := Lib.hid (RV7.out.below bx)
  clear bx A7 B7 RV7
  have K := Lib.hid (sameVd_yes (w7.alloc (.cells #[.int .i64 2, .int .i64 0, .int .u64 0, .bool false] 43)) VA (some ⟨w7.heap.size, 0, none⟩) vc 1 [⟨2, 0, 0, false⟩] RV8.out RL.out)
  simp only [List.length_singleton] at K
  go_wp2_with fail
  generalize (w7.alloc (.cells #[.int .i64 2, .int .i64 0, .int .u64 0, .bool false] 43)) = w8 at *
  generalize w7.heap.size = z7 at *
  (with_reducible refine K.out.mono ?_)
  rintro e w9 ⟨rfl, n, rfl⟩
  have A9 : Hid (AlvG a b c d (w8.drewN n)) := Lib.hid (A8.out.below (Qt.below ⟨n, rfl⟩))
  have B9 : Hid (Below w.heap.size w (w8.drewN n)) := Lib.hid (B8.out.trans ((Qt.below ⟨n, rfl⟩ : Below w8.heap.size w8 _).mono B8.out.size))
  clear K A8 B8 RV8 RL
  generalize w8.drewN n = w9 at *
  have y0 := cell_of_row w9 b 0 _ _ _ A9.out.t1
  have y1 := cell_of_row w9 b 1 _ _ _ A9.out.t1
  have y2 := cell_of_row w9 b 2 _ _ _ A9.out.t1
  have y3 := cell_of_row w9 b 3 _ _ _ A9.out.t1
  have y4 := cell_of_row w9 b 4 _ _ _ A9.out.t1
  have K := Lib.hid (gamA_lucky (some ⟨a, 0, none⟩) 1 w9 A9.out.r1)
  go_wp2_with fail
  (with_reducible refine K.out.mono ?_)
  rintro e w10 ⟨rfl, b10⟩
  have A10 := Lib.hid (A9.out.below b10)
  have B10 := Lib.hid (B9.out.trans (b10.mono B9.out.size))
  clear K A9 B9 b10 y0 y1 y2 y3 y4
  have y0 := cell_of_row w10 d 0 _ _ _ A10.out.t2
  have y1 := cell_of_row w10 d 1 _ _ _ A10.out.t2
  have y2 := cell_of_row w10 d 2 _ _ _ A10.out.t2
  have y3 := cell_of_row w10 d 3 _ _ _ A10.out.t2
  have y4 := cell_of_row w10 d 4 _ _ _ A10.out.t2
  have K := Lib.hid (gamB_lucky (some ⟨c, 0, none⟩) 1 w10 A10.out.r2)
  go_wp2_with fail
  (with_reducible refine K.out.mono ?_)
  rintro e w11 ⟨x, hx, rfl, b11⟩
  have B11 := Lib.hid (B10.out.trans (b11.mono B10.out.size))
  clear K A10 B10 b11 y0 y1 y2 y3 y4
  have hx2 : (x : Int) ≤ 2 := by omega
  have K := Lib.hid (gamZ_may w11)
  go_wp2_with fail
  (with_reducible refine K.out.mono ?_)
  rintro e w12 ⟨rfl, b12⟩
  have B12 := Lib.hid (B11.out.trans (b12.mono B11.out.size))
  clear K B11 b12
  go_wp2_with fail
  go_ret
  exact ⟨rfl, B12.out⟩

end Go.Proofs.YtpfmhkkglaghgaaGreat

namespace Go.Proofs.YtpfmhkkglaghgaaGreat
set_option linter.unusedSimpArgs false
set_option linter.unusedVariables false
set_option linter.unnecessarySimpa false
open Go.RowKit

/-- A game in a box. -/
structure GmB (q : Nat) (g : Gm) (A : Option Addr) (c : Nat) (W : World) : Prop where
  t : W.heap[q]? = some (.cells #[.int .i64 g.b, .int .i64 g.n, .int .i64 g.came, .int .i64 g.marked, .slice A g.moves.length c] 24 (0, 0))
  r : Rd W 6 A g.moves.length c (Mvs g.moves)
theorem GmB.below {q : Nat} {g : Gm} {A : Option Addr} {c : Nat} {W W' : World} (h : GmB q g A c W) (b : Below W.heap.size W W') : GmB q g A c W' :=
  ⟨(b.block _ (lt_of_block h.t)).trans h.t, h.r.below b⟩

theorem lucky_num {x y b l : Nat} (h : x * 2 ^ b ≤ y * l) (hy : y ≤ 65536) (hl : l ≤ 8) : IntKind.u64.wrap ((x : Int) * 2 ^ b) ≤ IntKind.u64.wrap ((y : Int) * (l : Int)) := by
  have h1 : y * l ≤ 65536 * 8 := Nat.mul_le_mul hy hl
  have e1 : ((x : Int) * 2 ^ b) = ((x * 2 ^ b : Nat) : Int) := by simp
  have e2 : ((y : Int) * (l : Int)) = ((y * l : Nat) : Int) := by simp
  rw [e1, e2]
  generalize x * 2 ^ b = p at *
  generalize y * l = r at *
  rw [IntWalk.u64_in _ (by omega), IntWalk.u64_in _ (by omega)]
  omega

end Go.Proofs.YtpfmhkkglaghgaaGreat

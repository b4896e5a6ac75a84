/-
  Part of the proof of EngineRanges.
-/
import Derived.Test.YtpkbimmhimgamaaPAI
import Derived.Test.YtpkbimmhimgamaaPAE
import Derived.Deep.DeepCutAuto
namespace Go.Proofs.Ytpkbimmhimgamaa
set_option linter.unusedSimpArgs false
set_option linter.unusedVariables false
set_option linter.unnecessarySimpa false
open Go.RowKit
theorem octSize_any (n : Int) (w : World) (hn : isU64 n) :
    Calls Try.prog 73 #[.int .u64 n] w fun e w' => e = .returned (.int .i64 (sizeN n)) ∧ w = w' := by
  obtain ⟨n0, n1⟩ := hn
  unfold sizeN
  by_cases h1 : n < 64
  · rw [if_pos h1]
    go_enter Try.func73, Try.ntmps73
    go_wp2
    go_ret
    exact ⟨rfl, rfl⟩
  · rw [if_neg h1]
    by_cases h2 : n < 16384
    · rw [if_pos h2]
      go_enter Try.func73, Try.ntmps73
      go_wp2
      go_ret
      exact ⟨rfl, rfl⟩
    · rw [if_neg h2]
      by_cases h3 : n < 1073741824
      · rw [if_pos h3]
        go_enter Try.func73, Try.ntmps73
        go_wp2
        go_ret
        exact ⟨rfl, rfl⟩
      · rw [if_neg h3]
        by_cases h4 : n ≤ 4611686018427387903
        · rw [if_pos h4]
          go_enter Try.func73, Try.ntmps73
          go_wp2
          go_ret
          exact ⟨rfl, rfl⟩
        · rw [if_neg h4]
          go_enter Try.func73, Try.ntmps73
          go_wp2
          go_ret
          exact ⟨rfl, rfl⟩
/-- What a reader still has. -/
structure RdrP (w : World) (q B : Nat) (l : List Int) : Prop where
  ex : ∃ A c, w.heap[q]? = some (.cells #[.slice A l.length c] 152 (0, 0)) ∧ Rd w 1 A l.length c (U8 l) ∧ ∀ b off, A = some ⟨b, off, none⟩ → 0 < l.length → b ≠ q ∧ b < B
theorem RdrP.below {w w' : World} {q B : Nat} {l : List Int} (h : RdrP w q B l) (b : Below w.heap.size w w') : RdrP w' q B l := by
  obtain ⟨A, c, h1, h2, h3⟩ := h.ex
  exact ⟨A, c, (b.block _ (lt_of_block h1)).trans h1, h2.below b, h3⟩
theorem RdrP.lt {w : World} {q B : Nat} {l : List Int} (h : RdrP w q B l) : q < w.heap.size := by
  obtain ⟨A, c, h1, h2, h3⟩ := h.ex
  exact lt_of_block h1

/-- What Num answers. -/
def NumVal (b : List Int) (q B : Nat) (w w' : World) (e : Ending) : Prop := match numP b with
  | .error er => e = .returned (.tuple #[.int .u64 0, .int .i64 er]) ∧ w = w'
  | .ok (n, k) => e = .returned (.tuple #[.int .u64 n, .int .i64 0]) ∧ RdrP w' q B (b.drop k) ∧ Chg (fun j => j = q) w w'
theorem kN_shl (b : Int) (h0 : 0 ≤ b) (h1 : b ≤ 255) : (2 : Int) ^ (b / 64).toNat = kN b := by
  unfold kN
  rcases (show b / 64 = 0 ∨ b / 64 = 1 ∨ b / 64 = 2 ∨ b / 64 = 3 by omega) with h | h | h | h <;> rw [h]
  · rw [if_pos (by omega)]; rfl
  · rw [if_neg (by omega), if_pos (by omega)]; rfl
  · rw [if_neg (by omega), if_neg (by omega), if_pos (by omega)]; rfl
  · rw [if_neg (by omega), if_neg (by omega), if_neg (by omega)]; rfl

theorem accN_pow (a : Int) (l : List Int) (h : 0 ≤ a) (hb : ∀ x ∈ l, 0 ≤ x ∧ x ≤ 255) (h7 : l.length ≤ 7) : 0 ≤ accN a l ∧ accN a l * 256 + 255 < (a + 1) * 18446744073709551616 ∧ (l.length ≤ 6 → accN a l * 256 + 255 < (a + 1) * 72057594037927936) := by
  obtain ⟨h1, h2⟩ := accN_rng l a h hb
  rcases (show l.length = 0 ∨ l.length = 1 ∨ l.length = 2 ∨ l.length = 3 ∨ l.length = 4 ∨ l.length = 5 ∨ l.length = 6 ∨ l.length = 7 by omega) with e | e | e | e | e | e | e | e <;> rw [e] at h1 h2
  · have hp : (256 : Int) ^ 0 = 1 := rfl
    rw [hp] at h1 h2; omega
  · have hp : (256 : Int) ^ 1 = 256 := rfl
    rw [hp] at h1 h2; omega
  · have hp : (256 : Int) ^ 2 = 65536 := rfl
    rw [hp] at h1 h2; omega
  · have hp : (256 : Int) ^ 3 = 16777216 := rfl
    rw [hp] at h1 h2; omega
  · have hp : (256 : Int) ^ 4 = 4294967296 := rfl
    rw [hp] at h1 h2; omega
  · have hp : (256 : Int) ^ 5 = 1099511627776 := rfl
    rw [hp] at h1 h2; omega
  · have hp : (256 : Int) ^ 6 = 281474976710656 := rfl
    rw [hp] at h1 h2; omega
  · have hp : (256 : Int) ^ 7 = 72057594037927936 := rfl
    rw [hp] at h1 h2; omega
theorem accN_top (a : Int) (l : List Int) (h : 0 ≤ a) (ha : a ≤ 63) (hb : ∀ x ∈ l, 0 ≤ x ∧ x ≤ 255) (h7 : l.length ≤ 7) : isU64 (accN a l) := by
  obtain ⟨h1, h2⟩ := accN_rng l a h hb
  have hm : (256 : Int) ^ l.length ≤ 72057594037927936 := by
    rcases (show l.length = 0 ∨ l.length = 1 ∨ l.length = 2 ∨ l.length = 3 ∨ l.length = 4 ∨ l.length = 5 ∨ l.length = 6 ∨ l.length = 7 by omega) with e | e | e | e | e | e | e | e <;> rw [e] <;> decide
  have hp : (0 : Int) < 256 ^ l.length := Int.pow_pos (by decide)
  have h3 : 0 ≤ a * 256 ^ l.length := Int.mul_nonneg h (Int.le_of_lt hp)
  have h4 : (a + 1) * 256 ^ l.length ≤ 64 * 256 ^ l.length := Int.mul_le_mul_of_nonneg_right (by omega) (Int.le_of_lt hp)
  exact ⟨by omega, by omega⟩
theorem RdrP.cut {w : World} {q B k : Nat} {A A' : Option Addr} {c c' : Nat} {l : List Int} (h1 : w.heap[q]? = some (.cells #[.slice A l.length c] 152 (0, 0))) (h2 : Rd w 1 A' (l.length - k) c' ((U8 l).drop (k * 1))) (h3 : ∀ b off, A' = some ⟨b, off, none⟩ → 0 < l.length - k → b ≠ q ∧ b < B) :
    RdrP (w.setCell ⟨q, 0, none⟩ (.slice A' (l.length - k) c')) q B (l.drop k) ∧ Chg (fun j => j = q) w (w.setCell ⟨q, 0, none⟩ (.slice A' (l.length - k) c')) := by
  have hC : Chg (fun j => j = q) w (w.setCell ⟨q, 0, none⟩ (.slice A' (l.length - k) c')) := (Chg.refl (fun j => j = q) w).setCell (p := ⟨q, 0, none⟩) (.inl rfl) _
  refine ⟨⟨A', c', ?_, ?_, ?_⟩, hC⟩
  · have := heap_setCell_same w q 0 _ _ (.slice A' (l.length - k) c') h1
    rw [List.length_drop]
    simpa using this
  · have h4 := h2.chg hC (fun b off e hn hb => (h3 b off e hn).1 hb)
    rw [List.length_drop]
    have : (U8 l).drop (k * 1) = U8 (l.drop k) := by simp [U8, List.map_drop]
    rw [this] at h4
    exact h4
  · rw [List.length_drop]
    exact h3

set_option maxHeartbeats 1000000 in
set_option maxRecDepth 100000 in
theorem rdr_num (w : World) (q B : Nat) (l : List Int) (h : RdrP w q B l) (hb : ∀ x ∈ l, 0 ≤ x ∧ x ≤ 255) :
    Calls Try.prog 47 #[.pointer (some ⟨q, 0, none⟩)] w fun e w' => NumVal l q B w w' e := by
  obtain ⟨A, c, h1, h2, h3⟩ := h.ex
  have hcap := h2.cap
  have hmax := h2.max
  unfold maxLen at hmax
  cases l with
  | nil =>
    have t0 := cell_of_row w q 0 _ _ _ h1
    have ft0 := frozen_of_row w q 0 _ _ h1
    go_enter Try.func47, Try.ntmps47
    go_wp2
    go_ret2
    exact ⟨rfl, rfl⟩
  | cons b0 r =>
    obtain ⟨b00, b01⟩ := hb b0 (List.mem_cons_self ..)
    obtain ⟨bk, off, rfl, d0⟩ := h2.u8 (k := 0) (by simp) (by simp)
    simp only [List.getElem_cons_zero, Nat.add_zero] at d0
    have hk := kN_shl b0 b00 b01
    have hkp := kN_pos b0
    have H1 := Lib.hid h1
    have H2 := Lib.hid h2
    have H3 := Lib.hid h3
    have HB := Lib.hid (fun x (hx : x ∈ r) => hb x (List.mem_cons_of_mem _ hx))
    clear h1 h2 h3 h hb
    obtain ⟨n, hn⟩ : ∃ n, n = r.length + 1 := ⟨_, rfl⟩
    have HN := Lib.hid hn
    have hlen : (b0 :: r).length = n := by rw [hn]; rfl
    have HL := Lib.hid hlen
    have H1' : Hid (w.heap[q]? = some (.cells #[.slice (some ⟨bk, off, none⟩) n c] 152 (0, 0))) := by show _; rw [← hlen]; exact H1.out
    have H2' : Hid (Rd w 1 (some ⟨bk, off, none⟩) n c (U8 (b0 :: r))) := by show _; rw [← hlen]; exact H2.out
    have H3' : Hid (∀ b o, some (⟨bk, off, none⟩ : Addr) = some ⟨b, o, none⟩ → 0 < n → b ≠ q ∧ b < B) := by show _; rw [← hlen]; exact H3.out
    rw [hlen] at hcap
    have hn0 : 0 < n := by omega
    clear hn hlen
    have t0 := cell_of_row w q 0 _ _ _ H1'.out
    have ft0 := frozen_of_row w q 0 _ _ H1'.out
    generalize hkk : kN b0 = k at *
    have HKK := Lib.hid hkk
    clear hkk
    have hdiv : 0 ≤ b0 / 64 ∧ b0 / 64 ≤ 3 := by omega
    have hz : ((n : Int) == 0) = false := by simp; omega
    by_cases hsh : n < k
    · have HV : Hid (numP (b0 :: r) = .error 2) := by show _ = _; unfold numP; simp only; rw [if_pos (by rw [HL.out, HKK.out]; exact hsh)]
      go_enter Try.func47, Try.ntmps47
      go_wp2
      go_ret2
      unfold NumVal
      rw [HV.out]
      exact ⟨rfl, rfl⟩
    · have hand := and63 b0 b00 b01
      obtain ⟨iB, hiB, bz0, bz1, bz2⟩ := info_parts infoByte
      obtain ⟨AB, hrunB, hcutB⟩ := piece_run (P := Try.prog) (t := 70) Try.underlying70 hiB bz1 (some ⟨bk, off, none⟩) n c 1 k (by omega) (by omega) hcap
      have RB := Lib.hid (hcutB w _ H2'.out)
      have hrunB' : ∀ (kl kh : IntKind) (w : World), (Instr.slice 70 (.slice (some ⟨bk, off, none⟩) n c) (some (.int kl 1)) (some (.int kh (k : Int))) none).run Try.prog w = .ok (.slice AB (k - 1) (c - 1)) w := hrunB
      obtain ⟨AC, hrunC, hcutC, hblC⟩ := cut_run2 (P := Try.prog) (t := 70) Try.underlying70 hiB bz1 (some ⟨bk, off, none⟩) n c k (show k ≤ n by omega) (fun a e => by injection e with e; rw [← e])
      have RC := Lib.hid (hcutC w _ H2'.out)
      have RE : Hid (((U8 (b0 :: r)).drop (1 * 1)).take ((k - 1) * 1) = U8 (r.take (k - 1))) := by show _ = _; simp [U8, List.map_take]
      clear hrunB hcutB hcutC bz0 bz2
      have hm0 : 0 ≤ b0 % 64 ∧ b0 % 64 ≤ 63 := by omega
      have HR2 : Hid (Rd w 1 AB (k - 1) (c - 1) (U8 (r.take (k - 1)))) := by show _; rw [← RE.out]; exact RB.out
      have hrl : Hid (k - 1 ≤ r.length) := by show k - 1 ≤ r.length; have := HN.out; omega
      have HA : Hid (∀ b o, AC = some ⟨b, o, none⟩ → 0 < n - k → b ≠ q ∧ b < B) := fun b o e hn => by
        obtain ⟨o', e'⟩ := hblC b o e
        exact H3'.out b o' e' (by omega)
      clear hblC
      clear RB RE
      go_enter Try.func47, Try.ntmps47
      go_wp2_with fail
      go_loop [5, 46] (fun v i => ∃ j : Nat, j ≤ k - 1 ∧ i = .int .i64 j ∧ v = .int .u64 (accN (b0 % 64) (r.take j))) (fun _ i => k - 1 - (intOf i).toNat)
      case atStart => exact ⟨0, Nat.zero_le _, rfl, rfl⟩
      case round =>
        obtain ⟨j, hj, rfl, rfl⟩ := hrel
        by_cases hlt : j < k - 1
        · have hjr : j < r.length := by have := hrl.out; omega
          obtain ⟨b3, o3, e3, d3⟩ := HR2.out.u8 (k := j) hlt (by simp; omega)
          subst e3
          have hx := HB.out r[j] (List.getElem_mem hjr)
          have hg : (r.take (k - 1))[j]'(by simp; omega) = r[j] := by simp
          rw [hg] at d3
          have hp := accN_pow (b0 % 64) (r.take j) hm0.1 (fun x hx => HB.out x (List.mem_of_mem_take hx)) (by simp; omega)
          have hp2 := hp.2.2 (by simp; omega)
          have ho := or_acc (accN (b0 % 64) (r.take j)) r[j] hp.1 (by omega) hx.1 hx.2
          have hs := Lib.hid (accN_take_succ (b0 % 64) r hjr)
          have wc : IntKind.u64.wrap r[j] = r[j] := IntWalk.u64_in _ (by omega)
          generalize r[j] = x at *
          generalize accN (b0 % 64) (r.take j) = a at *
          go_wp2
          go_round
          case rel => exact ⟨j + 1, by omega, by go_num, by rw [hs.out]⟩
          case measure => simp [intOf]; omega
        · obtain rfl : j = k - 1 := by omega
          have ha := accN_top (b0 % 64) (r.take (k - 1)) hm0.1 hm0.2 (fun x hx => HB.out x (List.mem_of_mem_take hx)) (by simp; omega)
          have HV : Hid (numP (b0 :: r) = if sizeN (accN (b0 % 64) (r.take (k - 1))) = k then .ok (accN (b0 % 64) (r.take (k - 1)), k) else .error 5) := by
            show _ = _
            unfold numP
            simp only
            rw [if_neg (by rw [HL.out, HKK.out]; exact hsh), HKK.out]
          have HU := Lib.hid ha
          clear ha
          generalize accN (b0 % 64) (r.take (k - 1)) = a at *
          have C1 := Lib.hid (octSize_any a w HU.out)
          have hs8 : sizeN a ≤ 8 := by
            have := sizeN_cases a
            omega
          have hL : (b0 :: r).length = n := HL.out
          by_cases hsk : sizeN a = k
          · have HV1 : Hid (numP (b0 :: r) = .ok (a, k)) := Lib.hid (HV.out.trans (if_pos hsk))
            rw [hsk] at C1
            have e1 : ((k : Int) != (k : Int)) = false := by simp
            have h := RdrP.cut (l := b0 :: r) (k := k) (A' := AC) (c' := c - k) H1.out (by rw [hL]; exact RC.out) (by rw [hL]; exact HA.out)
            rw [hL] at h
            have HH := Lib.hid h
            clear h hsk hL hs8
            go_wp2_with fail
            refine C1.out.mono ?_
            rintro e w2 ⟨rfl, rfl⟩
            go_wp2
            go_ret2
            unfold NumVal
            rw [HV1.out]
            exact ⟨rfl, HH.out.1, HH.out.2⟩
          · have HV1 : Hid (numP (b0 :: r) = .error 5) := Lib.hid (HV.out.trans (if_neg hsk))
            generalize sizeN a = s at *
            have e1 : ((s : Int) != (k : Int)) = true := by simp; omega
            clear hsk hL
            go_wp2_with fail
            refine C1.out.mono ?_
            rintro e w2 ⟨rfl, rfl⟩
            go_wp2
            go_ret2
            unfold NumVal
            rw [HV1.out]
            exact ⟨rfl, rfl⟩

end Go.Proofs.Ytpkbimmhimgamaa
namespace Go.Proofs.Ytpkbimmhimgamaa
set_option linter.unusedSimpArgs false
set_option linter.unusedVariables false
set_option linter.unnecessarySimpa false
open Go.RowKit
set_option maxHeartbeats 400000 in
theorem rdr_new (A : Option Addr) (c : Nat) (l : List Int) (w : World) (h : Rd w 1 A l.length c (U8 l)) (hl : l.length ≤ 70368744177664) :
    Calls Try.prog 44 #[.slice A l.length c] w fun e w' => ∃ q, e = .returned (.pointer (some ⟨q, 0, none⟩)) ∧ RdrP w' q w'.heap.size l ∧ Below w.heap.size w w' ∧ w.heap.size ≤ q := by
  obtain ⟨iB, hiB, bz0, bz1, bz2⟩ := info_parts infoByte
  have H := Lib.hid h
  clear h
  go_enter Try.func44, Try.ntmps44
  go_wp2_with (
    at_builtin
    refine wpList_append_rd _ rfl (.const (.slice none 0 0)) (.tmp 3) 70 rfl w.heap.size 5 iB _ 1 1 Try.underlying70 hiB bz0 bz1 bz2 rfl (by decide) (.slice none 0 0) 0 [] rfl (World.ownsRow_nil _ _ _ _) A l.length c (U8 l) rfl H.out (U8_one _) (by unfold maxLen; omega) (by omega) (by omega) ?_
    intro v2 w2 hown2 hg2 _
    have hb2 : Below w.heap.size w w2 := (Below.refl _ _).grown hg2 (Nat.le_refl _) (fun g hg => by simp [Value.ownBlock] at hg)
    rw [Nat.zero_add, List.nil_append] at hown2
    obtain ⟨A2, cc, hv, hA2⟩ := own_slice hown2
    subst hv
    have HO := Lib.hid hown2
    have HB := Lib.hid hb2
    clear hown2 hg2 hb2 hA2)
  go_ret
  have hbx := box_below w2 (.cells #[.slice A2 l.length cc] 152)
  refine ⟨_, rfl, ⟨A2, cc, heap_alloc_new w2 _, (Rd.of_own HO.out).below hbx, fun b off e hn => ?_⟩, HB.out.trans (hbx.mono HB.out.size), HB.out.size⟩
  have := (Rd.of_own HO.out).lt (by omega) hn b off e
  simp
  omega

/-- What Take answers. -/
def TakeVal (l : List Int) (k : Nat) (q B : Nat) (w w' : World) (e : Ending) : Prop :=
  if l.length < k then e = .returned (.tuple #[.slice none 0 0, .int .i64 2]) ∧ w = w'
  else ∃ A c, e = .returned (.tuple #[.slice A k c, .int .i64 0]) ∧ Rd w' 1 A k c (U8 (l.take k)) ∧ (∀ b off, A = some ⟨b, off, none⟩ → 0 < k → w.heap.size ≤ b) ∧ RdrP w' q B (l.drop k) ∧ Chg (fun j => j = q) w w'

set_option maxHeartbeats 1000000 in
set_option maxRecDepth 100000 in
theorem rdr_take (w : World) (q B : Nat) (l : List Int) (k : Nat) (h : RdrP w q B l) (hk : k ≤ 70368744177664) :
    Calls Try.prog 45 #[.pointer (some ⟨q, 0, none⟩), .int .i64 k] w fun e w' => TakeVal l k q B w w' e := by
  obtain ⟨A, c, h1, h2, h3⟩ := h.ex
  have hcap := h2.cap
  have hmax := h2.max
  unfold maxLen at hmax
  have H1 := Lib.hid h1
  have H2 := Lib.hid h2
  have H3 := Lib.hid h3
  have hA : ∀ a, A = some a → 0 < l.length → a.spot = none := fun a e hn => by
    obtain ⟨b, off, e2, -⟩ := H2.out.on_ hn
    rw [e2] at e
    injection e with e
    rw [← e]
  clear h1 h2 h3 h
  have t0 := cell_of_row w q 0 _ _ _ H1.out
  have ft0 := frozen_of_row w q 0 _ _ H1.out
  have hlt := lt_of_block H1.out
  unfold TakeVal
  by_cases hs : l.length < k
  · simp only [if_pos hs]
    go_enter Try.func45, Try.ntmps45
    go_wp2
    go_ret2
    exact ⟨rfl, rfl⟩
  · simp only [if_neg hs]
    obtain ⟨iB, hiB, bz0, bz1, bz2⟩ := info_parts infoByte
    have hrunT := take_run (P := Try.prog) (t := 70) Try.underlying70 hiB bz1 A l.length c k (by omega)
    have RT := Lib.hid (H2.out.take (show k ≤ l.length by omega))
    obtain ⟨AC, hrunC, hcutC⟩ := Rd.cut_run (P := Try.prog) (t := 70) H2.out Try.underlying70 hiB bz1 (show k ≤ l.length by omega)
    have hblk : Hid (∀ b off, AC = some ⟨b, off, none⟩ → 0 < l.length - k → b ≠ q ∧ b < B) := fun b off e hn => by
      obtain ⟨A2, hr2, -, hb2⟩ := cut_run2 (P := Try.prog) (t := 70) Try.underlying70 hiB bz1 A l.length c k (show k ≤ l.length by omega) (fun a e => hA a e (by omega))
      have e3 := (hrunC .i64 w).symm.trans (hr2 .i64 w)
      injection e3 with e3
      injection e3 with e3
      obtain ⟨o', e'⟩ := hb2 b off (by rw [← e3]; exact e)
      exact H3.out b o' e' (by omega)
    have HCut := Lib.hid hcutC
    clear hcutC hA
    go_enter Try.func45, Try.ntmps45
    go_wp2_with (
      at_builtin
      refine wpList_append_rd _ rfl (.const (.slice none 0 0)) (.tmp 25) 70 rfl w.heap.size 5 iB _ 1 1 Try.underlying70 hiB bz0 bz1 bz2 rfl (by decide) (.slice none 0 0) 0 [] rfl (World.ownsRow_nil _ _ _ _) A k c ((U8 l).take (k * 1)) rfl RT.out (fun u hu => U8_one l u (List.mem_of_mem_take hu)) (by unfold maxLen; omega) (by omega) (by omega) ?_
      intro v2 w2 hown2 hg2 _
      have hb2 : Below w.heap.size w w2 := (Below.refl _ _).grown hg2 (Nat.le_refl _) (fun g hg => by simp [Value.ownBlock] at hg)
      rw [Nat.zero_add, List.nil_append] at hown2
      obtain ⟨A2, cc, hv, hA2⟩ := own_slice hown2
      subst hv
      have HO := Lib.hid hown2
      have HB := Lib.hid hb2
      have H12 := Lib.hid ((hb2.block _ hlt).trans H1.out)
      clear hown2 hg2 hb2 hA2
      have y0 := cell_of_row w2 q 0 _ _ _ H12.out
      have fy0 := frozen_of_row w2 q 0 _ _ H12.out)
    go_ret2
    have hc := RdrP.cut (l := l) (k := k) (A' := AC) (c' := c - k) H12.out (HCut.out _ _ (H2.out.below HB.out)) hblk.out
    refine ⟨A2, cc, rfl, ?_, fun b off e hn => own_base2 HO.out b off e hn, hc.1, (chg_below HB.out).step hc.2 (fun _ _ h => h)⟩
    have h5 := Rd.of_own HO.out
    have e : (U8 l).take (k * 1) = U8 (l.take k) := by simp [U8, List.map_take]
    rw [e] at h5
    exact h5.chg hc.2 (fun b off e hn hb => by have := own_base2 HO.out b off e hn; omega)

theorem rdr_left (w : World) (q B : Nat) (l : List Int) (h : RdrP w q B l) :
    Calls Try.prog 49 #[.pointer (some ⟨q, 0, none⟩)] w fun e w' => e = .returned (.int .i64 l.length) ∧ w = w' := by
  obtain ⟨A, c, h1, h2, h3⟩ := h.ex
  have t0 := cell_of_row w q 0 _ _ _ h1
  have ft0 := frozen_of_row w q 0 _ _ h1
  clear h1 h2 h3 h
  go_enter Try.func49, Try.ntmps49
  go_wp2
  go_ret
  exact ⟨rfl, rfl⟩

/-- What Word answers. -/
def WordVal (l : List Int) (q B : Nat) (w w' : World) (e : Ending) : Prop := match wordP l with
  | .error er => e = .returned (.tuple #[.int .u64 0, .int .i64 er]) ∧ w = w'
  | .ok n => e = .returned (.tuple #[.int .u64 n, .int .i64 0]) ∧ RdrP w' q B (l.drop 8) ∧ Chg (fun j => j = q) w w'
theorem accN_word (l : List Int) (hb : ∀ x ∈ l, 0 ≤ x ∧ x ≤ 255) (h8 : l.length = 8) : isU64 (accN 0 l) := by
  obtain ⟨h1, h2⟩ := accN_rng l 0 (Int.le_refl _) hb
  rw [h8] at h1 h2
  have hp : (256 : Int) ^ 8 = 18446744073709551616 := rfl
  rw [hp] at h1 h2
  exact ⟨by omega, by omega⟩

set_option maxHeartbeats 1000000 in
set_option maxRecDepth 100000 in
theorem rdr_word (w : World) (q B : Nat) (l : List Int) (h : RdrP w q B l) (hb : ∀ x ∈ l, 0 ≤ x ∧ x ≤ 255) :
    Calls Try.prog 48 #[.pointer (some ⟨q, 0, none⟩)] w fun e w' => WordVal l q B w w' e := by
  have H := Lib.hid h
  have HB := Lib.hid hb
  clear h hb
  have C1 := Lib.hid (rdr_take w q B l 8 H.out (by omega))
  go_enter Try.func48, Try.ntmps48
  go_wp2_with fail
  refine C1.out.mono ?_
  rintro e w1 hv
  unfold TakeVal at hv
  by_cases hs : l.length < 8
  · rw [if_pos hs] at hv
    obtain ⟨rfl, rfl⟩ := hv
    have HW : Hid (wordP l = .error 2) := Lib.hid (by unfold wordP; rw [if_pos hs])
    clear C1
    go_wp2
    go_ret2
    unfold WordVal
    rw [HW.out]
    exact ⟨rfl, rfl⟩
  · rw [if_neg hs] at hv
    obtain ⟨A, c, rfl, hr, hbl, hq, hC⟩ := hv
    have HW : Hid (wordP l = .ok (accN 0 (l.take 8))) := Lib.hid (by unfold wordP; rw [if_neg hs])
    have R := Lib.hid hr
    have HQ := Lib.hid hq
    have HC := Lib.hid hC
    have hl8 : (l.take 8).length = 8 := by simp; omega
    have HB8 : Hid (∀ x ∈ l.take 8, 0 ≤ x ∧ x ≤ 255) := Lib.hid (fun x hx => HB.out x (List.mem_of_mem_take hx))
    have hcp := hr.cap
    clear hr hq hC hbl C1
    generalize l.take 8 = m at *
    have HL8 := Lib.hid hl8
    clear hl8
    go_wp2_with fail
    go_loop [6, 19] (fun v i => ∃ j : Nat, j ≤ 8 ∧ i = .int .i64 j ∧ v = .int .u64 (accN 0 (m.take j))) (fun _ i => 8 - (intOf i).toNat)
    case atStart => exact ⟨0, Nat.zero_le _, rfl, rfl⟩
    case round =>
      obtain ⟨j, hj, rfl, rfl⟩ := hrel
      by_cases hlt : j < 8
      · have hjm : j < m.length := by have := HL8.out; omega
        obtain ⟨b3, o3, e3, d3⟩ := R.out.u8 (k := j) hlt hjm
        subst e3
        have hx := HB8.out m[j] (List.getElem_mem hjm)
        have hp := accN_pow 0 (m.take j) (Int.le_refl _) (fun x hx => HB8.out x (List.mem_of_mem_take hx)) (by simp; omega)
        have ho := or_acc (accN 0 (m.take j)) m[j] hp.1 (by omega) hx.1 hx.2
        have hs := Lib.hid (accN_take_succ 0 m hjm)
        have hp1 := hp.1
        have hp2 : accN 0 (m.take j) * 256 + 255 < 18446744073709551616 := by have := hp.2.1; omega
        clear hp
        have wc : IntKind.u64.wrap m[j] = m[j] := IntWalk.u64_in _ (by omega)
        generalize m[j] = x at *
        generalize accN 0 (m.take j) = a at *
        go_wp2
        go_round
        case rel => exact ⟨j + 1, by omega, by go_num, by rw [hs.out]⟩
        case measure => simp [intOf]; omega
      · obtain rfl : j = 8 := by omega
        have hm : m.take 8 = m := List.take_of_length_le (by have := HL8.out; omega)
        rw [hm]
        go_wp2
        go_ret2
        unfold WordVal
        rw [HW.out]
        exact ⟨rfl, HQ.out, HC.out⟩

end Go.Proofs.Ytpkbimmhimgamaa
namespace Go.Proofs.Ytpkbimmhimgamaa
set_option linter.unusedSimpArgs false
set_option linter.unusedVariables false
set_option linter.unnecessarySimpa false
open Go.RowKit
theorem numP_err {b : List Int} {e : Int} (h : numP b = .error e) : e = 2 ∨ e = 5 := by
  unfold numP at h
  split at h
  · injection h with h; exact .inl h.symm
  · split at h
    · injection h with h; exact .inl h.symm
    · simp only at h
      split at h
      · cases h
      · injection h with h; exact .inr h.symm
theorem U8b_drop {l : List Int} (h : ∀ x ∈ l, 0 ≤ x ∧ x ≤ 255) (k : Nat) : ∀ x ∈ l.drop k, 0 ≤ x ∧ x ≤ 255 := fun x hx => h x (List.mem_of_mem_drop hx)

/-- The state of the loop. -/
structure SpSt (w : World) (q B : Nat) (v : Value) (rest : List Int) (acc : List Sp) (j : Nat) (wr : World) : Prop where
  rd : RdrP wr q B rest
  own : wr.ownsRow w.heap.size 142 2 v acc.length (Ss acc)
  chg : Chg (fun j => j = q) w wr
  len : acc.length = j
  by_ : ∀ x ∈ rest, 0 ≤ x ∧ x ≤ 255
  qlt : q < w.heap.size
  ble : B ≤ w.heap.size
theorem SpSt.num {w wr w1 : World} {q B j k : Nat} {v : Value} {rest : List Int} {acc : List Sp} (h : SpSt w q B v rest acc j wr) (hq : RdrP w1 q B (rest.drop k)) (hc : Chg (fun j => j = q) wr w1) : SpSt w q B v (rest.drop k) acc j w1 :=
  ⟨hq, own_chg h.own hc (fun g hg e => by have := (h.own.lt g hg).1; have := h.qlt; omega), h.chg.step hc (fun _ _ h => h), h.len, U8b_drop h.by_ k, h.qlt, h.ble⟩

theorem SpSt.app {w wr w1 : World} {q B j : Nat} {v v' : Value} {rest : List Int} {acc : List Sp} {x y : Int} (h : SpSt w q B v rest acc j wr) (ho : w1.ownsRow w.heap.size 142 2 v' (acc.length + 1) (Ss acc ++ [.int .u64 x, .int .u64 y])) (hg : wr.grownBy w1 v.ownBlock) : SpSt w q B v' rest (acc ++ [(x, y)]) (j + 1) w1 := by
  have hC : Chg (fun k => v.ownBlock = some k) wr w1 := (Chg.refl _ _).grown hg (fun k hk => .inl hk)
  refine ⟨?_, ?_, h.chg.grown hg (fun k hk => .inr (h.own.lt k hk).1), by simp [h.len], h.by_, h.qlt, h.ble⟩
  · obtain ⟨A, c, h1, h2, h3⟩ := h.rd.ex
    exact ⟨A, c, hC.blk h1 (fun e => by have := (h.own.lt q e).1; have := h.qlt; omega), h2.chg hC (fun b off e hn hv => by have := (h.own.lt b hv).1; have := (h3 b off e hn).2; have := h.ble; omega), h3⟩
  · rw [Ss_append, List.length_append]
    exact ho

end Go.Proofs.Ytpkbimmhimgamaa
namespace Go.Proofs.Ytpkbimmhimgamaa
set_option linter.unusedSimpArgs false
set_option linter.unusedVariables false
set_option linter.unnecessarySimpa false
open Go.RowKit
theorem AkR.chg {w w' : World} {a : Ak} (h : AkR w a) {F : Nat → Prop} (hc : Chg F w w') (h1 : ∀ b off, a.A = some ⟨b, off, none⟩ → 0 < a.sp.length → ¬ F b) (h2 : ∀ b off, a.B = some ⟨b, off, none⟩ → 0 < a.mm.length → ¬ F b) : AkR w' a := ⟨h.rs.chg hc h1, h.rm.chg hc h2, h.us, h.um, h.ut, h.ux⟩
theorem setCell_id {w : World} {g i : Nat} {v : Value} {cs : Array Value} {t : TypeId} {fr : Nat × Nat} (h : w.heap[g]? = some (.cells cs t fr)) (hv : cs[i]? = some v) : w.setCell ⟨g, i, none⟩ v = w := by
  unfold World.setCell
  have e : w.heap.modify g (fun
      | .cells c elem frozen => .cells (if (none : Option Nat).isSome then c else c.setIfInBounds i v) elem frozen
      | o => o) = w.heap := by
    apply Array.ext
    · simp
    · intro j h1 h2
      rw [Array.getElem_modify]
      split
      · rename_i hj
        subst hj
        have : w.heap[g] = .cells cs t fr := by
          rw [Array.getElem?_eq_getElem h2] at h
          injection h
        rw [this]
        simp only [Option.isSome_none, Bool.false_eq_true, if_false]
        congr 1
        apply Array.ext
        · simp
        · intro k k1 k2
          rw [Array.getElem_setIfInBounds]
          split
          · rename_i hk
            subst hk
            rw [Array.getElem?_eq_getElem k2] at hv
            injection hv with hv
            exact hv.symm
          · rfl
      · rfl
  cases w
  simp only [World.mk.injEq, and_true, true_and] at e ⊢
  exact e
def zAck : Array Value := #[.slice none 0 0, .slice none 0 0, .int .u64 0, .int .u64 0, .bool false]
theorem wordP_err {b : List Int} {e : Int} (h : wordP b = .error e) : e = 2 := by
  unfold wordP at h
  split at h
  · injection h with h; exact h.symm
  · cases h
theorem wordP_ok {b : List Int} {n : Int} (h : wordP b = .ok n) (hb : ∀ x ∈ b, 0 ≤ x ∧ x ≤ 255) : isU64 n := by
  unfold wordP at h
  split at h
  · cases h
  · rename_i hs
    injection h with h
    subst h
    exact accN_word _ (fun x hx => hb x (List.mem_of_mem_take hx)) (by simp; omega)
/-- Where the walk stands. -/
structure DcS (w : World) (g0 g7 q B : Nat) (a : Ak) (rest : List Int) (W : World) : Prop where
  z : W.heap[g0]? = some (.cells zAck 106 (0, 0))
  t : W.heap[g7]? = some (.cells #[.slice a.A a.sp.length a.c, .slice a.B a.mm.length a.d, .int .u64 a.tr, .int .u64 a.xo, .bool a.od] 106 (0, 0))
  rd : RdrP W q B rest
  rs : Rd W 2 a.A a.sp.length a.c (Ss a.sp)
  rm : Rd W 2 a.B a.mm.length a.d (Ss a.mm)
  na : ∀ b off, a.A = some ⟨b, off, none⟩ → 0 < a.sp.length → g7 < b
  nb : ∀ b off, a.B = some ⟨b, off, none⟩ → 0 < a.mm.length → g7 < b
  bel : Below w.heap.size w W
  by_ : ∀ x ∈ rest, 0 ≤ x ∧ x ≤ 255
  l0 : w.heap.size ≤ g0
  l1 : g0 < q
  l2 : q < g7
  l3 : B ≤ g7
theorem DcS.chg {w W W' : World} {g0 g7 q B : Nat} {a : Ak} {rest : List Int} {k : Nat} (h : DcS w g0 g7 q B a rest W) (hr : RdrP W' q B (rest.drop k)) (hC : Chg (fun j => j = q) W W') : DcS w g0 g7 q B a (rest.drop k) W' := by
  have h1 := h.l0; have h2 := h.l1; have h3 := h.l2
  exact ⟨hC.blk h.z (fun e => by omega), hC.blk h.t (fun e => by omega), hr, h.rs.chg hC (fun b off e hn hb => by have := h.na b off e hn; omega), h.rm.chg hC (fun b off e hn hb => by have := h.nb b off e hn; omega), h.na, h.nb,
    h.bel.trans (hC.below h.bel.size (fun k hk e => by omega)), U8b_drop h.by_ k, h1, h2, h3, h.l3⟩
theorem DcS.same {w W W' : World} {g0 g7 q B : Nat} {a : Ak} {rest : List Int} (h : DcS w g0 g7 q B a rest W) (hC : Chg (fun j => j = q) W W') : W'.heap[g0]? = some (.cells zAck 106 (0, 0)) ∧ W'.heap[g7]? = some (.cells a.cells 106 (0, 0)) ∧ Below w.heap.size w W' := by
  have h1 := h.l0; have h2 := h.l1; have h3 := h.l2
  exact ⟨hC.blk h.z (fun e => by omega), hC.blk h.t (fun e => by omega), h.bel.trans (hC.below h.bel.size (fun k hk e => by omega))⟩
/-- One field of the acknowledgment has been stored. -/
theorem DcS.put {w W : World} {g0 g7 q B i : Nat} {a a' : Ak} {rest : List Int} (v : Value) (h : DcS w g0 g7 q B a rest W) (hc : a'.cells = a.cells.setIfInBounds i v)
    (h1 : Rd W 2 a'.A a'.sp.length a'.c (Ss a'.sp)) (h2 : Rd W 2 a'.B a'.mm.length a'.d (Ss a'.mm)) (h3 : ∀ b off, a'.A = some ⟨b, off, none⟩ → 0 < a'.sp.length → g7 < b) (h4 : ∀ b off, a'.B = some ⟨b, off, none⟩ → 0 < a'.mm.length → g7 < b) :
    DcS w g0 g7 q B a' rest (W.setCell ⟨g7, i, none⟩ v) := by
  have e1 := h.l0; have e2 := h.l1; have e3 := h.l2
  have hC : Chg (fun j => j = g7) W (W.setCell ⟨g7, i, none⟩ v) := (Chg.refl (fun j => j = g7) W).setCell (p := ⟨g7, i, none⟩) (.inl rfl) _
  obtain ⟨A, c, r1, r2, r3⟩ := h.rd.ex
  refine ⟨hC.blk h.z (fun e => by omega), ?_, ⟨A, c, hC.blk r1 (fun e => by omega), r2.chg hC (fun b off e hn hb => by have := (r3 b off e hn).2; have := h.l3; omega), r3⟩, h1.chg hC (fun b off e hn hb => by have := h3 b off e hn; omega), h2.chg hC (fun b off e hn hb => by have := h4 b off e hn; omega), h3, h4,
    h.bel.trans (hC.below h.bel.size (fun k hk e => by omega)), h.by_, e1, e2, e3, h.l3⟩
  show _ = some (Obj.cells a'.cells _ _)
  rw [hc]
  exact heap_setCell_same W g7 i _ _ v h.t

theorem DcS.err {w W W' : World} {g0 g7 q B : Nat} {a : Ak} {rest : List Int} (h : DcS w g0 g7 q B a rest W) (hC : Chg (fun j => j = q) W W') (i : Nat) (v : Value) :
    W'.heap[g7]? = some (.cells #[.slice a.A a.sp.length a.c, .slice a.B a.mm.length a.d, .int .u64 a.tr, .int .u64 a.xo, .bool a.od] 106 (0, 0)) ∧ (W'.setCell ⟨g7, i, none⟩ v).heap[g0]? = some (.cells #[.slice none 0 0, .slice none 0 0, .int .u64 0, .int .u64 0, .bool false] 106 (0, 0)) ∧ Below w.heap.size w (W'.setCell ⟨g7, i, none⟩ v) := by
  have h1 := h.l0; have h2 := h.l1; have h3 := h.l2
  obtain ⟨e1, e2, e3⟩ := h.same hC
  have hC2 : Chg (fun j => j = g7) W' (W'.setCell ⟨g7, i, none⟩ v) := (Chg.refl (fun j => j = g7) W').setCell (p := ⟨g7, i, none⟩) (.inl rfl) _
  exact ⟨e2, hC2.blk e1 (fun e => by omega), e3.trans (hC2.below e3.size (fun k hk e => by omega))⟩
theorem DcS.lt {w W : World} {g0 g7 q B : Nat} {a : Ak} {rest : List Int} (h : DcS w g0 g7 q B a rest W) : g0 ≠ g7 ∧ g7 ≠ g0 ∧ g0 < W.heap.size ∧ g7 < W.heap.size := by
  have h1 := h.l0; have h2 := h.l1; have h3 := h.l2
  have := lt_of_block h.z
  have := lt_of_block h.t
  exact ⟨by omega, by omega, by omega, by omega⟩

end Go.Proofs.Ytpkbimmhimgamaa

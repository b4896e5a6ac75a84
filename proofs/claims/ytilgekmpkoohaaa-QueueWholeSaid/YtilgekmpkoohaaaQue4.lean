/-
  Walks of package queue: Lost.
-/
import Derived.Test.YtilgekmpkoohaaaQue3
namespace Go.Proofs.Ytilgekmpkoohaaa
set_option linter.unusedSimpArgs false
set_option linter.unusedVariables false
set_option linter.unnecessarySimpa false
open Go.RowKit
attribute [local go_sem ↓] run_min_int run_max_int

theorem addAll_len (m l : List Sp) : (addAll' l m).length ≤ l.length + m.length := by
  induction m generalizing l with
  | nil => simp [addAll']
  | cons s m ih =>
    have e : addAll' l (s :: m) = addAll' (addP l s) m := rfl
    have h1 := ih (addP l s)
    have h2 := addP_le l s
    rw [e, List.length_cons]
    omega
theorem cutAll_succ (l m : List Sp) {k : Nat} (h : k < m.length) : cutAll l (m.take (k + 1)) = cutP (cutAll l (m.take k)) m[k] := by
  unfold cutAll
  rw [take_snoc _ _ h, List.foldl_append]
  rfl
theorem addAll_succ (l m : List Sp) {k : Nat} (h : k < m.length) : addAll' l (m.take (k + 1)) = addP (addAll' l (m.take k)) m[k] := by
  unfold addAll'
  rw [take_snoc _ _ h, List.foldl_append]
  rfl
theorem u2_of_mem {L : List Sp} (h : Gd L) (hm : ∀ m, Mem m L → isU64 m) : U2s L := fun z hz => ⟨hm _ (Mem_lo h hz).1, hm _ (Mem_lo h hz).2⟩
theorem QS.lost_d {s : QS} {off n : Int} (h : QS.within off n s.fresh) (h0 : 0 ≤ off) (hf : s.fresh ≤ 1000000) : Gd [((off, off + n - 1) : Sp)] := by
  obtain ⟨h1, h2, h3⟩ := h
  exact ⟨fun x hx => by
    have : x = (off, off + n - 1) := by simpa using hx
    subst this
    exact ⟨by show off ≤ off + n - 1; omega, by show off + n - 1 ≤ maxPn; unfold maxPn; omega⟩, by simp⟩
theorem QS.lost_pre {s : QS} {off n : Int} (h : QS.within off n s.fresh) (h0 : 0 ≤ off) (hf : s.fresh ≤ 1000000) {La : List Sp} (ha : QS.AkRow s La) (k : Nat) :
    Gd (cutAll (fromP [(off, off + n - 1)] s.base) (La.take k)) ∧ U2s (cutAll (fromP [(off, off + n - 1)] s.base) (La.take k)) ∧ (cutAll (fromP [(off, off + n - 1)] s.base) (La.take k)).length ≤ 1 + k ∧
      ∀ m, Mem m (cutAll (fromP [(off, off + n - 1)] s.base) (La.take k)) → 0 ≤ m ∧ m ≤ 1000000 := by
  have gd := QS.lost_d h h0 hf
  obtain ⟨⟨f1, -⟩, f2⟩ := from_parts [((off, off + n - 1) : Sp)] s.base gd
  have hm : ∀ x ∈ La.take k, x.1 ≤ x.2 := fun x hx => (ha.gd.1 x (List.mem_of_mem_take hx)).1
  obtain ⟨c1, c2⟩ := cutAll_spec (La.take k) _ f1 hm
  have hl := cutAll_len (La.take k) _ f1 hm
  have hl2 := fromP_len [((off, off + n - 1) : Sp)] s.base
  have key : ∀ m, Mem m (cutAll (fromP [(off, off + n - 1)] s.base) (La.take k)) → 0 ≤ m ∧ m ≤ 1000000 := fun m hm => by
    obtain ⟨t, ht, t1, t2⟩ := ((f2 m).1 ((c2 m).1 hm).1).1
    have : t = (off, off + n - 1) := by simpa using ht
    subst this
    obtain ⟨h1, h2, h3⟩ := h
    simp only at t1 t2
    omega
  refine ⟨c1, u2_of_mem c1 fun m hm => by have := key m hm; exact ⟨by omega, by omega⟩, ?_, key⟩
  simp only [List.length_take, List.length_singleton] at hl hl2
  omega
theorem lost_add {R M : List Sp} (hR : Gd R) (uR : ∀ m, Mem m R → 0 ≤ m ∧ m ≤ 1000000) (hM : ∀ x ∈ M, IsSpan x) (uM : ∀ m, Mem m M → 0 ≤ m ∧ m ≤ 1000000) (k : Nat) :
    Gd (addAll' R (M.take k)) ∧ U2s (addAll' R (M.take k)) ∧ (addAll' R (M.take k)).length ≤ R.length + k := by
  obtain ⟨c1, c2⟩ := addAll_spec (M.take k) R hR (fun x hx => hM x (List.mem_of_mem_take hx))
  refine ⟨c1, u2_of_mem c1 fun m hm => ?_, ?_⟩
  · have h1 : 0 ≤ m ∧ m ≤ 1000000 := by
      rcases (c2 m).1 hm with h | ⟨t, ht, h⟩
      · exact uR m h
      · exact uM m ⟨t, List.mem_of_mem_take ht, h⟩
    exact ⟨by omega, by omega⟩
  · have h1 := addAll_len (M.take k) R
    simp only [List.length_take] at h1
    omega

theorem AckSt9.of {w : World} {F : Nat → Prop} {q : Nat} {s : QS} {A A1 A2 : Option Addr} {c c1 c2 : Nat} {La : List Sp} (h : QueC w F q s A c La A1 c1 A2 c2) {W : World} (b : Below w.heap.size w W) : AckSt9 w F q s s.base A c La A1 c1 (rowB s.ow) A2 c2 W := by
  have h1 := h.below b
  exact ⟨h1.t, h1.o, h1.r1, h1.r2, chg_below b, lt_of_block h.t, h.fq, fun g hg => ⟨.inl (h.fo g hg).1, (h.fo g hg).2⟩, fun b off e hn => ⟨.inl (h.f1 b off e hn).1, (h.f1 b off e hn).2⟩, fun b off e hn => ⟨.inl (h.f2 b off e hn).1, (h.f2 b off e hn).2⟩⟩
theorem AckSt9.below {w W W' : World} {F : Nat → Prop} {q nb : Nat} {s : QS} {A A1 A2 : Option Addr} {c c1 c2 : Nat} {L1 L2 : List Sp} (H : AckSt9 w F q s nb A c L1 A1 c1 L2 A2 c2 W) (b : Below W.heap.size W W') : AckSt9 w F q s nb A c L1 A1 c1 L2 A2 c2 W' :=
  ⟨(b.block _ (lt_of_block H.t)).trans H.t, own_chg H.o (chg_below b (F := fun _ => False)) (fun _ _ h => h), H.r1.below b, H.r2.below b, H.ch.thenBelow b H.ch.size, H.hq, H.fq, H.fo, H.f1, H.f2⟩
theorem AckSt9.set5 {w W w1 : World} {F : Nat → Prop} {q nb : Nat} {s : QS} {A A1 A2 A' : Option Addr} {c c1 c2 c' : Nat} {L1 L2 L' : List Sp} (H : AckSt9 w F q s nb A c L1 A1 c1 L2 A2 c2 W) (b : Below W.heap.size W w1) (hr : RdN w1 W.heap.size A' L'.length c' (Ss L')) :
    AckSt9 w F q s nb A c L1 A1 c1 L' A' c' (w1.setCell ⟨q, 5, none⟩ (.slice A' L'.length c')) := by
  have h1 := H.below b
  have h2 := H.ch.size
  have h3 := H.hq
  have hC : Chg (fun j => j = q) w1 (w1.setCell ⟨q, 5, none⟩ (.slice A' L'.length c')) := (Chg.refl (fun j => j = q) w1).setCell (p := ⟨q, 5, none⟩) (.inl rfl) _
  have hn : ∀ b off, A' = some ⟨b, off, none⟩ → 0 < L'.length → Grow F w b ∧ b ≠ q ∧ (Value.slice A (s.b.length - nb) c).ownBlock ≠ some b := fun b off e hn => by
    have h4 := hr.nw b off e hn
    exact ⟨.inr (by omega), by omega, fun e' => by have := (H.o.lt b e').2; omega⟩
  exact ⟨by simpa using heap_setCell_same w1 q 5 _ _ (.slice A' L'.length c') h1.t, own_chg h1.o hC (fun k hk e => (h1.fo k hk).2 e), h1.r1.chg hC (fun b off e hn e' => (h1.f1 b off e hn).2.1 e'), hr.rd.chg hC (fun b off e hb e' => (hn b off e hb).2.1 e'), h1.ch.setCell (p := ⟨q, 5, none⟩) (.inl H.fq) _, H.hq, H.fq, H.fo, H.f1, hn⟩
theorem RdN.below {w w' : World} {B : Nat} {A : Option Addr} {n c : Nat} {xs : List Value} (h : RdN w B A n c xs) (b : Below w.heap.size w w') : RdN w' B A n c xs := ⟨h.rd.below b, h.nw⟩
theorem RdN.set {w w1 : World} {B q : Nat} {A : Option Addr} {n c : Nat} {xs : List Value} (h : RdN w B A n c xs) (b : Below w.heap.size w w1) (hq : q < B) (k : Nat) (v : Value) : RdN (w1.setCell ⟨q, k, none⟩ v) B A n c xs := by
  obtain ⟨h1, h2⟩ := (h.below b).foot ((Chg.refl (fun j => j = q) w1).setCell (p := ⟨q, k, none⟩) (.inl rfl) v) hq
  exact ⟨h1, fun b off e hn => (h2 b off e hn).1⟩
theorem AckSt9.done2 {w W : World} {F : Nat → Prop} {q : Nat} {s t : QS} {A A1 A2 : Option Addr} {c c1 c2 : Nat} {L1 L2 : List Sp} (H : AckSt9 w F q s s.base A c L1 A1 c1 L2 A2 c2 W) (e1 : t.b = s.b) (e2 : t.base = s.base) (e3 : t.room = s.room) (e4 : t.fresh = s.fresh) (e5 : L2 = rowB t.ow) (ak : t.AkRow L1) : QueC W (Grow F w) q t A c L1 A1 c1 A2 c2 := by
  subst e5
  exact ⟨by rw [e1, e2, e3, e4]; exact H.t, by rw [e1, e2]; exact H.o, H.r1, H.r2, ak, .inl H.fq, by rw [e1, e2]; exact H.fo, by rw [e1, e2]; exact H.f1, by rw [e1, e2]; exact H.f2⟩

set_option maxHeartbeats 400000 in
set_option maxRecDepth 100000 in
theorem que_lost (w : World) (F : Nat → Prop) (q : Nat) (s : QS) (off n : Int) (h : QueP w F q s) (ho : isU64 off) (hn : isU64 n) :
    Calls Try.prog 20 #[.pointer (some ⟨q, 0, none⟩), .int .u64 off, .int .u64 n] w fun e w' => e = .returned (.bool (s.lost off n).2) ∧ QueP w' (Grow F w) q (s.lost off n).1 ∧ Chg F w w' := by
  have hf : s.b.length ≤ 1000000 := h.few
  obtain ⟨o0, o1⟩ := ho
  obtain ⟨n0, n1⟩ := hn
  have U1 : Hid (isU64 off) := ⟨o0, o1⟩
  have U2 : Hid (isU64 n) := ⟨n0, n1⟩
  have H := Lib.hid h
  have hfr := h.good.fr
  clear h
  by_cases hw : QS.within off n s.fresh
  · have HA := Lib.hid (decide_eq_true hw)
    have HW := Lib.hid hw
    obtain ⟨w1', w2', w3'⟩ := hw
    have HS := Lib.hid (show s.lost off n = ({ s with ow := owe s.ak off.toNat (off + n).toNat s.ow }, true) from if_pos HW.out)
    obtain ⟨A, c, La, A1, c1, A2, c2, hC⟩ := H.out.ex
    have hlo := H.out.good.lo
    have hrow := rowB_spec s.ow (by rw [hlo]; exact hf)
    have hU := hC.ak.u2 H.out.few
    have HLR := Lib.hid (QS.lost_row H.out.good H.out.few HW.out o0 hC.ak)
    have PRE := Lib.hid (fun k => QS.lost_pre HW.out o0 (by omega) hC.ak k)
    have hML : (cutAll (fromP [(off, off + n - 1)] s.base) La).length ≤ 1 + La.length := by
      have := (PRE.out La.length).2.2.1
      rwa [List.take_length] at this
    have hR2 : (rowB s.ow).length ≤ 1000001 := by have := hrow.2.2; omega
    have ADDP := Lib.hid (fun k => lost_add hrow.1 (fun m hm => by obtain ⟨i, a, rfl, -⟩ := (hrow.2.1 m).1 hm; omega) (fun x hx => (HLR.out.2 x hx).1) (M := cutAll (fromP [(off, off + n - 1)] s.base) La)
      (fun m hm => (PRE.out La.length).2.2.2 m (by rw [List.take_length]; exact hm)) k)
    have HU := Lib.hid hU.1
    have hla := hU.2
    have GD := Lib.hid (QS.lost_d HW.out o0 (by omega))
    have HC := Lib.hid hC
    have HB := Lib.hid (s.base_le H.out.good)
    have hbl := HB.out
    clear hC hlo hrow hU
    rw [HS.out]
    have t0 := cell_of_row w q 0 _ _ _ HC.out.t
    have t1 := cell_of_row w q 1 _ _ _ HC.out.t
    have t2 := cell_of_row w q 2 _ _ _ HC.out.t
    have t3 := cell_of_row w q 3 _ _ _ HC.out.t
    have t4 := cell_of_row w q 4 _ _ _ HC.out.t
    have t5 := cell_of_row w q 5 _ _ _ HC.out.t
    have hq := lt_of_block HC.out.t
    go_enter Try.func20, Try.ntmps20
    go_wp2_with fail
    refine (ahead_any off n s.fresh _ U1.out U2.out (by omega)).mono ?_
    rw [HA.out]
    rintro e v2 ⟨rfl, rfl⟩
    go_wp2_with fail
    have uD : U2s [((off, off + n - 1) : Sp)] := fun z hz => by
      have : z = (off, off + n - 1) := by simpa using hz
      subst this
      exact ⟨⟨by show 0 ≤ off; omega, by show off < 18446744073709551616; omega⟩, ⟨by show 0 ≤ off + n - 1; omega, by show off + n - 1 < 18446744073709551616; omega⟩⟩
    refine (from_yes (some ⟨w.heap.size, 0, none⟩) 1 1 [(off, off + n - 1)] s.base _ (Rd.lit w 2 #[.int .u64 off, .int .u64 (off + n - 1)] _ 1 _ rfl rfl (by unfold maxLen; omega)) uD GD.out.good (by omega) (by omega) (by omega)).mono ?_
    rintro e w1 ⟨A3, c3, rfl, hr, b⟩
    have B1 : Below w.heap.size w w1 := (box_below w _).trans (b.mono (by simp))
    have R3 := Lib.hid (hr.mono (B' := w.heap.size) (by simp))
    clear hr b uD GD
    have GL := Lib.hid (H.out.good.lost (off := off) (n := n) o0)
    rw [HS.out] at GL
    generalize fromP [((off, off + n - 1) : Sp)] (s.base : Int) = D at *
    have HC1 := Lib.hid (HC.out.below B1)
    have z0 := cell_of_row w1 q 0 _ _ _ HC1.out.t
    have z1 := cell_of_row w1 q 1 _ _ _ HC1.out.t
    have z2 := cell_of_row w1 q 2 _ _ _ HC1.out.t
    have z3 := cell_of_row w1 q 3 _ _ _ HC1.out.t
    have z4 := cell_of_row w1 q 4 _ _ _ HC1.out.t
    have z5 := cell_of_row w1 q 5 _ _ _ HC1.out.t
    go_wp2
    clear HC1 z0 z1 z2 z3 z4 z5 t0 t1 t2 t3 t4 t5
    go_loopw [7, 41] (fun out i wr => ∃ (k : Nat) (A' : Option Addr) (c' : Nat), k ≤ La.length ∧ out = .slice A' (cutAll D (La.take k)).length c' ∧ i = .int .i64 k ∧ Hid (RdN wr w.heap.size A' (cutAll D (La.take k)).length c' (Ss (cutAll D (La.take k)))) ∧ Below w.heap.size w wr) (fun _ i _ => La.length - (intOf i).toNat)
    case atStart => exact ⟨0, A3, c3, Nat.zero_le _, rfl, rfl, R3, B1⟩
    case round =>
      obtain ⟨k, A4, c4, hk, rfl, rfl, R4, hb⟩ := hrel
      clear R3 B1
      by_cases hlt : k < La.length
      · obtain ⟨b, o, x, y, rfl, He, k0, k1, u1, u2, u3, u4⟩ := (HC.out.below hb).r1.sp HU.out hlt
        have hsp : IsSpan (x, y) := He.out ▸ HC.out.ak.gd.1 _ (List.getElem_mem hlt)
        have hpl := (PRE.out k).2.2.1
        have CUT := Lib.hid (fun W (R : Rd W 2 A4 (cutAll D (La.take k)).length c4 (Ss (cutAll D (La.take k)))) => cut_yes A4 (cutAll D (La.take k)).length c4 _ x y W R (PRE.out k).1.good hsp u1 (PRE.out k).2.1 (by omega))
        rw [show cutP (cutAll D (La.take k)) (x, y) = cutAll D (La.take (k + 1)) by rw [cutAll_succ _ _ hlt, He.out]] at CUT
        have hgs := hb.size
        clear hpl hsp
        go_wp2_with fail
        refine (CUT.out _ (R4.out.rd.below (box_below _ _))).mono ?_
        rintro e w2 ⟨A5, c5, rfl, hr5, b5⟩
        go_wp2
        go_roundw
        case rel => exact ⟨k + 1, A5, c5, by omega, rfl, by go_num, Lib.hid (hr5.mono (by simp; omega)), hb.trans ((box_below _ _).trans (b5.mono (by simp)) |>.mono hb.size)⟩
        case measure => simp [intOf]; omega
      · obtain rfl : k = La.length := by omega
        rw [List.take_length] at R4
        have uM := Lib.hid (PRE.out La.length).2.1
        rw [List.take_length] at uM
        have S4 := Lib.hid (AckSt9.of HC.out hb)
        clear PRE hk hlt hb
        simp only [List.take_length]
        generalize cutAll D La = M at *
        go_wp2
        go_loopw [54] (fun i wr => ∃ (k : Nat) (A' : Option Addr) (c' : Nat), k ≤ M.length ∧ i = .int .i64 k ∧ Hid (AckSt9 w F q s s.base A c La A1 c1 (addAll' (rowB s.ow) (M.take k)) A' c' wr) ∧ Hid (RdN wr w.heap.size A4 M.length c4 (Ss M))) (fun i _ => M.length - (intOf i).toNat)
        case atStart => exact ⟨0, A2, c2, Nat.zero_le _, rfl, S4, R4⟩
        case round =>
          obtain ⟨k, A6, c6, hk, rfl, S6, R6⟩ := hrel
          clear S4 R4
          by_cases hlt : k < M.length
          · obtain ⟨b, o, x, y, rfl, He, k0, k1, u1, u2, u3, u4⟩ := R6.out.rd.sp uM.out hlt
            have hsp : IsSpan (x, y) := He.out ▸ (HLR.out.2 _ (List.getElem_mem hlt)).1
            have hpl := (ADDP.out k).2.2
            have ADD := Lib.hid (fun W (R : Rd W 2 A6 (addAll' (rowB s.ow) (M.take k)).length c6 (Ss (addAll' (rowB s.ow) (M.take k)))) => add_yes A6 (addAll' (rowB s.ow) (M.take k)).length c6 _ x y W R (ADDP.out k).1.good hsp u1 (ADDP.out k).2.1 (by omega))
            rw [show addP (addAll' (rowB s.ow) (M.take k)) (x, y) = addAll' (rowB s.ow) (M.take (k + 1)) by rw [addAll_succ _ _ hlt, He.out]] at ADD
            have hgs := S6.out.ch.size
            clear hpl hsp
            go_upto_region 12 with fail
            have X7 : Hid ((_ : World).heap[wr.heap.size]? = _) := heap_alloc_new wr (.cells #[.int .u64 x, .int .u64 y] 36)
            have B7 := Lib.hid (box_below wr (.cells #[.int .u64 x, .int .u64 y] 36))
            have S7 := Lib.hid (S6.out.below B7.out)
            have R7 := Lib.hid (R6.out.below B7.out)
            generalize hW : (wr.alloc (.cells #[.int .u64 x, .int .u64 y] 36)) = w7 at *
            clear hW k0 k1
            have t0 := cell_of_row w7 q 0 _ _ _ S7.out.t
            have ft0 := frozen_of_row w7 q 0 _ _ S7.out.t
            have t1 := cell_of_row w7 q 1 _ _ _ S7.out.t
            have ft1 := frozen_of_row w7 q 1 _ _ S7.out.t
            have t2 := cell_of_row w7 q 2 _ _ _ S7.out.t
            have ft2 := frozen_of_row w7 q 2 _ _ S7.out.t
            have t3 := cell_of_row w7 q 3 _ _ _ S7.out.t
            have ft3 := frozen_of_row w7 q 3 _ _ S7.out.t
            have t4 := cell_of_row w7 q 4 _ _ _ S7.out.t
            have ft4 := frozen_of_row w7 q 4 _ _ S7.out.t
            have t5 := cell_of_row w7 q 5 _ _ _ S7.out.t
            have ft5 := frozen_of_row w7 q 5 _ _ S7.out.t
            have x0 := cell_of_row w7 wr.heap.size 0 _ _ _ X7.out
            have fx0 := frozen_of_row w7 wr.heap.size 0 _ _ X7.out
            have x1 := cell_of_row w7 wr.heap.size 1 _ _ _ X7.out
            have fx1 := frozen_of_row w7 wr.heap.size 1 _ _ X7.out
            have ADD1 := Lib.hid (ADD.out w7.drew (S7.out.below (Below.refl _ _).drew).r2)
            go_region_with ((go_at_call 31; refine ADD1.out.mono ?_; rintro e w2 ⟨A', c', rfl, hr, b⟩; have B2 : Hid (Below w7.heap.size w7 w2) := ((Below.refl _ _).drew).trans b; have R2 : Hid (RdN w2 w7.heap.size A' _ c' _) := hr; have S2 := Lib.hid (S7.out.below B2.out); clear hr b; have y5 := cell_of_row w2 q 5 _ _ _ S2.out.t; have fy5 := frozen_of_row w2 q 5 _ _ S2.out.t))
            all_goals go_wp2_with fail
            all_goals go_roundw
            case rel => exact ⟨k + 1, A', c', by omega, by go_num, Lib.hid (S7.out.set5 B2.out R2.out), Lib.hid (R7.out.set B2.out hq 5 _)⟩
            case rel => exact ⟨k + 1, A', c', by omega, by go_num, Lib.hid (S7.out.set5 B2.out R2.out), Lib.hid (R7.out.set B2.out hq 5 _)⟩
            case measure => simp [intOf]; omega
            case measure => simp [intOf]; omega
          · obtain rfl : k = M.length := by omega
            rw [List.take_length, HLR.out.1] at S6
            go_wp2
            go_ret
            exact ⟨rfl, ⟨GL.out.1, H.out.few, _, _, _, _, _, _, _, S6.out.done2 rfl rfl rfl rfl rfl (HC.out.ak.same rfl rfl)⟩, S6.out.ch⟩
  · have HA := Lib.hid (decide_eq_false hw)
    have HS := Lib.hid (show s.lost off n = (s, false) from if_neg hw)
    obtain ⟨A, c, La, A1, c1, A2, c2, hC⟩ := H.out.ex
    have HC := Lib.hid hC
    clear hC hw
    rw [HS.out]
    have t0 := cell_of_row w q 0 _ _ _ HC.out.t
    have t1 := cell_of_row w q 1 _ _ _ HC.out.t
    have t2 := cell_of_row w q 2 _ _ _ HC.out.t
    have t3 := cell_of_row w q 3 _ _ _ HC.out.t
    have t4 := cell_of_row w q 4 _ _ _ HC.out.t
    have t5 := cell_of_row w q 5 _ _ _ HC.out.t
    go_enter Try.func20, Try.ntmps20
    go_wp2_with fail
    refine (ahead_any off n s.fresh _ U1.out U2.out (by omega)).mono ?_
    rw [HA.out]
    rintro e v2 ⟨rfl, rfl⟩
    go_wp2_with fail
    go_ret
    exact ⟨rfl, H.out.sub (fun k _ h => .inl h), Chg.refl _ _⟩

end Go.Proofs.Ytilgekmpkoohaaa

/-
  The walk of QueueRoom.
-/
import Derived.Test.YtilgekmpkoohaaaQueA
namespace Go.Proofs.Ytilgekmpkoohaaa
set_option linter.unusedSimpArgs false
set_option linter.unusedVariables false
set_option linter.unnecessarySimpa false
open Go.RowKit
attribute [local go_sem ↓] run_min_int run_max_int

namespace QS
theorem lead_true (n : Nat) : lead (List.replicate n true) = n := by
  induction n with
  | zero => rfl
  | succ n ih => simp [List.replicate_succ, lead, ih]
theorem paint_all (n : Nat) (l : List Bool) (hl : l.length = n) : paint true 0 n l = List.replicate n true := by
  apply List.ext_getElem (by simp [hl])
  intro i h1 h2
  have hi : i < l.length := by simpa using h1
  rw [paint_getE _ _ _ _ _ hi, if_pos (by omega)]
  simp
theorem new_room (room : Int) : ((QS.new room).room : Int) = max 1 (min room 65536) := by simp [QS.new]; omega
theorem new_eq (room : Int) : QS.new room = ⟨(QS.new room).room, [], [], [], 0⟩ := rfl
theorem roomVals (r : Nat) (hr : r ≤ 255) (lb : List Int) (h1 : 0 < lb.length) :
    ((QS.new ((r : Int) + 1)).write lb).2 = ((min (r + 1) lb.length : Nat) : Int) ∧ ((QS.new ((r : Int) + 1)).write lb).1.b.length = min (r + 1) lb.length ∧
    (((QS.new ((r : Int) + 1)).write lb).1.sent 0 ((min (r + 1) lb.length : Nat) : Int)).2 = true ∧
    ((((QS.new ((r : Int) + 1)).write lb).1.sent 0 ((min (r + 1) lb.length : Nat) : Int)).1.acked 0 ((min (r + 1) lb.length : Nat) : Int)).2 = true ∧
    ((((QS.new ((r : Int) + 1)).write lb).1.sent 0 ((min (r + 1) lb.length : Nat) : Int)).1.acked 0 ((min (r + 1) lb.length : Nat) : Int)).1.base = min (r + 1) lb.length ∧
    (((((QS.new ((r : Int) + 1)).write lb).1.sent 0 ((min (r + 1) lb.length : Nat) : Int)).1.acked 0 ((min (r + 1) lb.length : Nat) : Int)).1.write lb).2 = ((min (r + 1) lb.length : Nat) : Int) ∧
    (((((QS.new ((r : Int) + 1)).write lb).1.sent 0 ((min (r + 1) lb.length : Nat) : Int)).1.acked 0 ((min (r + 1) lb.length : Nat) : Int)).1.b.length = min (r + 1) lb.length) := by
  obtain ⟨x, hx⟩ : ∃ x, x = min (r + 1) lb.length := ⟨_, rfl⟩
  have e3 : (QS.new ((r : Int) + 1)).room = r + 1 := by
    have := new_room ((r : Int) + 1)
    omega
  have e1 : (QS.new ((r : Int) + 1)) = ⟨r + 1, [], [], [], 0⟩ := by
    rw [new_eq, e3]
  rw [← hx, e1]
  have ew : ((⟨r + 1, [], [], [], 0⟩ : QS).write lb) = (⟨r + 1, lb.take x, List.replicate x false, List.replicate x false, 0⟩, (x : Int)) := by
    simp only [write, base, lead, List.length_nil, List.nil_append, Nat.sub_zero, Nat.sub_self]
    rw [Nat.min_comm, ← hx]
  have hx0 : 0 < x := by omega
  have hlt : (lb.take x).length = x := by simp; omega
  rw [ew]
  simp only [hlt]
  have es : (⟨r + 1, lb.take x, List.replicate x false, List.replicate x false, 0⟩ : QS).sent 0 (x : Int) = (⟨r + 1, lb.take x, List.replicate x false, paint false 0 x (List.replicate x false), x⟩, true) := by
    unfold sent
    rw [if_pos (by unfold within; simp only [hlt]; omega)]
    have t2 : ((0 : Int) + (x : Int)).toNat = x := by omega
    have t1 : ((0 : Int)).toNat = 0 := rfl
    rw [t1, t2]
    simp
  rw [es]
  have ea : (⟨r + 1, lb.take x, List.replicate x false, paint false 0 x (List.replicate x false), x⟩ : QS).acked 0 (x : Int) = (⟨r + 1, lb.take x, List.replicate x true, paint false 0 x (paint false 0 x (List.replicate x false)), x⟩, true) := by
    unfold acked
    rw [if_pos (by unfold within; simp only; omega)]
    have t2 : ((0 : Int) + (x : Int)).toNat = x := by omega
    have t1 : ((0 : Int)).toNat = 0 := rfl
    rw [t1, t2]
    simp only [paint_all x (List.replicate x false) (by simp)]
  rw [ea]
  refine ⟨trivial, trivial, rfl, rfl, ?_, ?_, hlt⟩
  · simp only [base, lead_true]
  · simp only [write, base, lead_true, hlt, Nat.sub_self, Nat.sub_zero]
    rw [Nat.min_comm, ← hx]
theorem roomVals2 (r : Nat) (hr : r ≤ 255) (lb : List Int) (k : Nat) (hk : k ≤ lb.length) :
    ((QS.new ((r : Int) + 1)).write (lb.take k)).2 = ((min k (r + 1) : Nat) : Int) ∧ ((QS.new ((r : Int) + 1)).write (lb.take k)).1.b.length = min k (r + 1) ∧
    (k ≤ r + 1 → (((QS.new ((r : Int) + 1)).write (lb.take k)).1.write (lb.drop k)).2 = ((min (lb.length - k) (r + 1 - k) : Nat) : Int)) := by
  have e3 : (QS.new ((r : Int) + 1)).room = r + 1 := by
    have := new_room ((r : Int) + 1)
    omega
  have e1 : (QS.new ((r : Int) + 1)) = ⟨r + 1, [], [], [], 0⟩ := by
    rw [new_eq, e3]
  rw [e1]
  have hl : (lb.take k).length = k := by simp; omega
  refine ⟨?_, ?_, fun h => ?_⟩
  · simp only [write, base, lead, List.length_nil, Nat.sub_zero, hl]
  · simp only [write, base, lead, List.length_nil, Nat.sub_zero, hl, List.nil_append, List.length_take]
    omega
  · have hm : min k (r + 1) = k := by omega
    simp only [write, base, lead, List.length_nil, Nat.sub_zero, hl, List.nil_append, hm, List.length_take, List.length_drop]
    have hz : lead (List.replicate k false) = 0 := by cases k <;> simp [List.replicate_succ, lead]
    rw [hz]
    omega
end QS

/-- Two queues of the program. -/
structure RM (w : World) (p q : Nat) (s u : QS) (v : World) : Prop where
  two : Tw (QP p s) (QP q u) v (fun j => w.heap.size ≤ j)
  bel : Below w.heap.size w v
theorem RM.below {w v v' : World} {p q : Nat} {s u : QS} (h : RM w p q s u v) (b : Below v.heap.size v v') : RM w p q s u v' := ⟨h.two.below QP.stays QP.stays b, h.bel.trans (b.mono h.bel.size)⟩
theorem RM.callP {w v : World} {p q : Nat} {s s' u : QS} {f : FuncId} {args : Array Value} {val : Value} (h : RM w p q s u v)
    (c : ∀ F, QueP v F p s → Calls Try.prog f args v fun e w' => e = .returned val ∧ QueP w' (Grow F v) p s' ∧ Chg F v w') :
    Calls Try.prog f args v fun e w' => e = .returned val ∧ RM w p q s' u w' := by
  obtain ⟨G, H, hp, hF⟩ := h.two
  refine (c G hp.p).mono fun e w' ⟨he, hq, hC⟩ => ⟨he, ?_, h.bel.trans (hC.below h.bel.size fun k hk hg => by have := (hF k (.inl hg)).1; omega)⟩
  have P1 : Prs (QP p s') (QP q u) w' _ _ := hp.movP (P' := QP p s') QP.stays hq (fun k h => h) hC
  exact P1.shut QP.stays QP.stays (fun k _ hk => by
    have hs := h.bel.size
    rcases hk with (hk | hk) | hk
    · exact (hF k (.inl hk)).1
    · show w.heap.size ≤ k; omega
    · exact (hF k (.inr hk.1)).1)
theorem RM.callQ {w v : World} {p q : Nat} {s u u' : QS} {f : FuncId} {args : Array Value} {val : Value} (h : RM w p q s u v)
    (c : ∀ F, QueP v F q u → Calls Try.prog f args v fun e w' => e = .returned val ∧ QueP w' (Grow F v) q u' ∧ Chg F v w') :
    Calls Try.prog f args v fun e w' => e = .returned val ∧ RM w p q s u' w' := by
  obtain ⟨G, H, hp, hF⟩ := h.two
  refine (c H hp.r).mono fun e w' ⟨he, hq, hC⟩ => ⟨he, ?_, h.bel.trans (hC.below h.bel.size fun k hk hg => by have := (hF k (.inr hg)).1; omega)⟩
  have P1 : Prs (QP p s) (QP q u') w' _ _ := hp.movR (R' := QP q u') QP.stays hq (fun k h => h) hC
  exact P1.shut QP.stays QP.stays (fun k _ hk => by
    have hs := h.bel.size
    rcases hk with hk | (hk | hk)
    · exact (hF k (.inl hk.1)).1
    · exact (hF k (.inr hk)).1
    · show w.heap.size ≤ k; omega)
theorem RM.read {w v : World} {p q : Nat} {s u : QS} (h : RM w p q s u v) : ∃ F, QueP v F p s := by
  obtain ⟨G, H, hp, hF⟩ := h.two
  exact ⟨G, hp.p⟩

set_option maxHeartbeats 4000000 in
set_option maxRecDepth 100000 in
theorem queueRoom_any (room cut : Int) (A : Option Addr) (n c : Nat) (lb : List Int) (w : World) (hr : Rd w 1 A n c (U8 lb)) (hb : ∀ x ∈ lb, 0 ≤ x ∧ x ≤ 255) (hroom : 0 ≤ room ∧ room ≤ 255) (hcut : 0 ≤ cut ∧ cut ≤ 65535) :
    Calls Try.prog 5 #[.int .u8 room, .slice A n c, .int .u16 cut] w fun e w' => e = .returned (.bool true) ∧ Below w.heap.size w w' := by
  have hl0 : lb.length = n := by have := hr.len; simpa using this
  subst hl0
  have hc0 := hr.cap
  have hx0 := hr.max
  unfold maxLen at hx0
  obtain ⟨r, rfl⟩ : ∃ r : Nat, room = r := ⟨room.toNat, by omega⟩
  obtain ⟨r0, r1⟩ := hroom
  obtain ⟨k0, k1⟩ := hcut
  have R0 := Lib.hid hr
  have HB := Lib.hid hb
  clear hr hb
  by_cases hbad : lb.length = 0 ∨ 600 < lb.length
  · rcases hbad with h | h
    · have hz : ((lb.length : Int) == 0) = true := by simp; exact List.eq_nil_of_length_eq_zero h
      go_enter Try.func5, Try.ntmps5
      go_wp2_with fail
      refine (que_new _ _).mono ?_
      rintro e w1 ⟨rfl, -, b1⟩
      go_wp2_with fail
      refine (que_new _ _).mono ?_
      rintro e w2 ⟨rfl, -, b2⟩
      go_wp2_with fail
      refine (queAlive _).mono ?_
      rintro e w3 ⟨rfl, b3⟩
      go_wp2_with fail
      refine (queAlive _).mono ?_
      rintro e w4 ⟨rfl, b4⟩
      go_wp2
      go_ret
      exact ⟨rfl, b1.trans ((b2.trans ((b3.trans (b4.mono b3.size)).mono b2.size)).mono b1.size)⟩
    · have hz : ((lb.length : Int) == 0) = false := by simp; intro e; subst e; simp at h
      have hz2 : decide ((600 : Int) < (lb.length : Int)) = true := by simp; omega
      go_enter Try.func5, Try.ntmps5
      go_wp2_with fail
      refine (que_new _ _).mono ?_
      rintro e w1 ⟨rfl, -, b1⟩
      go_wp2_with fail
      refine (que_new _ _).mono ?_
      rintro e w2 ⟨rfl, -, b2⟩
      go_wp2_with fail
      refine (queAlive _).mono ?_
      rintro e w3 ⟨rfl, b3⟩
      go_wp2_with fail
      refine (queAlive _).mono ?_
      rintro e w4 ⟨rfl, b4⟩
      go_wp2
      go_ret
      exact ⟨rfl, b1.trans ((b2.trans ((b3.trans (b4.mono b3.size)).mono b2.size)).mono b1.size)⟩
  · have h0 : 0 < lb.length := by omega
    have hz : ((lb.length : Int) == 0) = false := by simp; intro e; subst e; simp at h0
    have hz2 : decide ((600 : Int) < (lb.length : Int)) = false := by simp; omega
    have V := Lib.hid (QS.roomVals r (by omega) lb h0)
    obtain ⟨k, hk⟩ : ∃ k : Nat, (k : Int) = cut % ((lb.length : Int) + 1) := ⟨(cut % ((lb.length : Int) + 1)).toNat, by have := Int.emod_nonneg cut (show (lb.length : Int) + 1 ≠ 0 by omega); omega⟩
    have hkl : k ≤ lb.length := by have := Int.emod_lt_of_pos cut (show (0 : Int) < (lb.length : Int) + 1 by omega); omega
    have V2 := Lib.hid (QS.roomVals2 r (by omega) lb k hkl)
    have HK := Lib.hid hk
    clear hk
    obtain ⟨x, hx⟩ : ∃ x, x = min (r + 1) lb.length := ⟨_, rfl⟩
    rw [← hx] at V
    have EX : Hid (min ((r : Int) + 1) (lb.length : Int) = (x : Int)) := by show _ = _; omega
    obtain ⟨iB, hiB, bz0, bz1, bz2⟩ := info_parts infoByte
    have hrunT := take_run (P := Try.prog) (t := 38) Try.underlying38 hiB bz1 A lb.length c k (by omega)
    obtain ⟨A', hrunC, hrdC⟩ := Rd.cut_run (P := Try.prog) (t := 38) R0.out Try.underlying38 hiB bz1 hkl
    have HC' := Lib.hid hrdC
    have HX := Lib.hid hx
    clear hrdC hx
    go_enter Try.func5, Try.ntmps5
    go_wp2_with fail
    refine (que_new ((r : Int) + 1) _).mono ?_
    rintro e w1 ⟨rfl, hL, b1⟩
    have L1 := Lib.hid hL
    have E1 := Lib.hid b1
    clear hL b1
    go_wp2_with fail
    refine (que_new ((r : Int) + 1) _).mono ?_
    rintro e w2 ⟨rfl, hL, b2⟩
    have S2 : Hid (RM w w.heap.size w1.heap.size (QS.new ((r : Int) + 1)) (QS.new ((r : Int) + 1)) w2) := by
      have P1 : Prs (QP w.heap.size (QS.new ((r : Int) + 1))) (QP w1.heap.size (QS.new ((r : Int) + 1))) w2 (fun k => w.heap.size ≤ k ∧ k < w1.heap.size) (fun k => w1.heap.size ≤ k) :=
        ⟨(L1.out.sub (fun k hk h => ⟨h, hk⟩)).below b2, hL, fun k h1 h2 => by omega⟩
      have hs := E1.out.size
      exact ⟨P1.shut QP.stays QP.stays (fun k _ hk => by rcases hk with hk | hk <;> (show w.heap.size ≤ k; omega)), E1.out.trans (b2.mono E1.out.size)⟩
    clear hL b2 L1 E1
    go_wp2_with fail
    generalize w1.heap.size = q at *
    refine (queAlive _).mono ?_
    rintro e w3 ⟨rfl, b3⟩
    have S3 := Lib.hid (S2.out.below b3)
    clear b3 S2
    have C1 := Lib.hid (S3.out.callP (s' := ((QS.new ((r : Int) + 1)).write lb).1) (fun F hF => que_write w3 F _ _ lb A c hF (R0.out.below S3.out.bel) HB.out (by simp [QS.new]; omega)))
    rw [V.out.1] at C1
    go_upto_region 6 with fail
    simp only [← HK.out]
    go_wp2_with fail
    refine C1.out.mono ?_
    rintro e w4 ⟨rfl, hS⟩
    have S4 := Lib.hid hS
    clear hS C1 S3
    have C1 := Lib.hid (S4.out.callQ (s := ((QS.new ((r : Int) + 1)).write lb).1) (u' := ((QS.new ((r : Int) + 1)).write (lb.take k)).1) (args := #[.pointer (some ⟨q, 0, none⟩), .slice A k c]) (fun F hF => by
      have hR := (R0.out.below S4.out.bel).take hkl
      have hlk : (lb.take k).length = k := by simp; omega
      have := que_write w4 F _ _ (lb.take k) A c hF (by rw [hlk]; simpa [U8, List.map_take] using hR) (fun x hx => HB.out x (List.mem_of_mem_take hx)) (by simp [QS.new]; omega)
      rw [hlk] at this
      exact this))
    rw [V2.out.1] at C1
    go_wp2_with fail
    refine C1.out.mono ?_
    rintro e w5 ⟨rfl, hS⟩
    have S5 := Lib.hid hS
    clear hS C1 S4
    have Z := Lib.hid (show k ≤ r + 1 → k + min (lb.length - k) (r + 1 - k) = x by have := HX.out; omega)
    have Z2 := Lib.hid (show ¬ k ≤ r + 1 → min k (r + 1) = x by have := HX.out; omega)
    have hxx : x ≤ 256 := by have := HX.out; omega
    go_upto_if 67 with fail
    go_cut [12] (fun s12 wx => ∃ u', s12 = .int .i64 x ∧ Hid (RM w w.heap.size q ((QS.new ((r : Int) + 1)).write lb).1 u' wx))
    case first =>
      by_cases hkr : k ≤ r + 1
      · have C1 := Lib.hid (S5.out.callQ (s := ((QS.new ((r : Int) + 1)).write lb).1) (u' := (((QS.new ((r : Int) + 1)).write (lb.take k)).1.write (lb.drop k)).1) (args := #[.pointer (some ⟨q, 0, none⟩), .slice A' (lb.length - k) (c - k)]) (fun F hF => by
          have hR := HC'.out _ _ (R0.out.below S5.out.bel)
          have hlk : (lb.drop k).length = lb.length - k := by simp
          have := que_write w5 F _ _ (lb.drop k) A' (c - k) hF (by rw [hlk]; simpa [U8, List.map_drop] using hR) (fun x hx => HB.out x (List.mem_of_mem_drop hx)) (by rw [V2.out.2.1, hlk]; omega)
          rw [hlk] at this
          exact this))
        rw [V2.out.2.2 hkr] at C1
        have hz := Z.out hkr
        have hkk : min k (r + 1) = k := by omega
        simp only [hkk]
        generalize min (lb.length - k) (r + 1 - k) = z at *
        clear hkk
        have e1 : ((k : Int) == (k : Int)) = true := by simp
        have e2 : IntKind.i64.wrap ((k : Int) + (z : Int)) = (x : Int) := by rw [IntWalk.i64_in _ (by omega)]; omega
        have E2 := Lib.hid (show (k : Int) + (z : Int) = (x : Int) by omega)
        clear hz
        go_wp2_with fail
        refine C1.out.mono ?_
        rintro e w6 ⟨rfl, hS⟩
        have S6 := Lib.hid hS
        clear hS
        go_wp2
        go_meet
        exact ⟨_, by first | rfl | rw [E2.out], S6⟩
      · have hz := Z2.out hkr
        have hkk : (((min k (r + 1) : Nat) : Int) == (k : Int)) = false := by simp; omega
        rw [hz] at hkk
        simp only [hz]
        go_wp2
        go_meet
        exact ⟨_, rfl, S5⟩
    case rest =>
      obtain ⟨u, rfl, S6⟩ := hcut
      clear S5
      have c1 : ((x : Int) != (x : Int)) = false := by simp
      have wx : IntKind.u64.wrap (x : Int) = (x : Int) := IntWalk.u64_in _ (by omega)
      obtain ⟨F, hF⟩ := S6.out.read
      have C1 := Lib.hid (que_end wc F _ _ hF)
      rw [V.out.2.1] at C1
      clear hF
      rw [← HK.out] at *
      have ex := EX.out
      go_wp2_with fail
      refine C1.out.mono ?_
      rintro e w7 ⟨rfl, hq⟩
      have S7 := Lib.hid (S6.out.below hq.below)
      clear hq C1 S6
      have C1 := Lib.hid (S7.out.callP (s' := (((QS.new ((r : Int) + 1)).write lb).1.sent 0 x).1) (fun F hF => que_sent w7 F _ _ 0 x hF ⟨by omega, by omega⟩ ⟨by omega, by omega⟩))
      rw [V.out.2.2.1] at C1
      go_wp2_with fail
      refine C1.out.mono ?_
      rintro e w8 ⟨rfl, hS⟩
      have S8 := Lib.hid hS
      clear hS C1 S7
      have C1 := Lib.hid (S8.out.callP (s' := ((((QS.new ((r : Int) + 1)).write lb).1.sent 0 x).1.acked 0 x).1) (fun F hF => que_acked w8 F _ _ 0 x hF ⟨by omega, by omega⟩ ⟨by omega, by omega⟩))
      rw [V.out.2.2.2.1] at C1
      go_wp2_with fail
      refine C1.out.mono ?_
      rintro e w9 ⟨rfl, hS⟩
      have S9 := Lib.hid hS
      clear hS C1 S8
      obtain ⟨F, hF⟩ := S9.out.read
      have C1 := Lib.hid (que_base w9 F _ _ hF)
      rw [V.out.2.2.2.2.1] at C1
      clear hF
      go_wp2_with fail
      refine C1.out.mono ?_
      rintro e w10 ⟨rfl, rfl⟩
      clear C1
      have C1 := Lib.hid (S9.out.callP (s' := (((((QS.new ((r : Int) + 1)).write lb).1.sent 0 x).1.acked 0 x).1.write lb).1) (fun F hF => que_write w9 F _ _ lb A c hF (R0.out.below S9.out.bel) HB.out (by rw [V.out.2.2.2.2.2.2]; omega)))
      rw [V.out.2.2.2.2.2.1] at C1
      go_wp2_with fail
      refine C1.out.mono ?_
      rintro e w11 ⟨rfl, hS⟩
      have hb := Lib.hid hS.bel
      clear hS C1
      go_wp2
      go_ret
      exact ⟨rfl, hb.out⟩

end Go.Proofs.Ytilgekmpkoohaaa

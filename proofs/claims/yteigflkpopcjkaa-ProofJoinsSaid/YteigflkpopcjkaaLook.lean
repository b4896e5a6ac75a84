/-
  trigger.Look: which number an acknowledgment names.
-/
import Derived.Test.YteigflkpopcjkaaAck
import Derived.Test.YteigflkpopcjkaaLedA
import Derived.Test.YteigflkpopcjkaaNums
namespace Go.Proofs.Yteigflkpopcjkaa
set_option linter.unusedSimpArgs false
set_option linter.unusedVariables false
set_option linter.unnecessarySimpa false
open Go.RowKit

def Ak.named (a : Ak) (x : Snt) : Bool := !decide (x.state = 4) && !x.used && decide (x.nonce = a.tr) && hasP a.sp x.pn
def Ak.look1 (a : Ak) (l : List Snt) : Int × Int := match l with
  | [] => (0, 3)
  | x :: r => if a.named x = true then (x.pn, 0) else a.look1 r
def Ak.lo (a : Ak) : Int := (a.sp.headD (0, 0)).1
def Ak.look (a : Ak) (s : LS) : Int × Int := if mayB a.sp a.mm = false then (0, 1) else if a.lo < s.low then (0, 2) else a.look1 s.kept
theorem Ak.look_may {a : Ak} {s : LS} (h : mayB a.sp a.mm = false) : a.look s = (0, 1) := by unfold Ak.look; rw [if_pos h]
theorem Ak.look_low {a : Ak} {s : LS} (h : mayB a.sp a.mm = true) (h1 : a.lo < s.low) : a.look s = (0, 2) := by unfold Ak.look; rw [if_neg (by simp [h]), if_pos h1]
theorem Ak.look_go {a : Ak} {s : LS} (h : mayB a.sp a.mm = true) (h1 : ¬ a.lo < s.low) : a.look s = a.look1 s.kept := by unfold Ak.look; rw [if_neg (by simp [h]), if_neg h1]
theorem Ak.look1_yes {a : Ak} {l : List Snt} {k : Nat} (hk : k < l.length) (h : a.named l[k] = true) : a.look1 (l.drop k) = (l[k].pn, 0) := by
  rw [List.drop_eq_getElem_cons hk]; simp [Ak.look1, h]
theorem Ak.look1_no {a : Ak} {l : List Snt} {k : Nat} (hk : k < l.length) (h : a.named l[k] = false) : a.look1 (l.drop k) = a.look1 (l.drop (k + 1)) := by
  rw [List.drop_eq_getElem_cons hk]; simp [Ak.look1, h]
theorem Ak.look1_end (a : Ak) (l : List Snt) : a.look1 (l.drop l.length) = (0, 3) := by simp [Ak.look1]
theorem mayB_true {sp mk : List Sp} (h : mayB sp mk = true) : MayP sp mk := of_decide_eq_true h
theorem named_no1 (a : Ak) (x : Snt) (h : x.state = 4) : a.named x = false := by simp [Ak.named, h]
theorem named_no2 (a : Ak) (x : Snt) (h : x.used = true) : a.named x = false := by simp [Ak.named, h]
theorem named_no3 (a : Ak) (x : Snt) (h : x.nonce ≠ a.tr) : a.named x = false := by simp [Ak.named, h]
theorem named_has (a : Ak) (x : Snt) (h1 : x.state ≠ 4) (h2 : x.used = false) (h3 : x.nonce = a.tr) : a.named x = hasP a.sp x.pn := by simp [Ak.named, h1, h2, h3]

structure LookRel (w : World) (a : Ak) (g : Nat) (A : Option Addr) (c : Nat) (l : List Snt) (k : Nat) (r : Int × Int) (wr : World) : Prop where
  p : AkBox w a g wr
  all : Rd wr 8 A l.length c (Sns l)
  res : r = a.look1 (l.drop k)
theorem LookRel.below {w wr wr' : World} {a : Ak} {g c k : Nat} {A : Option Addr} {l : List Snt} {r : Int × Int} (h : LookRel w a g A c l k r wr) (b : Below wr.heap.size wr wr') : LookRel w a g A c l k r wr' :=
  ⟨h.p.below b, h.all.below b, h.res⟩

set_option maxHeartbeats 8000000 in
set_option maxRecDepth 100000 in
theorem look_any (w : World) (F : Nat → Prop) (b : Nat) (s : LS) (a : Ak) (h : LedP w F b s) (ha : AkR w a) :
    Calls Try.prog 48 #[.pointer (some ⟨b, 0, none⟩), a.val] w fun e w' => e = .returned (.tuple #[.int .u64 (a.look s).1, .int .i64 (a.look s).2]) ∧ Below w.heap.size w w' := by
  have P0 := Lib.hid (AkBox.of ha (Below.refl w.heap.size w))
  have hb0 := box_below w (.cells a.cells 71)
  have H0 := Lib.hid (h.below hb0)
  have g5 := s.kept_le
  have g2 := h.good.ring256
  have HK := Lib.hid h.good.keptOk
  have u1 := ha.ut
  obtain ⟨u1, u2⟩ := u1
  clear ha h
  obtain ⟨A, c, B, d, sp, mk, tr, xo, od⟩ := a
  unfold Ak.val
  simp only [Ak.cells] at hb0 P0 H0 u1 u2 ⊢
  go_enter Try.func48, Try.ntmps48
  go_wp2_with fail
  generalize hw : w.alloc (.cells #[.slice A sp.length c, .slice B mk.length d, .int .u64 tr, .int .u64 xo, .bool od] 71) = w1 at *
  clear hw hb0
  generalize hg : w.heap.size = g at *
  refine (may_any w1 ⟨A, c, B, d, sp, mk, tr, xo, od⟩ P0.out.r).mono ?_
  by_cases hmay : mayB sp mk = true
  · have HM := Lib.hid hmay
    rw [show mayB (Ak.mk A c B d sp mk tr xo od).sp (Ak.mk A c B d sp mk tr xo od).mm = true from hmay]
    rintro e w2 ⟨rfl, q⟩
    have P2 := Lib.hid (P0.out.below q)
    have H2 := Lib.hid (H0.out.below q)
    clear q P0 H0
    obtain ⟨⟨l1, l2, l3⟩, hgs, -, -⟩ := mayB_true hmay
    have GS := Lib.hid hgs
    clear hmay hgs
    have t0 := cell_of_row w2 g 0 _ _ _ P2.out.t
    have t1 := cell_of_row w2 g 1 _ _ _ P2.out.t
    have t2 := cell_of_row w2 g 2 _ _ _ P2.out.t
    have t3 := cell_of_row w2 g 3 _ _ _ P2.out.t
    have t4 := cell_of_row w2 g 4 _ _ _ P2.out.t
    simp only [Ak.cells] at t0 t1 t2 t3 t4
    obtain ⟨sb, so, x, y, rfl, Hx, x0, y0, x1, x2, y1, y2⟩ := P2.out.r.rs.sp P2.out.r.us (k := 0) (by show 0 < sp.length; omega)
    simp only [Nat.zero_mul, Nat.add_zero] at x0 y0
    have Hlo : Hid (Ak.lo ⟨some ⟨sb, so, none⟩, c, B, d, sp, mk, tr, xo, od⟩ = x) := by
      show _ = _
      have e := Hx.out
      cases sp with
      | nil => simp at l1
      | cons q r => simp at e; simp [Ak.lo, e]
    have k1 := s.low_le
    have k3 := H2.out.good.len
    have k4 := H2.out.good.lim1
    go_wp2
    by_cases hlow : x < s.low
    · have HL := Lib.hid hlow
      have Hr := Lib.hid (Ak.look_low (a := ⟨some ⟨sb, so, none⟩, c, B, d, sp, mk, tr, xo, od⟩) (s := s) HM.out (by rw [Hlo.out]; exact hlow))
      refine wp_region_qt (by kernel_rfl) (by kernel_rfl) ?_
      repeat (first | go_big_quiet_step ((go_at_call 28; exact Qt.callN (led_low _ F b s H2.out.dn))) | quiet_step ((go_at_call 28; exact Qt.callN (led_low _ F b s H2.out.dn))))
      refine wpQuiet_nil ?_
      intro w3 q3
      go_wp2
      go_ret2
      rw [Hr.out]
      exact ⟨rfl, P2.out.bel.trans q3.below⟩
    · have Hr := Lib.hid (Ak.look_go (a := ⟨some ⟨sb, so, none⟩, c, B, d, sp, mk, tr, xo, od⟩) (s := s) HM.out (by rw [Hlo.out]; exact hlow))
      refine wp_region_qt (by kernel_rfl) (by kernel_rfl) ?_
      repeat (first | go_big_quiet_step ((go_at_call 28; exact Qt.callN (led_low _ F b s H2.out.dn))) | quiet_step ((go_at_call 28; exact Qt.callN (led_low _ F b s H2.out.dn))))
      refine wpQuiet_nil ?_
      intro w3 q3
      have P3 := Lib.hid (P2.out.below q3.below)
      have H3 := Lib.hid (H2.out.below q3.below)
      clear q3 P2 H2 t0 t1 t2 t3 t4 x0 y0
      go_wp2_with fail
      refine (led_all w3 F b s H3.out).mono ?_
      rintro e w4 ⟨A4, c4, rfl, ho, q⟩
      have st : Hid (LookRel w ⟨some ⟨sb, so, none⟩, c, B, d, sp, mk, tr, xo, od⟩ g A4 c4 s.kept 0 (Ak.look1 ⟨some ⟨sb, so, none⟩, c, B, d, sp, mk, tr, xo, od⟩ s.kept) w4) := ⟨P3.out.below q, Rd.of_own ho, by simp⟩
      rw [← Hr.out] at st
      clear q ho P3 H3
      go_wp2
      go_loopw [26] (fun i wr => ∃ (k : Nat), k ≤ s.kept.length ∧ i = .int .i64 k ∧ Hid (LookRel w ⟨some ⟨sb, so, none⟩, c, B, d, sp, mk, tr, xo, od⟩ g A4 c4 s.kept k (Ak.look ⟨some ⟨sb, so, none⟩, c, B, d, sp, mk, tr, xo, od⟩ s) wr)) (fun i _ => s.kept.length - (intOf i).toNat)
      case atStart => exact ⟨0, Nat.zero_le _, rfl, st⟩
      case round =>
        obtain ⟨k, hk, rfl, HF⟩ := hrel
        have t0 := cell_of_row wr g 0 _ _ _ HF.out.p.t
        have t1 := cell_of_row wr g 1 _ _ _ HF.out.p.t
        have t2 := cell_of_row wr g 2 _ _ _ HF.out.p.t
        have t3 := cell_of_row wr g 3 _ _ _ HF.out.p.t
        have t4 := cell_of_row wr g 4 _ _ _ HF.out.p.t
        simp only [Ak.cells] at t0 t1 t2 t3 t4
        have gl := lt_of_block HF.out.p.t
        by_cases hlt : k < s.kept.length
        · obtain ⟨bb, off, rfl, d0, d1, d2, d3, d4, d5, d6, d7⟩ := HF.out.all.snt hlt
          have okx := HK.out s.kept[k] (List.getElem_mem _)
          obtain ⟨p0, p1⟩ := okx.pn
          obtain ⟨n0, n1⟩ := okx.nonce
          have Hno := Lib.hid (fun h => Ak.look1_no (a := ⟨some ⟨sb, so, none⟩, c, B, d, sp, mk, tr, xo, od⟩) hlt h)
          have Hyes := Lib.hid (fun h => Ak.look1_yes (a := ⟨some ⟨sb, so, none⟩, c, B, d, sp, mk, tr, xo, od⟩) hlt h)
          have adv : Hid (∀ wr', Below wr.heap.size wr wr' → Ak.named ⟨some ⟨sb, so, none⟩, c, B, d, sp, mk, tr, xo, od⟩ s.kept[k] = false → LookRel w ⟨some ⟨sb, so, none⟩, c, B, d, sp, mk, tr, xo, od⟩ g (some ⟨bb, off, none⟩) c4 s.kept (k + 1) (Ak.look ⟨some ⟨sb, so, none⟩, c, B, d, sp, mk, tr, xo, od⟩ s) wr') := fun wr' hb hc =>
            ⟨HF.out.p.below hb, HF.out.all.below hb, by rw [HF.out.res, Hno.out hc]⟩
          clear okx
          generalize s.kept[k] = x at *
          by_cases e1 : x.state = 4
          · have HN := Lib.hid (named_no1 ⟨some ⟨sb, so, none⟩, c, B, d, sp, mk, tr, xo, od⟩ x e1)
            go_wp2
            go_roundw
            case rel => exact ⟨k + 1, by omega, by go_num, adv.out _ (box_below _ _) HN.out⟩
            case measure => simp [intOf]; omega
          · have e1' : (x.state != 4) = true := by simp [e1]
            cases hu : x.used with
            | true =>
              have HN := Lib.hid (named_no2 ⟨some ⟨sb, so, none⟩, c, B, d, sp, mk, tr, xo, od⟩ x hu)
              rw [hu] at d6
              go_wp2
              go_roundw
              case rel => exact ⟨k + 1, by omega, by go_num, adv.out _ (box_below _ _) HN.out⟩
              case measure => simp [intOf]; omega
            | false =>
              rw [hu] at d6
              by_cases e3 : x.nonce = tr
              · have HN := Lib.hid (named_has ⟨some ⟨sb, so, none⟩, c, B, d, sp, mk, tr, xo, od⟩ x e1 hu e3)
                have hbx := box_below wr (.cells #[.int .u64 x.pn, .int .u64 x.off, .int .u64 x.len, .int .u64 tr, .int .u64 x.at_, .bool x.coin, .bool false, .int .i64 x.state] 32)
                have BX := Lib.hid (heap_alloc_new wr (.cells #[.int .u64 x.pn, .int .u64 x.off, .int .u64 x.len, .int .u64 tr, .int .u64 x.at_, .bool x.coin, .bool false, .int .i64 x.state] 32))
                have HB := Lib.hid hbx
                rw [e3] at d3 n0 n1
                clear hbx e3
                go_wp2_with fail
                refine (has_yes (some ⟨sb, so, none⟩) _ c sp x.pn _ (HF.out.p.r.below HB.out).rs (HF.out.p.r.us) GS.out p0 p1).mono ?_
                cases hh : hasP sp x.pn with
                | true =>
                  have HH := Lib.hid (HN.out.trans hh)
                  rintro e w5 ⟨rfl, q⟩
                  have BX5 := Lib.hid ((q.block _ (lt_of_block BX.out)).trans BX.out)
                  have hb5 := HB.out.trans (q.mono HB.out.size)
                  clear q t0 t1 t2 t3 t4
                  have y0 := cell_of_row w5 wr.heap.size 0 _ _ _ BX5.out
                  have y1 := cell_of_row w5 wr.heap.size 1 _ _ _ BX5.out
                  have y2 := cell_of_row w5 wr.heap.size 2 _ _ _ BX5.out
                  have y3 := cell_of_row w5 wr.heap.size 3 _ _ _ BX5.out
                  have y4 := cell_of_row w5 wr.heap.size 4 _ _ _ BX5.out
                  have y5 := cell_of_row w5 wr.heap.size 5 _ _ _ BX5.out
                  have y6 := cell_of_row w5 wr.heap.size 6 _ _ _ BX5.out
                  have y7 := cell_of_row w5 wr.heap.size 7 _ _ _ BX5.out
                  go_wp2
                  go_ret2
                  rw [HF.out.res, Hyes.out HH.out]
                  exact ⟨rfl, HF.out.p.bel.trans (hb5.mono HF.out.p.bel.size)⟩
                | false =>
                  have HH := Lib.hid (HN.out.trans hh)
                  rintro e w5 ⟨rfl, q⟩
                  have hb5 := HB.out.trans (q.mono HB.out.size)
                  clear q t0 t1 t2 t3 t4
                  go_wp2
                  go_roundw
                  case rel => exact ⟨k + 1, by omega, by go_num, adv.out _ hb5 HH.out⟩
                  case measure => simp [intOf]; omega
              · have HN := Lib.hid (named_no3 ⟨some ⟨sb, so, none⟩, c, B, d, sp, mk, tr, xo, od⟩ x e3)
                go_wp2
                go_roundw
                case rel => exact ⟨k + 1, by omega, by go_num, adv.out _ (box_below _ _) HN.out⟩
                case measure => simp [intOf]; omega
        · obtain rfl : k = s.kept.length := by omega
          go_wp2
          go_ret2
          rw [HF.out.res, Ak.look1_end]
          exact ⟨rfl, HF.out.p.bel⟩
  · have hmay' : mayB sp mk = false := by simpa using hmay
    have Hr := Lib.hid (Ak.look_may (a := ⟨A, c, B, d, sp, mk, tr, xo, od⟩) (s := s) hmay')
    rw [show mayB (Ak.mk A c B d sp mk tr xo od).sp (Ak.mk A c B d sp mk tr xo od).mm = false from hmay']
    rintro e w2 ⟨rfl, q⟩
    have hb := P0.out.bel.trans (q.mono P0.out.bel.size)
    clear q P0 hmay hmay'
    go_wp2
    go_ret2
    rw [Hr.out]
    exact ⟨rfl, hb⟩

end Go.Proofs.Yteigflkpopcjkaa

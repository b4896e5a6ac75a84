/-
  trigger.Look: which number an acknowledgment names. · The reference's Look. · Plain law of the trigger: what is named is there, unused, and named once. · What an acknowledgment names hangs on its rows and its trigger alone.
-/
import Derived.Test.YtpfmhkkglaghgaaGreatAck
import Derived.Test.YtpfmhkkglaghgaaGreatDo
import Derived.Test.YtpfmhkkglaghgaaGreatNumI
namespace Go.Proofs.YtpfmhkkglaghgaaGreat
set_option linter.unusedSimpArgs false
set_option linter.unusedVariables false
set_option linter.unnecessarySimpa false
open Go.RowKit

def Ak.named (a : Ak) (x : Snt) : Bool := !decide (x.state = 4) && !x.used && decide (x.nonce = a.tr) && hasP a.sp x.pn
def Ak.look1 (a : Ak) (l : List Snt) : Int × Int := match l with
  | [] => (0, 3)
  | x :: r => if a.named x = true then (x.pn, 0) else a.look1 r
def Ak.lo (a : Ak) : Int := (a.sp.headD (0, 0)).1
def Ak.look (a : Ak) (s : LS) : Int × Int := if mayB a.sp a.mm = false then (0, 1) else if a.lo < s.low then (0, 2) else a.look1 s.kept
theorem Ak.look_may {a : Ak} {s : LS} (h : mayB a.sp a.mm = false) : a.look s = (0, 1) := by unfold Ak.look; rw [if_pos h]
theorem Ak.look_low {a : Ak} {s : LS} (h : mayB a.sp a.mm = true) (h1 : a.lo < s.low) : a.look s = (0, 2) := by unfold Ak.look; rw [if_neg (by simp [h]), if_pos h1]
theorem Ak.look_go {a : Ak} {s : LS} (h : mayB a.sp a.mm = true) (h1 : ¬ a.lo < s.low) : a.look s = a.look1 s.kept := by unfold Ak.look; rw [if_neg (by simp [h]), if_neg h1]
theorem Ak.look1_yes {a : Ak} {l : List Snt} {k : Nat} (hk : k < l.length) (h : a.named l[k] = true) : a.look1 (l.drop k) = (l[k].pn, 0) := by
  rw [List.drop_eq_getElem_cons hk]; simp [Ak.look1, h]
theorem Ak.look1_no {a : Ak} {l : List Snt} {k : Nat} (hk : k < l.length) (h : a.named l[k] = false) : a.look1 (l.drop k) = a.look1 (l.drop (k + 1)) := by
  rw [List.drop_eq_getElem_cons hk]; simp [Ak.look1, h]
theorem Ak.look1_end (a : Ak) (l : List Snt) : a.look1 (l.drop l.length) = (0, 3) := by simp [Ak.look1]
theorem mayB_true {sp mk : List Sp} (h : mayB sp mk = true) : MayP sp mk := of_decide_eq_true h
theorem named_no1 (a : Ak) (x : Snt) (h : x.state = 4) : a.named x = false := by simp [Ak.named, h]
theorem named_no2 (a : Ak) (x : Snt) (h : x.used = true) : a.named x = false := by simp [Ak.named, h]
theorem named_no3 (a : Ak) (x : Snt) (h : x.nonce ≠ a.tr) : a.named x = false := by simp [Ak.named, h]
theorem named_has (a : Ak) (x : Snt) (h1 : x.state ≠ 4) (h2 : x.used = false) (h3 : x.nonce = a.tr) : a.named x = hasP a.sp x.pn := by simp [Ak.named, h1, h2, h3]

structure LookRel (w : World) (a : Ak) (g : Nat) (A : Option Addr) (c : Nat) (l : List Snt) (k : Nat) (r : Int × Int) (wr : World) : Prop where
  p : AkBox w a g wr
  all : Rd wr 8 A l.length c (Sns l)
  res : r = a.look1 (l.drop k)
theorem LookRel.below {w wr wr' : World} {a : Ak} {g c k : Nat} {A : Option Addr} {l : List Snt} {r : Int × Int} (h : LookRel w a g A c l k r wr) (b : Below wr.heap.size wr wr') : LookRel w a g A c l k r wr' :=
  ⟨h.p.below b, h.all.below b, h.res⟩

set_option maxHeartbeats 8000000 in
set_option maxRecDepth 100000 in
theorem look_any (w : World) (F : Nat → Prop) (b : Nat) (s : LS) (a : Ak) (h : LedP w F b s) (ha : AkR w a) :
    Calls Tryz.prog 52 #[.pointer (some ⟨b, 0, none⟩), a.val] w fun e w' => e = .returned (.tuple #[.int .u64 (a.look s).1, .int .i64 (a.look s).2]) ∧ Below w.heap.size w w' := by
  have P0 := Lib.hid (AkBox.of ha (Below.refl w.heap.size w))
  have hb0 := box_below w (.cells a.cells 74)
  have H0 := Lib.hid (h.below hb0)
  have g5 := s.kept_le
  have g2 := h.good.ring256
  have HK := Lib.hid h.good.keptOk
  have u1 := ha.ut
  obtain ⟨u1, u2⟩ := u1
  clear ha h
  obtain ⟨A, c, B, d, sp, mk, tr, xo, od⟩ := a
  unfold Ak.val
  simp only [Ak.cells] at hb0 P0 H0 u1 u2 ⊢
  go_enter Tryz.func52, Tryz.ntmps52
  go_wp2_with fail
  generalize hw : w.alloc (.cells #[.slice A sp.length c, .slice B mk.length d, .int .u64 tr, .int .u64 xo, .bool od] 74) = w1 at *
  clear hw hb0
  generalize hg : w.heap.size = g at *
  refine (may_any w1 ⟨A, c, B, d, sp, mk, tr, xo, od⟩ P0.out.r).mono ?_
  by_cases hmay : mayB sp mk = true
  · have HM := Lib.hid hmay
    rw [show mayB (Ak.mk A c B d sp mk tr xo od).sp (Ak.mk A c B d sp mk tr xo od).mm = true from hmay]
    rintro e w2 ⟨rfl, q⟩
    have P2 := Lib.hid (P0.out.below q)
    have H2 := Lib.hid (H0.out.below q)
    clear q P0 H0
    obtain ⟨⟨l1, l2, l3⟩, hgs, -, -⟩ := mayB_true hmay
    have GS := Lib.hid hgs
    clear hmay hgs
    have t0 := cell_of_row w2 g 0 _ _ _ P2.out.t
    have t1 := cell_of_row w2 g 1 _ _ _ P2.out.t
    have t2 := cell_of_row w2 g 2 _ _ _ P2.out.t
    have t3 := cell_of_row w2 g 3 _ _ _ P2.out.t
    have t4 := cell_of_row w2 g 4 _ _ _ P2.out.t
    simp only [Ak.cells] at t0 t1 t2 t3 t4
    obtain ⟨sb, so, x, y, rfl, Hx, x0, y0, x1, x2, y1, y2⟩ := P2.out.r.rs.sp P2.out.r.us (k := 0) (by show 0 < sp.length; omega)
    simp only [Nat.zero_mul, Nat.add_zero] at x0 y0
    have Hlo : Hid (Ak.lo ⟨some ⟨sb, so, none⟩, c, B, d, sp, mk, tr, xo, od⟩ = x) := by
      show _ = _
      have e := Hx.out
      cases sp with
      | nil => simp at l1
      | cons q r => simp at e; simp [Ak.lo, e]
    have k1 := s.low_le
    have k3 := H2.out.good.len
    have k4 := H2.out.good.lim1
    go_wp2
    by_cases hlow : x < s.low
    · have HL := Lib.hid hlow
      have Hr := Lib.hid (Ak.look_low (a := ⟨some ⟨sb, so, none⟩, c, B, d, sp, mk, tr, xo, od⟩) (s := s) HM.out (by rw [Hlo.out]; exact hlow))
      refine wp_region_qt (by kernel_rfl) (by kernel_rfl) ?_
      repeat (first | go_big_quiet_step ((go_at_call 81; exact Qt.callN (led_low _ F b s H2.out.dn))) | quiet_step ((go_at_call 81; exact Qt.callN (led_low _ F b s H2.out.dn))))
      refine wpQuiet_nil ?_
      intro w3 q3
      go_wp2
      go_ret2
      rw [Hr.out]
      exact ⟨rfl, P2.out.bel.trans q3.below⟩
    · have Hr := Lib.hid (Ak.look_go (a := ⟨some ⟨sb, so, none⟩, c, B, d, sp, mk, tr, xo, od⟩) (s := s) HM.out (by rw [Hlo.out]; exact hlow))
      refine wp_region_qt (by kernel_rfl) (by kernel_rfl) ?_
      repeat (first | go_big_quiet_step ((go_at_call 81; exact Qt.callN (led_low _ F b s H2.out.dn))) | quiet_step ((go_at_call 81; exact Qt.callN (led_low _ F b s H2.out.dn))))
      refine wpQuiet_nil ?_
      intro w3 q3
      have P3 := Lib.hid (P2.out.below q3.below)
      have H3 := Lib.hid (H2.out.below q3.below)
      clear q3 P2 H2 t0 t1 t2 t3 t4 x0 y0
      go_wp2_with fail
      refine (led_all w3 F b s H3.out).mono ?_
      rintro e w4 ⟨A4, c4, rfl, ho, q⟩
      have st : Hid (LookRel w ⟨some ⟨sb, so, none⟩, c, B, d, sp, mk, tr, xo, od⟩ g A4 c4 s.kept 0 (Ak.look1 ⟨some ⟨sb, so, none⟩, c, B, d, sp, mk, tr, xo, od⟩ s.kept) w4) := ⟨P3.out.below q, Rd.of_own ho, by simp⟩
      rw [← Hr.out] at st
      clear q ho P3 H3
      go_wp2
      go_loopw [26] (fun i wr => ∃ (k : Nat), k ≤ s.kept.length ∧ i = .int .i64 k ∧ Hid (LookRel w ⟨some ⟨sb, so, none⟩, c, B, d, sp, mk, tr, xo, od⟩ g A4 c4 s.kept k (Ak.look ⟨some ⟨sb, so, none⟩, c, B, d, sp, mk, tr, xo, od⟩ s) wr)) (fun i _ => s.kept.length - (intOf i).toNat)
      case atStart => exact ⟨0, Nat.zero_le _, rfl, st⟩
      case round =>
        obtain ⟨k, hk, rfl, HF⟩ := hrel
        have t0 := cell_of_row wr g 0 _ _ _ HF.out.p.t
        have t1 := cell_of_row wr g 1 _ _ _ HF.out.p.t
        have t2 := cell_of_row wr g 2 _ _ _ HF.out.p.t
        have t3 := cell_of_row wr g 3 _ _ _ HF.out.p.t
        have t4 := cell_of_row wr g 4 _ _ _ HF.out.p.t
        simp only [Ak.cells] at t0 t1 t2 t3 t4
        have gl := lt_of_block HF.out.p.t
        by_cases hlt : k < s.kept.length
        · obtain ⟨bb, off, rfl, d0, d1, d2, d3, d4, d5, d6, d7⟩ := HF.out.all.snt hlt
          have okx := HK.out s.kept[k] (List.getElem_mem _)
          obtain ⟨p0, p1⟩ := okx.pn
          obtain ⟨n0, n1⟩ := okx.nonce
          have Hno := Lib.hid (fun h => Ak.look1_no (a := ⟨some ⟨sb, so, none⟩, c, B, d, sp, mk, tr, xo, od⟩) hlt h)
          have Hyes := Lib.hid (fun h => Ak.look1_yes (a := ⟨some ⟨sb, so, none⟩, c, B, d, sp, mk, tr, xo, od⟩) hlt h)
          have adv : Hid (∀ wr', Below wr.heap.size wr wr' → Ak.named ⟨some ⟨sb, so, none⟩, c, B, d, sp, mk, tr, xo, od⟩ s.kept[k] = false → LookRel w ⟨some ⟨sb, so, none⟩, c, B, d, sp, mk, tr, xo, od⟩ g (some ⟨bb, off, none⟩) c4 s.kept (k + 1) (Ak.look ⟨some ⟨sb, so, none⟩, c, B, d, sp, mk, tr, xo, od⟩ s) wr') := fun wr' hb hc =>
            ⟨HF.out.p.below hb, HF.out.all.below hb, by rw [HF.out.res, Hno.out hc]⟩
          clear okx
          generalize s.kept[k] = x at *
          by_cases e1 : x.state = 4
          · have HN := Lib.hid (named_no1 ⟨some ⟨sb, so, none⟩, c, B, d, sp, mk, tr, xo, od⟩ x e1)
            go_wp2
            go_roundw
            case rel => exact ⟨k + 1, by omega, by go_num, adv.out _ (box_below _ _) HN.out⟩
            case measure => simp [intOf]; omega
          · have e1' : (x.state != 4) = true := by simp [e1]
            cases hu : x.used with
            | true =>
              have HN := Lib.hid (named_no2 ⟨some ⟨sb, so, none⟩, c, B, d, sp, mk, tr, xo, od⟩ x hu)
              rw [hu] at d6
              go_wp2
              go_roundw
              case rel => exact ⟨k + 1, by omega, by go_num, adv.out _ (box_below _ _) HN.out⟩
              case measure => simp [intOf]; omega
            | false =>
              rw [hu] at d6
              by_cases e3 : x.nonce = tr
              · have HN := Lib.hid (named_has ⟨some ⟨sb, so, none⟩, c, B, d, sp, mk, tr, xo, od⟩ x e1 hu e3)
                have hbx := box_below wr (.cells #[.int .u64 x.pn, .int .u64 x.off, .int .u64 x.len, .int .u64 tr, .int .u64 x.at_, .bool x.coin, .bool false, .int .i64 x.state] 66)
                have BX := Lib.hid (heap_alloc_new wr (.cells #[.int .u64 x.pn, .int .u64 x.off, .int .u64 x.len, .int .u64 tr, .int .u64 x.at_, .bool x.coin, .bool false, .int .i64 x.state] 66))
                have HB := Lib.hid hbx
                rw [e3] at d3 n0 n1
                clear hbx e3
                go_wp2_with fail
                refine (has_yes (some ⟨sb, so, none⟩) _ c sp x.pn _ (HF.out.p.r.below HB.out).rs (HF.out.p.r.us) GS.out p0 p1).mono ?_
                cases hh : hasP sp x.pn with
                | true =>
                  have HH := Lib.hid (HN.out.trans hh)
                  rintro e w5 ⟨rfl, q⟩
                  have BX5 := Lib.hid ((q.block _ (lt_of_block BX.out)).trans BX.out)
                  have hb5 := HB.out.trans (q.mono HB.out.size)
                  clear q t0 t1 t2 t3 t4
                  have y0 := cell_of_row w5 wr.heap.size 0 _ _ _ BX5.out
                  have y1 := cell_of_row w5 wr.heap.size 1 _ _ _ BX5.out
                  have y2 := cell_of_row w5 wr.heap.size 2 _ _ _ BX5.out
                  have y3 := cell_of_row w5 wr.heap.size 3 _ _ _ BX5.out
                  have y4 := cell_of_row w5 wr.heap.size 4 _ _ _ BX5.out
                  have y5 := cell_of_row w5 wr.heap.size 5 _ _ _ BX5.out
                  have y6 := cell_of_row w5 wr.heap.size 6 _ _ _ BX5.out
                  have y7 := cell_of_row w5 wr.heap.size 7 _ _ _ BX5.out
                  go_wp2
                  go_ret2
                  rw [HF.out.res, Hyes.out HH.out]
                  exact ⟨rfl, HF.out.p.bel.trans (hb5.mono HF.out.p.bel.size)⟩
                | false =>
                  have HH := Lib.hid (HN.out.trans hh)
                  rintro e w5 ⟨rfl, q⟩
                  have hb5 := HB.out.trans (q.mono HB.out.size)
                  clear q t0 t1 t2 t3 t4
                  go_wp2
                  go_roundw
                  case rel => exact ⟨k + 1, by omega, by go_num, adv.out _ hb5 HH.out⟩
                  case measure => simp [intOf]; omega
              · have HN := Lib.hid (named_no3 ⟨some ⟨sb, so, none⟩, c, B, d, sp, mk, tr, xo, od⟩ x e3)
                go_wp2
                go_roundw
                case rel => exact ⟨k + 1, by omega, by go_num, adv.out _ (box_below _ _) HN.out⟩
                case measure => simp [intOf]; omega
        · obtain rfl : k = s.kept.length := by omega
          go_wp2
          go_ret2
          rw [HF.out.res, Ak.look1_end]
          exact ⟨rfl, HF.out.p.bel⟩
  · have hmay' : mayB sp mk = false := by simpa using hmay
    have Hr := Lib.hid (Ak.look_may (a := ⟨A, c, B, d, sp, mk, tr, xo, od⟩) (s := s) hmay')
    rw [show mayB (Ak.mk A c B d sp mk tr xo od).sp (Ak.mk A c B d sp mk tr xo od).mm = false from hmay']
    rintro e w2 ⟨rfl, q⟩
    have hb := P0.out.bel.trans (q.mono P0.out.bel.size)
    clear q P0 hmay hmay'
    go_wp2
    go_ret2
    rw [Hr.out]
    exact ⟨rfl, hb⟩

end Go.Proofs.YtpfmhkkglaghgaaGreat

namespace Go.Proofs.YtpfmhkkglaghgaaGreat
set_option linter.unusedSimpArgs false
set_option linter.unusedVariables false
set_option linter.unnecessarySimpa false
open Go.RowKit

theorem below_any (A : Option Addr) (n c : Nat) (l : List Sp) (q : Int) (w : World) (v : Bool) (hv : decide ((l.headD (0, 0)).1 < q) = v) (h : Rd w 2 A n c (Ss l)) (hu : U2s l) (h1 : 1 ≤ l.length) (hq : isU64 q) :
    Calls Tryz.prog 97 #[.slice A n c, .int .u64 q] w fun e w' => e = .returned (.bool v) ∧ Qt w w' := by
  have hl := h.len
  rw [Ss_length] at hl
  obtain rfl : l.length = n := by omega
  obtain ⟨sb, so, x, y, rfl, Hx, x0, y0, x1, x2, y1, y2⟩ := h.sp hu (k := 0) (by omega)
  simp only [Nat.zero_mul, Nat.add_zero] at x0 y0
  have Hlo : (l.headD (0, 0)).1 = x := by
    have e := Hx.out
    cases l with
    | nil => simp at h1
    | cons q r => simp at e; simp [e]
  rw [Hlo] at hv
  obtain ⟨q0, q1⟩ := hq
  have hcap := h.cap
  have hmax := h.max
  unfold maxLen at hmax
  clear Hlo
  cases v with
  | true =>
    have hlt := of_decide_eq_true hv
    go_enter Tryz.func97, Tryz.ntmps97
    go_wp2
    go_ret
    exact ⟨rfl, Qt.refl _⟩
  | false =>
    have hlt := of_decide_eq_false hv
    go_enter Tryz.func97, Tryz.ntmps97
    go_wp2
    go_ret
    exact ⟨rfl, Qt.refl _⟩

structure LookRelR (w : World) (F : Nat → Prop) (b : Nat) (s : LS) (a : Ak) (g : Nat) (k : Nat) (r : Int × Int) (wr : World) : Prop where
  p : AkBox w a g wr
  led : LedR wr F b s
  res : r = a.look1 (s.kept.drop k)
theorem LookRelR.below {w wr wr' : World} {F : Nat → Prop} {b : Nat} {s : LS} {a : Ak} {g k : Nat} {r : Int × Int} (h : LookRelR w F b s a g k r wr) (b' : Below wr.heap.size wr wr') : LookRelR w F b s a g k r wr' :=
  ⟨h.p.below b', h.led.below b', h.res⟩

set_option maxHeartbeats 8000000 in
set_option maxRecDepth 100000 in
theorem lookR_any (w : World) (F : Nat → Prop) (b : Nat) (s : LS) (a : Ak) (h : LedR w F b s) (ha : AkR w a) :
    Calls Tryz.prog 64 #[.pointer (some ⟨b, 0, none⟩), a.val] w fun e w' => e = .returned (.tuple #[.int .u64 (a.look s).1, .int .i64 (a.look s).2]) ∧ Below w.heap.size w w' := by
  have P0 := Lib.hid (AkBox.of ha (Below.refl w.heap.size w))
  have hb0 := box_below w (.cells a.cells 74)
  have H0 := Lib.hid (h.below hb0)
  have g5 := s.kept_le
  have g2 := h.good.ring256
  have HK := Lib.hid h.good.keptOk
  have u1 := ha.ut
  obtain ⟨u1, u2⟩ := u1
  clear ha h
  obtain ⟨A, c, B, d, sp, mk, tr, xo, od⟩ := a
  unfold Ak.val
  simp only [Ak.cells] at hb0 P0 H0 u1 u2 ⊢
  go_enter Tryz.func64, Tryz.ntmps64
  go_wp2_with fail
  generalize hw : w.alloc (.cells #[.slice A sp.length c, .slice B mk.length d, .int .u64 tr, .int .u64 xo, .bool od] 74) = w1 at *
  clear hw hb0
  generalize hg : w.heap.size = g at *
  refine (mayAck_any w1 ⟨A, c, B, d, sp, mk, tr, xo, od⟩ P0.out.r).mono ?_
  by_cases hmay : mayB sp mk = true
  · have HM := Lib.hid hmay
    rw [show mayB (Ak.mk A c B d sp mk tr xo od).sp (Ak.mk A c B d sp mk tr xo od).mm = true from hmay]
    rintro e w2 ⟨rfl, q⟩
    have P2 := Lib.hid (P0.out.below q)
    have H2 := Lib.hid (H0.out.below q)
    clear q P0 H0
    obtain ⟨⟨l1, l2, l3⟩, hgs, -, -⟩ := mayB_true hmay
    have GS := Lib.hid hgs
    clear hmay hgs
    have t0 := cell_of_row w2 g 0 _ _ _ P2.out.t
    have t1 := cell_of_row w2 g 1 _ _ _ P2.out.t
    have t2 := cell_of_row w2 g 2 _ _ _ P2.out.t
    have t3 := cell_of_row w2 g 3 _ _ _ P2.out.t
    have t4 := cell_of_row w2 g 4 _ _ _ P2.out.t
    simp only [Ak.cells] at t0 t1 t2 t3 t4
    obtain ⟨sb, so, x, y, rfl, Hx, x0, y0, x1, x2, y1, y2⟩ := P2.out.r.rs.sp P2.out.r.us (k := 0) (by show 0 < sp.length; omega)
    simp only [Nat.zero_mul, Nat.add_zero] at x0 y0
    have Hlo : Hid (Ak.lo ⟨some ⟨sb, so, none⟩, c, B, d, sp, mk, tr, xo, od⟩ = x) := by
      show _ = _
      have e := Hx.out
      cases sp with
      | nil => simp at l1
      | cons q r => simp at e; simp [Ak.lo, e]
    have k1 := s.low_le
    have k3 := H2.out.good.len
    have k4 := H2.out.good.lim1
    go_wp2
    have HW : Hid (isU64 (s.low : Int)) := ⟨by omega, by omega⟩
    by_cases hlow : x < s.low
    · have Hb := Lib.hid (show decide ((sp.headD (0, 0)).1 < (s.low : Int)) = true from decide_eq_true (by rw [show (sp.headD (0, 0)).1 = x from Hlo.out]; exact hlow))
      have Hr := Lib.hid (Ak.look_low (a := ⟨some ⟨sb, so, none⟩, c, B, d, sp, mk, tr, xo, od⟩) (s := s) HM.out (by rw [Hlo.out]; exact hlow))
      refine wp_region_qt (by kernel_rfl) (by kernel_rfl) ?_
      repeat (first | go_big_quiet_step ((first | (go_at_call 98; exact Qt.callN (ledR_low _ F b s H2.out.dn)) | (go_at_call 97; exact Qt.callN (below_any _ _ c sp _ _ true Hb.out P2.out.r.rs.dn P2.out.r.us l1 HW.out)))) | quiet_step ((first | (go_at_call 98; exact Qt.callN (ledR_low _ F b s H2.out.dn)) | (go_at_call 97; exact Qt.callN (below_any _ _ c sp _ _ true Hb.out P2.out.r.rs.dn P2.out.r.us l1 HW.out)))))
      refine wpQuiet_nil ?_
      intro w3 q3
      go_wp2
      go_ret2
      rw [Hr.out]
      exact ⟨rfl, P2.out.bel.trans q3.below⟩
    · have Hb := Lib.hid (show decide ((sp.headD (0, 0)).1 < (s.low : Int)) = false from decide_eq_false (by rw [show (sp.headD (0, 0)).1 = x from Hlo.out]; exact hlow))
      have Hr := Lib.hid (Ak.look_go (a := ⟨some ⟨sb, so, none⟩, c, B, d, sp, mk, tr, xo, od⟩) (s := s) HM.out (by rw [Hlo.out]; exact hlow))
      refine wp_region_qt (by kernel_rfl) (by kernel_rfl) ?_
      repeat (first | go_big_quiet_step ((first | (go_at_call 98; exact Qt.callN (ledR_low _ F b s H2.out.dn)) | (go_at_call 97; exact Qt.callN (below_any _ _ c sp _ _ false Hb.out P2.out.r.rs.dn P2.out.r.us l1 HW.out)))) | quiet_step ((first | (go_at_call 98; exact Qt.callN (ledR_low _ F b s H2.out.dn)) | (go_at_call 97; exact Qt.callN (below_any _ _ c sp _ _ false Hb.out P2.out.r.rs.dn P2.out.r.us l1 HW.out)))))
      refine wpQuiet_nil ?_
      intro w3 q3
      have P3 := Lib.hid (P2.out.below q3.below)
      have H3 := Lib.hid (H2.out.below q3.below)
      clear q3 P2 H2 t0 t1 t2 t3 t4 x0 y0
      have HKL := Lib.hid s.kept_len
      have HK2 : Hid (s.low = s.all.length - s.ring) := rfl
      have st : Hid (LookRelR w F b s ⟨some ⟨sb, so, none⟩, c, B, d, sp, mk, tr, xo, od⟩ g 0 (Ak.look ⟨some ⟨sb, so, none⟩, c, B, d, sp, mk, tr, xo, od⟩ s) w3) := ⟨P3.out, H3.out, by rw [Hr.out]; simp⟩
      clear P3 H3
      go_wp2_with fail
      refine (ledR_low w3 F b s st.out.led).mono ?_
      rintro e w4 ⟨rfl, q⟩
      have st4 : Hid (LookRelR w F b s ⟨some ⟨sb, so, none⟩, c, B, d, sp, mk, tr, xo, od⟩ g 0 (Ak.look ⟨some ⟨sb, so, none⟩, c, B, d, sp, mk, tr, xo, od⟩ s) w4) := st.out.below q.below
      clear q st
      go_wp2
      go_loopw [6] (fun i wr => ∃ (k j : Nat), k ≤ s.kept.length ∧ Hid (j = s.low + k) ∧ j ≤ s.all.length ∧ i = .int .i64 j ∧ Hid (LookRelR w F b s ⟨some ⟨sb, so, none⟩, c, B, d, sp, mk, tr, xo, od⟩ g k (Ak.look ⟨some ⟨sb, so, none⟩, c, B, d, sp, mk, tr, xo, od⟩ s) wr)) (fun i _ => s.all.length - (intOf i).toNat)
      case atStart => exact ⟨0, s.low, Nat.zero_le _, rfl, k1, rfl, st4⟩
      case round =>
        obtain ⟨k, j, hk, HJ, hj, rfl, HF⟩ := hrel
        have t0 := cell_of_row wr g 0 _ _ _ HF.out.p.t
        have t1 := cell_of_row wr g 1 _ _ _ HF.out.p.t
        have t2 := cell_of_row wr g 2 _ _ _ HF.out.p.t
        have t3 := cell_of_row wr g 3 _ _ _ HF.out.p.t
        have t4 := cell_of_row wr g 4 _ _ _ HF.out.p.t
        simp only [Ak.cells] at t0 t1 t2 t3 t4
        have gl := lt_of_block HF.out.p.t
        obtain ⟨A5, c5, Hb5, r0, r1, r2, ho, -⟩ := HF.out.led.cells
        have R5 := Lib.hid (Rd.of_own ho)
        clear ho
        by_cases hlt : k < s.kept.length
        · have hlt2 : j < s.all.length := by have := HJ.out; have := HKL.out; have := HK2.out; omega
          obtain ⟨bb, off, rfl, d0, d1, d2, d3, d4, d5, d6, d7⟩ := R5.out.snt hlt2
          have ek : s.kept[k] = s.all[j] := by
            rw [s.kept_get hlt]
            congr 1
            have := HJ.out
            omega
          have HJ2 : Hid (j + 1 = s.low + (k + 1)) := by show _ = _; have := HJ.out; omega
          have okx := HK.out s.kept[k] (List.getElem_mem _)
          rw [ek] at okx
          obtain ⟨p0, p1⟩ := okx.pn
          obtain ⟨n0, n1⟩ := okx.nonce
          have Hno := Lib.hid (fun h => Ak.look1_no (a := ⟨some ⟨sb, so, none⟩, c, B, d, sp, mk, tr, xo, od⟩) hlt h)
          have Hyes := Lib.hid (fun h => Ak.look1_yes (a := ⟨some ⟨sb, so, none⟩, c, B, d, sp, mk, tr, xo, od⟩) hlt h)
          rw [ek] at Hno Hyes
          have adv : Hid (∀ wr', Below wr.heap.size wr wr' → Ak.named ⟨some ⟨sb, so, none⟩, c, B, d, sp, mk, tr, xo, od⟩ s.all[j] = false → LookRelR w F b s ⟨some ⟨sb, so, none⟩, c, B, d, sp, mk, tr, xo, od⟩ g (k + 1) (Ak.look ⟨some ⟨sb, so, none⟩, c, B, d, sp, mk, tr, xo, od⟩ s) wr') := fun wr' hb hc =>
            ⟨HF.out.p.below hb, HF.out.led.below hb, by rw [HF.out.res, Hno.out hc]⟩
          clear okx ek
          generalize s.all[j] = x at *
          by_cases e1 : x.state = 4
          · have HN := Lib.hid (named_no1 ⟨some ⟨sb, so, none⟩, c, B, d, sp, mk, tr, xo, od⟩ x e1)
            go_wp2
            go_roundw
            case rel => exact ⟨k + 1, j + 1, hlt, HJ2, hlt2, by go_num, adv.out _ (box_below _ _) HN.out⟩
            case measure => simp [intOf]; omega
          · have e1' : (x.state != 4) = true := by simp [e1]
            cases hu : x.used with
            | true =>
              have HN := Lib.hid (named_no2 ⟨some ⟨sb, so, none⟩, c, B, d, sp, mk, tr, xo, od⟩ x hu)
              rw [hu] at d6
              go_wp2
              go_roundw
              case rel => exact ⟨k + 1, j + 1, hlt, HJ2, hlt2, by go_num, adv.out _ (box_below _ _) HN.out⟩
              case measure => simp [intOf]; omega
            | false =>
              rw [hu] at d6
              by_cases e3 : x.nonce = tr
              · have HN := Lib.hid (named_has ⟨some ⟨sb, so, none⟩, c, B, d, sp, mk, tr, xo, od⟩ x e1 hu e3)
                have hbx := box_below wr (.cells #[.int .u64 x.pn, .int .u64 x.off, .int .u64 x.len, .int .u64 tr, .int .u64 x.at_, .bool x.coin, .bool false, .int .i64 x.state] 66)
                have BX := Lib.hid (heap_alloc_new wr (.cells #[.int .u64 x.pn, .int .u64 x.off, .int .u64 x.len, .int .u64 tr, .int .u64 x.at_, .bool x.coin, .bool false, .int .i64 x.state] 66))
                have HB := Lib.hid hbx
                rw [e3] at d3 n0 n1
                clear hbx e3
                go_wp2_with fail
                refine (hasNum_any (some ⟨sb, so, none⟩) _ c sp x.pn _ (HF.out.p.r.below HB.out).rs (HF.out.p.r.us) p0 p1).mono ?_
                cases hh : hasP sp x.pn with
                | true =>
                  have HH := Lib.hid (HN.out.trans hh)
                  rintro e w5 ⟨rfl, q⟩
                  have BX5 := Lib.hid (q.blk BX.out)
                  have hb5 := HB.out.trans (q.below (B := wr.heap.size))
                  clear q t0 t1 t2 t3 t4
                  have y0 := cell_of_row w5 wr.heap.size 0 _ _ _ BX5.out
                  have y1 := cell_of_row w5 wr.heap.size 1 _ _ _ BX5.out
                  have y2 := cell_of_row w5 wr.heap.size 2 _ _ _ BX5.out
                  have y3 := cell_of_row w5 wr.heap.size 3 _ _ _ BX5.out
                  have y4 := cell_of_row w5 wr.heap.size 4 _ _ _ BX5.out
                  have y5 := cell_of_row w5 wr.heap.size 5 _ _ _ BX5.out
                  have y6 := cell_of_row w5 wr.heap.size 6 _ _ _ BX5.out
                  have y7 := cell_of_row w5 wr.heap.size 7 _ _ _ BX5.out
                  go_wp2
                  go_ret2
                  rw [HF.out.res, Hyes.out HH.out]
                  exact ⟨rfl, HF.out.p.bel.trans (hb5.mono HF.out.p.bel.size)⟩
                | false =>
                  have HH := Lib.hid (HN.out.trans hh)
                  rintro e w5 ⟨rfl, q⟩
                  have hb5 := HB.out.trans (q.below (B := wr.heap.size))
                  clear q t0 t1 t2 t3 t4
                  go_wp2
                  go_roundw
                  case rel => exact ⟨k + 1, j + 1, hlt, HJ2, hlt2, by go_num, adv.out _ hb5 HH.out⟩
                  case measure => simp [intOf]; omega
              · have HN := Lib.hid (named_no3 ⟨some ⟨sb, so, none⟩, c, B, d, sp, mk, tr, xo, od⟩ x e3)
                go_wp2
                go_roundw
                case rel => exact ⟨k + 1, j + 1, hlt, HJ2, hlt2, by go_num, adv.out _ (box_below _ _) HN.out⟩
                case measure => simp [intOf]; omega
        · obtain rfl : k = s.kept.length := by omega
          obtain rfl : j = s.all.length := by have := HJ.out; have := HKL.out; have := HK2.out; omega
          go_wp2
          go_ret2
          rw [HF.out.res, Ak.look1_end]
          exact ⟨rfl, HF.out.p.bel⟩
  · have hmay' : mayB sp mk = false := by simpa using hmay
    have Hr := Lib.hid (Ak.look_may (a := ⟨A, c, B, d, sp, mk, tr, xo, od⟩) (s := s) hmay')
    rw [show mayB (Ak.mk A c B d sp mk tr xo od).sp (Ak.mk A c B d sp mk tr xo od).mm = false from hmay']
    rintro e w2 ⟨rfl, q⟩
    have hb := P0.out.bel.trans (q.mono P0.out.bel.size)
    clear q P0 hmay hmay'
    go_wp2
    go_ret2
    rw [Hr.out]
    exact ⟨rfl, hb⟩

end Go.Proofs.YtpfmhkkglaghgaaGreat

namespace Go.Proofs.YtpfmhkkglaghgaaGreat
set_option linter.unusedSimpArgs false
set_option linter.unusedVariables false
set_option linter.unnecessarySimpa false
open Go.RowKit

theorem Ak.look1_spec (a : Ak) (l : List Snt) : (a.look1 l = (0, 3) ∧ ∀ x ∈ l, a.named x = false) ∨
    ∃ i, ∃ h : i < l.length, a.named l[i] = true ∧ (∀ j, (hj : j < i) → a.named (l[j]'(Nat.lt_trans hj h)) = false) ∧ a.look1 l = (l[i].pn, 0) := by
  induction l with
  | nil => exact .inl ⟨rfl, fun x hx => by cases hx⟩
  | cons x r ih =>
    by_cases hx : a.named x = true
    · exact .inr ⟨0, by simp, hx, fun j hj => absurd hj (by omega), by simp [Ak.look1, hx]⟩
    · rcases ih with ⟨h1, h2⟩ | ⟨i, h, h1, h2, h3⟩
      · refine .inl ⟨by simp [Ak.look1, hx, h1], fun y hy => ?_⟩
        rcases List.mem_cons.1 hy with rfl | hy
        · simpa using hx
        · exact h2 y hy
      · refine .inr ⟨i + 1, by simpa using h, by simpa using h1, fun j hj => ?_, by simp [Ak.look1, hx, h3]⟩
        cases j with
        | zero => simpa using hx
        | succ j => simpa using h2 j (by omega)

theorem Ak.look_cases (a : Ak) (s : LS) : (a.look s).2 = 0 ∨ ((a.look s).1 = 0 ∧ ((a.look s).2 = 1 ∧ mayB a.sp a.mm = false ∨ (a.look s).2 = 2 ∧ a.lo < s.low ∨ (a.look s).2 = 3)) := by
  unfold Ak.look
  split
  · rename_i h; exact .inr ⟨rfl, .inl ⟨rfl, h⟩⟩
  · split
    · rename_i h; exact .inr ⟨rfl, .inr (.inl ⟨rfl, h⟩)⟩
    · rcases a.look1_spec s.kept with ⟨h1, -⟩ | ⟨i, h, h1, h2, h3⟩
      · rw [h1]; exact .inr ⟨rfl, .inr (.inr rfl)⟩
      · rw [h3]; exact .inl rfl

theorem Ak.look_low_ne (a : Ak) {s : LS} (h : (a.look s).2 = 0) : ¬ a.lo < s.low := by
  unfold Ak.look at h
  split at h
  · cases h
  · split at h
    · cases h
    · assumption

/-- What is named is there. -/
theorem Ak.look_there (a : Ak) {s : LS} (g : s.Good) (h : (a.look s).2 = 0) :
    s.has (a.look s).1 ∧ a.named (s.at' (a.look s).1) = true ∧ ∀ x ∈ s.kept, x.pn < (a.look s).1 → a.named x = false := by
  unfold Ak.look at h ⊢
  split at h
  · cases h
  · rename_i h1
    split at h
    · cases h
    · rename_i h2
      rw [if_neg h1, if_neg h2]
      rcases a.look1_spec s.kept with ⟨h3, -⟩ | ⟨i, hi, h3, h4, h5⟩
      · rw [h3] at h; cases h
      · rw [h5]
        have e := g.keptPn hi
        have hl : s.low + i < s.all.length := by simp [LS.kept] at hi; omega
        have hh : s.has s.kept[i].pn := by rw [e]; exact ⟨by omega, by omega⟩
        refine ⟨hh, ?_, fun x hx hlt => ?_⟩
        · rw [LS.at'_eq hh]
          have : s.kept[i].pn.toNat = s.low + i := by omega
          rw [LS.kept_get] at h3
          simpa only [this] using h3
        · obtain ⟨j, hj, rfl⟩ := List.mem_iff_getElem.1 hx
          have := g.keptPn hj
          exact h4 j (by omega)

theorem Ak.named_parts {a : Ak} {x : Snt} (h : a.named x = true) : x.state ≠ 4 ∧ x.used = false ∧ x.nonce = a.tr ∧ hasP a.sp x.pn = true := by
  simp [Ak.named] at h
  exact ⟨h.1.1.1, h.1.1.2, h.1.2, h.2⟩
theorem Ak.look_mayUse (a : Ak) {s : LS} (g : s.Good) (h : (a.look s).2 = 0) : s.mayUse (a.look s).1 := by
  obtain ⟨h1, h2, -⟩ := a.look_there g h
  obtain ⟨h3, h4, -⟩ := a.named_parts h2
  exact ⟨h1, h3, h4⟩

/-- No number below q is named. -/
def Ak.none (a : Ak) (s : LS) (q : Int) : Prop := ∀ x ∈ s.kept, x.pn < q → a.named x = false
structure Ak.Once (a : Ak) (s0 s : LS) (k : Nat) (q : Int) : Prop where
  len : s.all.length = s0.all.length
  ring : s.ring = s0.ring
  lo : (s.low : Int) + k ≤ q
  hi : q ≤ s.all.length
  no : a.none s q
  low : 0 < k → ¬ a.lo < s.low
theorem Ak.Once.zero (a : Ak) {s : LS} (g : s.Good) : a.Once s s 0 s.low := by
  refine ⟨rfl, rfl, by simp, by have := s.low_le; omega, fun x hx h => ?_, fun h => absurd h (by omega)⟩
  obtain ⟨j, hj, rfl⟩ := List.mem_iff_getElem.1 hx
  have := g.keptPn hj
  omega
theorem Ak.Once.step {a : Ak} {s0 s : LS} {k : Nat} {q : Int} (o : a.Once s0 s k q) (g : s.Good) (h : (a.look s).2 = 0) :
    q ≤ (a.look s).1 ∧ (s.use (a.look s).1).2 = true ∧ a.Once s0 (s.use (a.look s).1).1 (k + 1) ((a.look s).1 + 1) := by
  obtain ⟨h1, h2, h3⟩ := a.look_there g h
  have hm := a.look_mayUse g h
  have hlow := a.look_low_ne h
  generalize (a.look s).1 = p at *
  obtain ⟨b1, b2, b3⟩ := LS.has_lt h1
  obtain ⟨hk, e⟩ := s.kept_at h1
  have hq : q ≤ p := by
    apply Int.not_lt.1
    intro hlt
    have := o.no _ (List.getElem_mem hk) (by rw [e, (g.at' h1).2.1]; exact hlt)
    rw [e, h2] at this
    cases this
  have ol := o.lo
  unfold LS.use
  rw [if_pos hm]
  refine ⟨hq, rfl, ?_⟩
  have el : (s.put p { s.at' p with used := true }).low = s.low := by simp [LS.put, LS.low]
  have en : (s.put p { s.at' p with used := true }).all.length = s.all.length := by simp [LS.put]
  refine ⟨en.trans o.len, o.ring, ?_, ?_, ?_, fun _ => ?_⟩
  · show (((s.put p { s.at' p with used := true }).low : Int)) + ((k + 1 : Nat) : Int) ≤ p + 1
    rw [el]; push_cast; omega
  · show p + 1 ≤ ((s.put p { s.at' p with used := true }).all.length : Int)
    rw [en]; omega
  · intro x hx hlt
    rw [LS.put_kept s h1] at hx
    obtain ⟨j, hj, rfl⟩ := List.mem_iff_getElem.1 hx
    rw [List.getElem_set] at hlt ⊢
    simp only [List.length_set] at hj
    split
    · simp [Ak.named]
    · rename_i hne
      rw [if_neg hne] at hlt
      have := g.keptPn hj
      exact h3 _ (List.getElem_mem hj) (by omega)
  · show ¬ a.lo < ((s.put p { s.at' p with used := true }).low : Int)
    rw [el]; exact hlow
theorem Ak.Once.few {a : Ak} {s0 s : LS} {k : Nat} {q : Int} (o : a.Once s0 s k q) : k ≤ s0.ring := by
  have h1 := o.lo
  have h2 := o.hi
  have h3 := o.ring
  have h4 : s.low = s.all.length - s.ring := rfl
  omega

/-- No nonce, no name. -/
theorem Ak.look_none (a : Ak) (s : LS) (h : ∀ x ∈ s.kept, a.named x = false) : (a.look s).1 = 0 ∧ (a.look s).2 ≠ 0 := by
  rcases a.look_cases s with h0 | ⟨h1, h2⟩
  · exfalso
    unfold Ak.look at h0
    split at h0
    · cases h0
    · split at h0
      · cases h0
      · rcases a.look1_spec s.kept with ⟨h3, -⟩ | ⟨i, hi, h3, h4, h5⟩
        · rw [h3] at h0; cases h0
        · rw [h _ (List.getElem_mem hi)] at h3; cases h3
  · exact ⟨h1, by rcases h2 with h2 | h2 | h2 <;> omega⟩
theorem named_tr {a : Ak} {x : Snt} (h : ¬ (x.nonce = a.tr ∧ x.used = false ∧ x.state ≠ 4)) : a.named x = false := by
  cases hn : a.named x with
  | false => rfl
  | true => obtain ⟨h1, h2, h3, -⟩ := a.named_parts hn; exact absurd ⟨h3, h2, h1⟩ h
theorem Ak.look_u64 (a : Ak) {s : LS} (g : s.Good) : isU64 (a.look s).1 := by
  rcases a.look_cases s with h0 | ⟨h1, -⟩
  · obtain ⟨h1, -⟩ := a.look_there g h0
    have := (LS.has_lt h1).1
    have := g.len
    have := g.lim1
    have h2 := h1.2
    have h3 := h1.1
    constructor <;> omega
  · rw [h1]; constructor <;> omega

end Go.Proofs.YtpfmhkkglaghgaaGreat

namespace Go.Proofs.YtpfmhkkglaghgaaGreat
set_option linter.unusedSimpArgs false
set_option linter.unusedVariables false
set_option linter.unnecessarySimpa false
open Go.RowKit

theorem Ak.look1_congr {a b : Ak} (h1 : a.sp = b.sp) (h3 : a.tr = b.tr) (l : List Snt) : a.look1 l = b.look1 l := by
  induction l with
  | nil => rfl
  | cons x r ih => simp [Ak.look1, Ak.named, h1, h3, ih]
theorem Ak.look_congr {a b : Ak} (h1 : a.sp = b.sp) (h2 : a.mm = b.mm) (h3 : a.tr = b.tr) (s : LS) : a.look s = b.look s := by
  simp [Ak.look, Ak.lo, h1, h2, Ak.look1_congr h1 h3]

end Go.Proofs.YtpfmhkkglaghgaaGreat

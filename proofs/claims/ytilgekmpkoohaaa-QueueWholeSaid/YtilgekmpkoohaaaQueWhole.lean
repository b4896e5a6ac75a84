/-
  The walk of QueueWhole.
-/
import Derived.Test.YtilgekmpkoohaaaQueA
import Derived.Test.YtilgekmpkoohaaaQueL
import Derived.Deep.DeepCutAuto
namespace Go.Proofs.Ytilgekmpkoohaaa
set_option linter.unusedSimpArgs false
set_option linter.unusedVariables false
set_option linter.unnecessarySimpa false
open Go.RowKit

theorem qtS {P : Program} {f : FuncId} {args : Array Value} {w : World} {v : Value} (h : Calls P f args w fun e w' => e = .returned v ∧ w = w') : Calls P f args w fun e w' => e = .returned v ∧ Qt w w' :=
  h.mono fun _ _ ⟨a, b⟩ => ⟨a, b ▸ Qt.refl _⟩
namespace QS
theorem owed_at {s : QS} (g : s.Good) (hf : s.Few) {sp : Sp} (h : sp ∈ rowB s.ow) {n : Int} (h1 : sp.1 ≤ n) (h2 : n ≤ sp.2) : ∃ i : Nat, n = i ∧ i < s.fresh ∧ s.base ≤ i ∧ s.ak.getD i false = false ∧ i < s.ak.length := by
  obtain ⟨-, k2, -⟩ := rowB_spec s.ow (by rw [g.lo]; exact hf)
  obtain ⟨i, i1, i2, i3⟩ := (k2 n).1 ⟨sp, h, h1, h2⟩
  obtain ⟨o1, o2⟩ := g.ob i i3
  refine ⟨i, i2, o1, ?_, o2, by have := g.fr; have := g.la; omega⟩
  rcases Nat.lt_or_ge i s.base with h | h
  · rw [below_base g h] at o2; cases o2
  · exact h
theorem none_all {s : QS} (g : s.Good) (hf : s.Few) {most : Int} (h0 : 1 ≤ most) (h : s.nOk most = false) : (rowB s.ow).length = 0 ∧ s.fresh = s.b.length :=
  ⟨none_owed g hf (none_next g h0 h).1, (none_next g h0 h).2⟩
theorem some_all {s : QS} (g : s.Good) (hf : s.Few) {most : Int} (h : s.nOk most = true) :
    1 ≤ (s.nBody most).length ∧ ((s.nBody most).length : Int) ≤ most ∧ s.nOff most + (s.nBody most).length ≤ s.b.length ∧ s.nBody most = (s.b.drop (s.nOff most)).take (s.nBody most).length ∧
    (∀ h0 : 0 < (rowB s.ow).length, (rowB s.ow)[0].1 = s.nOff most ∧ (s.nOff most : Int) + (s.nBody most).length - 1 ≤ (rowB s.ow)[0].2) ∧ ((rowB s.ow).length = 0 → s.nOff most = s.fresh) := by
  obtain ⟨n1, n2, n3, n4⟩ := next_sent g h
  obtain ⟨e1, e2⟩ := some_next h
  have hb : s.nBody most = (s.b.drop (s.nOff most)).take (s.nBody most).length := by
    unfold nBody nOff
    cases hn : s.next most with
    | none => simp
    | some v =>
      obtain ⟨a, z⟩ := v
      simp only
      rw [List.length_take]
      rcases Nat.le_total (z - a) (s.b.drop a).length with hz | hz
      · rw [Nat.min_eq_left hz]
      · rw [Nat.min_eq_right hz, List.take_of_length_le hz, List.take_of_length_le (Nat.le_refl _)]
  refine ⟨by have := n1.1; omega, n4, n3, hb, fun h0 => ?_, fun h0 => ?_⟩
  · obtain ⟨w1, w2, w3, w4⟩ := next_owed g hf h0
    have ee : s.ends = (firstOf s.ow, runTo s.ow (firstOf s.ow)) := by unfold ends; rw [if_neg (by omega)]
    rw [e1, ee]
    refine ⟨w1, ?_⟩
    have hl : (s.nBody most).length ≤ runTo s.ow (firstOf s.ow) - firstOf s.ow := by
      unfold nBody
      rw [next_eq, if_neg (by omega), ee]
      simp only
      rw [if_neg (by omega)]
      simp only [List.length_take]
      omega
    simp only
    omega
  · rw [e1]
    have := next_none g hf h0
    unfold ends
    rw [if_pos this]
end QS

/-- Where the walk stands: a queue of each kind, and a box with both. -/
structure WQ (w : World) (p r g : Nat) (s : QS) (v : World) : Prop where
  two : TwoQ v (fun j => w.heap.size ≤ j ∧ j ≠ g) p r s
  t : v.heap[g]? = some (.cells #[.pointer (some ⟨p, 0, none⟩), .pointer (some ⟨r, 0, none⟩)] 26 (0, 0))
  bel : Below w.heap.size w v
theorem WQ.below {w v v' : World} {p r g : Nat} {s : QS} (h : WQ w p r g s v) (b : Below v.heap.size v v') : WQ w p r g s v' :=
  ⟨h.two.below QP.stays QR.stays b, (b.block _ (lt_of_block h.t)).trans h.t, h.bel.trans (b.mono h.bel.size)⟩
theorem WQ.p {w v : World} {p r g : Nat} {s : QS} (h : WQ w p r g s v) : ∃ F, QueP v F p s := by
  obtain ⟨G, H, hp, -⟩ := h.two
  exact ⟨G, hp.p⟩
theorem WQ.r {w v : World} {p r g : Nat} {s : QS} (h : WQ w p r g s v) : ∃ F, QuRP v F r s := by
  obtain ⟨G, H, hp, -⟩ := h.two
  exact ⟨H, hp.r⟩

set_option maxHeartbeats 8000000 in
set_option maxRecDepth 100000 in
theorem queueWhole_any (room most : Int) (A : Option Addr) (n c : Nat) (l : List Dd) (w : World) (hr : Rd w 3 A n c (Ds l)) (hok : ∀ d ∈ l, d.ok) (hroom : 0 ≤ room ∧ room ≤ 255) (hmost : 0 ≤ most ∧ most ≤ 255) :
    Calls Try.prog 4 #[.int .u8 room, .slice A n c, .int .u8 most] w fun e w' => e = .returned (.bool true) ∧ Below w.heap.size w w' := by
  obtain ⟨r0, r1⟩ := hroom
  obtain ⟨m0, m1⟩ := hmost
  have hmm : most < 9223372036854775808 := by omega
  have M := Lib.hid (makeQ room A n c l w hr hok)
  clear hr hok
  go_enter Try.func4, Try.ntmps4
  go_wp2_with fail
  refine M.out.mono ?_
  rintro e w1 ⟨p, r, s, rfl, hT, hb1, -, hlen⟩
  have eb := box_below w1 (.cells #[.pointer (some ⟨p, 0, none⟩), .pointer (some ⟨r, 0, none⟩)] 26)
  have S1 : Hid (WQ w p r w1.heap.size s (w1.alloc (.cells #[.pointer (some ⟨p, 0, none⟩), .pointer (some ⟨r, 0, none⟩)] 26))) :=
    ⟨(hT.sub (fun j hj h => ⟨h, by omega⟩)).below QP.stays QR.stays eb, heap_alloc_new w1 _, hb1.trans (eb.mono hb1.size)⟩
  clear hT eb hb1 M
  go_wp2_with fail
  generalize hW : (w1.alloc (.cells #[.pointer (some ⟨p, 0, none⟩), .pointer (some ⟨r, 0, none⟩)] 26)) = w2 at *
  clear hW
  generalize w1.heap.size = g at *
  refine (queAlive w2).mono ?_
  rintro e w3 ⟨rfl, b⟩
  have S3 := Lib.hid (S1.out.below b)
  clear b S1
  obtain ⟨F, hF⟩ := S3.out.p
  have GD := Lib.hid hF.good
  have FW := Lib.hid hF.few
  have t0 := cell_of_row w3 g 0 _ _ _ S3.out.t
  have t1 := cell_of_row w3 g 1 _ _ _ S3.out.t
  have C1 := Lib.hid (que_owed w3 F p s hF)
  clear hF
  go_wp2_with fail
  refine C1.out.mono ?_
  rintro e w4 ⟨A4, c4, rfl, hr4, hb4⟩
  have S4 := Lib.hid (S3.out.below hb4)
  have R4 := Lib.hid hr4.rd
  have hcl := hr4.rd.cap
  have hml := hr4.rd.max
  unfold maxLen at hml
  have GU := Lib.hid (rowB_u2 (l := s.ow) (by rw [GD.out.lo]; exact FW.out))
  clear hr4 hb4 C1 S3 t0 t1
  generalize hLL : rowB s.ow = L at *
  have HLL := Lib.hid hLL
  have IsGd : Hid (∀ s ∈ L, IsSpan s) := by show _; rw [← hLL]; exact (rowB_spec s.ow (by rw [GD.out.lo]; exact FW.out)).1.1
  clear hLL
  go_wp2_with fail
  go_loopw [34] (fun i wr => ∃ k : Nat, k ≤ L.length ∧ i = .int .i64 k ∧ Hid (Below w4.heap.size w4 wr)) (fun i _ => L.length - (intOf i).toNat)
  case atStart => exact ⟨0, Nat.zero_le _, rfl, Lib.hid (Below.refl _ _)⟩
  case round =>
    obtain ⟨k, hk, rfl, BK⟩ := hrel
    have SK := Lib.hid (S4.out.below BK.out)
    have RK := Lib.hid (R4.out.below BK.out)
    by_cases hlt : k < L.length
    · obtain ⟨bb, off, x, y, rfl, HE, d0, d1, x0, x1, y0, y1⟩ := RK.out.sp GU.out hlt
      have hmem : (x, y) ∈ L := by rw [← HE.out]; exact List.getElem_mem hlt
      have hsp : x ≤ y := (IsGd.out (x, y) hmem).1
      have OW : Hid (∀ n : Int, x ≤ n → n ≤ y → ∃ i : Nat, n = i ∧ i < s.fresh ∧ s.base ≤ i ∧ s.ak.getD i false = false ∧ i < s.ak.length) := fun n h1 h2 => QS.owed_at (sp := (x, y)) GD.out FW.out (by rw [HLL.out]; exact hmem) h1 h2
      have hy6 : y ≤ 1000000 := by
        obtain ⟨i, h1, h2, -⟩ := OW.out y hsp (Int.le_refl _)
        have := GD.out.fr
        have : s.b.length ≤ 1000000 := FW.out
        omega
      clear hmem HE
      go_upto_region 8 with fail
      have e5 := box_below wr (.cells #[.int .u64 x, .int .u64 y] 36)
      have X5 := Lib.hid (heap_alloc_new wr (.cells #[.int .u64 x, .int .u64 y] 36))
      have S5 := Lib.hid (SK.out.below e5)
      have B5 := Lib.hid (BK.out.trans (e5.mono BK.out.size))
      generalize hW : wr.alloc (.cells #[.int .u64 x, .int .u64 y] 36) = w5 at *
      clear hW e5 d0 d1
      generalize wr.heap.size = g5 at *
      have d0 := cell_of_row w5 g5 0 _ _ _ X5.out
      have d1 := cell_of_row w5 g5 1 _ _ _ X5.out
      have t0 := cell_of_row w5 g 0 _ _ _ S5.out.t
      have t1 := cell_of_row w5 g 1 _ _ _ S5.out.t
      go_wp2_with fail
      go_loopw [12] (fun i wx => ∃ z : Int, x ≤ z ∧ z ≤ y + 1 ∧ i = .int .u64 z ∧ w5 = wx) (fun i _ => (y + 1 - intOf i).toNat)
      case atStart => exact ⟨x, Int.le_refl _, by omega, rfl, by first | rfl | trivial⟩
      case round =>
        obtain ⟨z, z0, z1, rfl, rfl⟩ := hrel
        by_cases hz : z ≤ y
        · obtain ⟨i, rfl, i1, i2, i3, i4⟩ := OW.out z z0 hz
          obtain ⟨F, hF⟩ := S5.out.p
          have HF := Lib.hid hF
          clear hF
          obtain ⟨G, hG⟩ := S5.out.r
          obtain ⟨RA, Rc, RA1, Rc1, RA2, Rc2, hRC⟩ := hG.ex
          have hRt := hRC.t
          obtain ⟨bk, ok, rfl, dk⟩ := (Rd.of_own hRC.o1).bool i4
          rw [i3] at dk
          have u0 := cell_of_row w5 r 0 _ _ _ hRt
          have u1 := cell_of_row w5 r 1 _ _ _ hRt
          have u2 := cell_of_row w5 r 2 _ _ _ hRt
          have u3 := cell_of_row w5 r 3 _ _ _ hRt
          have u4 := cell_of_row w5 r 4 _ _ _ hRt
          clear hG hRC hRt
          have ia : (0 : Int) ≤ i := by omega
          have ib : (i : Int) < s.ak.length := by omega
          have wi : IntKind.i64.wrap (i : Int) = (i : Int) := IntWalk.i64_in _ (by omega)
          have g1 : decide ((s.fresh : Int) ≤ (i : Int)) = false := decide_eq_false (by omega)
          have g2 : decide ((i : Int) < (s.base : Int)) = false := decide_eq_false (by omega)
          go_wp2_with fail
          refine (que_fresh _ F p s HF.out).mono ?_
          rintro e v1 ⟨rfl, rfl⟩
          go_wp2_with fail
          refine (que_base _ F p s HF.out).mono ?_
          rintro e v1 ⟨rfl, rfl⟩
          go_wp2
          go_roundw
          case rel => exact ⟨(i : Int) + 1, by omega, by omega, by first | rfl | go_num, by first | rfl | trivial⟩
          case measure => simp [intOf]; omega
        · go_wp2
          go_roundw
          case rel => exact ⟨k + 1, by omega, by go_num, B5⟩
          case measure => simp [intOf]; omega
    · obtain rfl : k = L.length := by omega
      obtain ⟨F, hF⟩ := SK.out.p
      have HF := Lib.hid hF
      clear hF
      have t0 := cell_of_row wr g 0 _ _ _ SK.out.t
      have t1 := cell_of_row wr g 1 _ _ _ SK.out.t
      go_wp2_with fail
      refine (que_next wr F p s most HF.out hmm).mono ?_
      rintro e w6 ⟨hv, hb6⟩
      obtain ⟨A6, c6, rfl, hr6, -⟩ := hv.open_
      have hc6 := hr6.cap
      have hm6 := hr6.max
      unfold maxLen at hm6
      have e7 := box_below w6 (.cells #[.int .u64 (s.nOff most), .slice A6 (s.nBody most).length c6] 43)
      have hb7 := hb6.trans (e7.mono hb6.size)
      have S7 := Lib.hid (SK.out.below hb7)
      have R7 := Lib.hid (RK.out.below hb7)
      have F7 := Lib.hid (HF.out.below hb7)
      have Q7 := Lib.hid (hr6.below e7)
      have X7 := Lib.hid (heap_alloc_new w6 (.cells #[.int .u64 (s.nOff most), .slice A6 (s.nBody most).length c6] 43))
      clear hv hb6 hr6 hb7 e7 SK RK HF BK t0 t1
      go_upto_region 15 with fail
      generalize hW : w6.alloc (.cells #[.int .u64 (s.nOff most), .slice A6 (s.nBody most).length c6] 43) = w7 at *
      clear hW
      generalize w6.heap.size = g7 at *
      have t0 := cell_of_row w7 g 0 _ _ _ S7.out.t
      have t1 := cell_of_row w7 g 1 _ _ _ S7.out.t
      cases hok : s.nOk most with
      | false =>
        by_cases h0 : most = 0
        · subst h0
          go_wp2_with fail
          refine wp_region_qt (by kernel_rfl) (by kernel_rfl) ?_
          repeat (go_big_quiet_step (fail))
          refine wpQuiet_nil ?_
          intro w8 q8
          go_wp2
          go_ret
          exact ⟨rfl, S7.out.bel.trans q8.below⟩
        · obtain ⟨e1, e2⟩ := QS.none_all GD.out FW.out (by omega) hok
          rw [HLL.out] at e1
          have h0' : (most == 0) = false := by simp; exact h0
          have KF := Lib.hid (fun k => qtS (que_fresh (w7.drewN k) F p s F7.out.dn))
          have KE := Lib.hid (fun k => que_end (w7.drewN k) F p s F7.out.dn)
          rw [e2] at KF
          have e1' : ((L.length : Int) == 0) = true := by simp; exact List.eq_nil_of_length_eq_zero e1
          clear e1 e2 hok
          go_wp2_with fail
          refine wp_region_qt (by kernel_rfl) (by kernel_rfl) ?_
          repeat (first | go_big_quiet_step ((first | (go_at_call 12; exact Qt.callN (KF.out _)) | (go_at_call 15; exact Qt.callN (KE.out _)))) | quiet_step ((first | (go_at_call 12; exact Qt.callN (KF.out _)) | (go_at_call 15; exact Qt.callN (KE.out _)))))
          refine wpQuiet_nil ?_
          intro w8 q8
          go_wp2
          go_ret
          exact ⟨rfl, S7.out.bel.trans q8.below⟩
      | true =>
        obtain ⟨v1, v2, v3, v4, v5, v6⟩ := QS.some_all GD.out FW.out hok
        rw [HLL.out] at v6
        have hv5 : Hid (∀ h0 : 0 < L.length, L[0].1 = s.nOff most ∧ (s.nOff most : Int) + (s.nBody most).length - 1 ≤ L[0].2) := by
          have h5 := v5
          simp only [HLL.out] at h5
          exact h5
        have HV4 := Lib.hid v4
        have hb12 : s.b.length ≤ 1200 := hlen
        have KF := Lib.hid (fun W (h : QueP W F p s) => qtS (que_fresh W F p s h))
        have KE := Lib.hid (fun W (h : QueP W F p s) => que_end W F p s h)
        have z0 := cell_of_row w7 g7 0 _ _ _ X7.out
        have z1 := cell_of_row w7 g7 1 _ _ _ X7.out
        obtain ⟨G, hG⟩ := S7.out.r
        obtain ⟨RA, Rc, RA1, Rc1, RA2, Rc2, hRC⟩ := hG.ex
        have RT := Lib.hid hRC.t
        have RO := Lib.hid (Rd.of_own hRC.o)
        clear hRC hG v4 v5 hok
        generalize s.nOff most = off at *
        generalize s.nBody most = body at *
        obtain ⟨iB, hiB, bz0, bz1, bz2⟩ := info_parts infoByte
        obtain ⟨AB, hrunB, hcutB⟩ := piece_run (P := Try.prog) (t := 38) Try.underlying38 hiB bz1 RA s.b.length Rc off (off + body.length) (by omega) (by omega) RO.out.cap
        have RB := Lib.hid (hcutB w7 _ RO.out)
        clear hcutB
        have hx : ((U8 s.b).drop (off * 1)).take ((off + body.length - off) * 1) = U8 body := by
          rw [HV4.out]
          simp [U8, List.map_drop, List.map_take]
        rw [hx] at RB
        have hsub : off + body.length - off = body.length := by omega
        rw [hsub] at RB hrunB
        have RBH := Lib.hid RB.out
        clear hx hsub RB
        have hcast : ((off + body.length : Nat) : Int) = (off : Int) + (body.length : Int) := by omega
        rw [hcast] at hrunB
        clear hcast
        have wn : IntKind.u64.wrap (body.length : Int) = (body.length : Int) := IntWalk.u64_in _ (by omega)
        have ws : IntKind.u64.wrap ((off : Int) + (body.length : Int)) = (off : Int) + (body.length : Int) := IntWalk.u64_in _ (by omega)
        have ws1 : IntKind.u64.wrap ((off : Int) + (body.length : Int) - 1) = (off : Int) + (body.length : Int) - 1 := IntWalk.u64_in _ (by omega)
        have wi : IntKind.i64.wrap ((off : Int) + (body.length : Int)) = (off : Int) + (body.length : Int) := IntWalk.i64_in _ (by omega)
        have wo : IntKind.i64.wrap (off : Int) = (off : Int) := IntWalk.i64_in _ (by omega)
        have wm : IntKind.u64.wrap most = most := IntWalk.u64_in _ (by omega)
        go_upto_if 136 with fail
        go_cut [15, 136] (fun s15 s136 wx => s15 = .int .u64 body.length ∧ s136 = .bool false ∧ Hid (Qt w7 wx))
        case first =>
          by_cases hL : L.length = 0
          · have e1 : decide ((0 : Int) < (L.length : Int)) = false := by rw [hL]; rfl
            have e2 : ((L.length : Int) == 0) = true := by rw [hL]; rfl
            have e1n : decide (0 < L.length) = false := by rw [hL]; rfl
            have e3 := v6 hL
            rw [← e3] at KF
            have e4 : ((off : Int) != (off : Int)) = false := by simp
            clear e3 hL v6
            go_wp2_with fail
            refine wp_region_qt (by kernel_rfl) (by kernel_rfl) ?_
            repeat (first | go_big_quiet_step ((go_at_call 12; exact Qt.callN (KF.out _ F7.out.dn))) | quiet_step ((go_at_call 12; exact Qt.callN (KF.out _ F7.out.dn))))
            refine wpQuiet_nil ?_
            intro w8 q8
            go_wp2
            go_meet
            exact ⟨rfl, rfl, q8⟩
          · have h0 : 0 < L.length := by omega
            obtain ⟨bb, o4, x, y, rfl, HE, d0, d1, x0, x1, y0, y1⟩ := R7.out.sp GU.out h0
            obtain ⟨g1, g2⟩ := hv5.out h0
            rw [HE.out] at g1 g2
            simp only at g1 g2
            subst g1
            have e1 : decide ((0 : Int) < (L.length : Int)) = true := decide_eq_true (by omega)
            have e1n : decide (0 < L.length) = true := decide_eq_true (by omega)
            have e2 : ((L.length : Int) == 0) = false := by simp; exact List.ne_nil_of_length_pos h0
            have h0i : (0 : Int) < (L.length : Int) := by omega
            have e4 : ((off : Int) != (off : Int)) = false := by simp
            have e5 : decide (y < (off : Int) + (body.length : Int) - 1) = false := decide_eq_false (by omega)
            simp only [Nat.zero_mul, Nat.add_zero] at d0 d1
            have i1 : (0 : Int) < (L.length : Int) := by omega
            clear HE g2 v6 hL hv5 R7 R4 GU IsGd HLL
            generalize L.length = nL at *
            go_wp2_with fail
            refine wp_region_qt (by kernel_rfl) (by kernel_rfl) ?_
            repeat (go_big_quiet_step (fail))
            refine wpQuiet_nil ?_
            intro w8 q8
            go_wp2
            go_meet
            exact ⟨rfl, rfl, q8⟩
        case rest =>
          obtain ⟨rfl, rfl, q8⟩ := hcut
          have b8 : Below w7.heap.size w7 wc := q8.out.below
          have S9 := Lib.hid (S7.out.below b8)
          have F9 := Lib.hid (F7.out.below b8)
          have Q9 := Lib.hid (Q7.out.below b8)
          have RB9 := Lib.hid (RBH.out.below b8)
          have RT9 := Lib.hid ((b8.block _ (lt_of_block RT.out)).trans RT.out)
          have X9 := Lib.hid ((b8.block _ (lt_of_block X7.out)).trans X7.out)
          clear b8 q8 t0 t1 z0 z1
          have e1 : decide ((1 : Int) ≤ (body.length : Int)) = true := decide_eq_true (by omega)
          have e2 : decide ((body.length : Int) ≤ most) = true := decide_eq_true (by omega)
          have e3 : decide ((off : Int) + (body.length : Int) ≤ (s.b.length : Int)) = true := decide_eq_true (by omega)
          have cv1 : ∀ k, (convert 38 9 (.slice A6 body.length c6)).run Try.prog (wc.drewN k) = .ok (.string (strOfNums body)) (wc.drewN k) := fun k => conv_row Try.underlying38 Try.underlying5 Try.underlying9 Q9.out.dn
          have cv2 : ∀ k, (convert 38 9 (.slice AB body.length (Rc - off))).run Try.prog (wc.drewN k) = .ok (.string (strOfNums body)) (wc.drewN k) := fun k => conv_row Try.underlying38 Try.underlying5 Try.underlying9 RB9.out.dn
          have u0 := cell_of_row wc r 0 _ _ _ RT9.out
          have u1 := cell_of_row wc r 1 _ _ _ RT9.out
          have u2 := cell_of_row wc r 2 _ _ _ RT9.out
          have u3 := cell_of_row wc r 3 _ _ _ RT9.out
          have u4 := cell_of_row wc r 4 _ _ _ RT9.out
          have t0 := cell_of_row wc g 0 _ _ _ S9.out.t
          have t1 := cell_of_row wc g 1 _ _ _ S9.out.t
          have z0 := cell_of_row wc g7 0 _ _ _ X9.out
          have z1 := cell_of_row wc g7 1 _ _ _ X9.out
          go_wp2_with fail
          refine wp_region_qt (by kernel_rfl) (by kernel_rfl) ?_
          repeat (first | go_big_quiet_step ((go_at_call 15; exact Qt.callN (KE.out _ F9.out.dn))) | quiet_step ((go_at_call 15; exact Qt.callN (KE.out _ F9.out.dn))))
          refine wpQuiet_nil ?_
          intro w8 q9
          go_wp2
          go_ret
          exact ⟨rfl, S9.out.bel.trans q9.below⟩

end Go.Proofs.Ytilgekmpkoohaaa

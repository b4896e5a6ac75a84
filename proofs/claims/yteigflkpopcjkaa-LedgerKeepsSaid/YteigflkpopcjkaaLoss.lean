/-
  Walks of loss.Find and of the reference's.
-/
import Derived.Test.YteigflkpopcjkaaLedA
import Derived.Test.YteigflkpopcjkaaLossP
import Derived.Test.YteigflkpopcjkaaNums
namespace Go.Proofs.Yteigflkpopcjkaa
set_option linter.unusedSimpArgs false
set_option linter.unusedVariables false
set_option linter.unnecessarySimpa false
open Go.RowKit
attribute [local go_sem ↓] run_min_int run_max_int

theorem clk_after (t d : Int) (w : World) (ht : isU64 t) (hd : isU64 d) :
    Calls Try.prog 76 #[.int .u64 t, .int .u64 d] w fun e w' => e = .returned (.int .u64 (sadd t d)) ∧ Qt w w' := by
  go_enter Try.func76, Try.ntmps76
  go_wp2_with fail
  refine (sat_add t d w ht hd).mono ?_
  rintro e w1 ⟨rfl, n, rfl⟩
  go_wp2
  go_ret
  exact ⟨rfl, ⟨n, rfl⟩⟩
theorem clk_since (t d : Int) (w : World) (ht : isU64 t) (hd : isU64 d) :
    Calls Try.prog 74 #[.int .u64 t, .int .u64 d] w fun e w' => e = .returned (.int .u64 (ssub t d)) ∧ Qt w w' := by
  go_enter Try.func74, Try.ntmps74
  go_wp2_with fail
  refine (satSub_any t d (ssub t d) w ht hd rfl).mono ?_
  rintro e w1 ⟨rfl, n, rfl⟩
  go_wp2
  go_ret
  exact ⟨rfl, ⟨n, rfl⟩⟩
theorem clk_first (A : Option Addr) (c : Nat) (x y : Int) (w : World) (h : Rd w 1 A 2 c (Us [x, y])) (hx : isU64 x) (hy : isU64 y) :
    Calls Try.prog 75 #[.slice A 2 c] w fun e w' => e = .returned (.int .u64 (min x y)) ∧ Qt w w' := by
  obtain ⟨x0, x1⟩ := hx
  obtain ⟨y0, y1⟩ := hy
  obtain ⟨b, o, rfl, c0⟩ := h.u64 (k := 0) (by omega)
  obtain ⟨b', o', e, c1⟩ := h.u64 (k := 1) (by omega)
  injection e with e
  injection e with e1 e2 _
  subst e1
  subst e2
  simp at c0 c1
  have HM := Lib.hid (show min (min 18446744073709551615 x) y = min x y by omega)
  have hm : min 18446744073709551615 x = x := by omega
  clear h
  go_enter Try.func75, Try.ntmps75
  go_wp2
  go_loop [3, 8] (fun m i => (i = .int .i64 0 ∧ m = .int .u64 18446744073709551615) ∨ (i = .int .i64 1 ∧ m = .int .u64 x) ∨ (i = .int .i64 2 ∧ m = .int .u64 (min x y))) (fun _ i => 2 - (intOf i).toNat)
  case atStart => exact .inl ⟨rfl, rfl⟩
  case round =>
    rcases hrel with ⟨rfl, rfl⟩ | ⟨rfl, rfl⟩ | ⟨rfl, rfl⟩
    · go_wp2
      go_round
      case rel => exact .inr (.inl ⟨rfl, rfl⟩)
      case measure => simp [intOf]
    · go_wp2
      go_round
      case rel => exact .inr (.inr ⟨rfl, rfl⟩)
      case measure => simp [intOf]
    · go_wp2
      go_ret
      exact ⟨rfl, Qt.refl _⟩
theorem refAdd_any (a b : Int) (w : World) (ha : isU64 a) (hb : isU64 b) :
    Calls Try.prog 77 #[.int .u64 a, .int .u64 b] w fun e w' => e = .returned (.int .u64 (sadd a b)) ∧ Qt w w' := by
  obtain ⟨a0, a1⟩ := ha
  obtain ⟨b0, b1⟩ := hb
  by_cases h : 18446744073709551615 - b < a
  · have HM := Lib.hid (show sadd a b = 18446744073709551615 by unfold sadd; omega)
    go_enter Try.func77, Try.ntmps77
    go_wp2
    go_ret
    exact ⟨ret_int HM.out.symm, Qt.refl _⟩
  · have HM := Lib.hid (show sadd a b = a + b by unfold sadd; omega)
    go_enter Try.func77, Try.ntmps77
    go_wp2
    go_ret
    exact ⟨ret_int HM.out.symm, Qt.refl _⟩

theorem u64_sadd {a b : Int} (ha : isU64 a) (hb : isU64 b) : isU64 (sadd a b) := by
  unfold isU64 sadd at *
  omega
theorem u64_ssub {a b : Int} (ha : isU64 a) (hb : isU64 b) : isU64 (ssub a b) := by
  unfold isU64 ssub at *
  split <;> omega

theorem Rd.lit_at (w : World) (size : Nat) (cs : Array Value) (t : TypeId) (n : Nat) (xs : List Value) (g : Nat) (hg : g = w.heap.size) (hx : cs.toList = xs) (hs : xs.length = n * size) (hn : n ≤ maxLen) :
    Rd (w.alloc (.cells cs t)) size (some ⟨g, 0, none⟩) n n xs := by
  subst hg
  exact Rd.lit w size cs t n xs hx hs hn

/-- What has been found so far. -/
structure Found (w w1 wr : World) (a0 : Option Addr) (n0 c0 : Nat) (l : List Snt) (lg now win : Int) (k : Nat) (v : Value) (m : Int) : Prop where
  row : wr.ownsRow w1.heap.size 25 1 v (Loss.lost lg now win (l.take k)).length (Us (Loss.lost lg now win (l.take k)))
  next : m = Loss.next lg now win (l.take k)
  all : Rd wr 8 a0 n0 c0 (Sns l)
  bel : Below w.heap.size w wr
  ge : w1.heap.size ≤ wr.heap.size

set_option maxHeartbeats 4000000 in
set_option maxRecDepth 100000 in
theorem loss_find (w : World) (F : Nat → Prop) (b : Nat) (s : LS) (lg now win : Int) (h : LedP w F b s) (h1 : isU64 lg) (h2 : isU64 now) (h3 : isU64 win) :
    Calls Try.prog 43 #[.pointer (some ⟨b, 0, none⟩), .int .u64 lg, .int .u64 now, .int .u64 win] w fun e w' => ∃ A n c, e = .returned (.tuple #[.slice A n c, .int .u64 (Loss.next lg now win s.kept)]) ∧
      Rd w' 1 A n c (Us (Loss.lost lg now win s.kept)) ∧ Below w.heap.size w w' := by
  obtain ⟨i0, hi0, hz0, hz1, hz2⟩ := info_parts infoU64
  have g5 := s.kept_le
  have g2 := h.good.ring256
  have HK := Lib.hid h.good.keptOk
  have U1 := Lib.hid h1
  have U2 := Lib.hid h2
  have U3 := Lib.hid h3
  obtain ⟨lg0, lg1⟩ := h1
  obtain ⟨no0, no1⟩ := h2
  obtain ⟨wi0, wi1⟩ := h3
  go_enter Try.func43, Try.ntmps43
  go_wp2_with fail
  refine (led_all w F b s h).mono ?_
  rintro e w1 ⟨A, c, rfl, ho, b1⟩
  have R1 := Rd.of_own ho
  have HA := Lib.hid (R1.lt (by omega))
  have b1s := b1.size
  have st : Hid (Found w w1 w1 A s.kept.length c s.kept lg now win 0 (.slice none 0 0) 18446744073709551615) := ⟨by simpa [Loss.lost, Us] using World.ownsRow_nil _ _ _ _, by simp [Loss.next], R1, b1, Nat.le_refl _⟩
  clear ho h b1 R1
  go_wp2
  go_loopw [10, 11, 17] (fun v m i wr => ∃ (k : Nat) (q : Int) (z : Value), z = v ∧ k ≤ s.kept.length ∧ i = .int .i64 k ∧ m = .int .u64 q ∧ Hid (Found w w1 wr A s.kept.length c s.kept lg now win k z q)) (fun _ _ i _ => s.kept.length - (intOf i).toNat)
  case atStart => exact ⟨0, _, _, rfl, Nat.zero_le _, rfl, rfl, st⟩
  case round =>
    obtain ⟨k, q, z, rfl, hk, rfl, rfl, HF⟩ := hrel
    by_cases hlt : k < s.kept.length
    · obtain ⟨bb, off, rfl, d0, d1, d2, d3, d4, d5, d6, d7⟩ := HF.out.all.snt hlt
      have L1 := Lib.hid (Loss.lost_take lg now win s.kept k hlt)
      have L2 := Lib.hid (Loss.next_take lg now win s.kept k hlt)
      have okx := HK.out s.kept[k] (List.getElem_mem _)
      have UA := Lib.hid okx.at_
      obtain ⟨p0, p1⟩ := okx.pn
      obtain ⟨t0, t1⟩ := okx.at_
      have hlen := Loss.lost_len lg now win (s.kept.take k)
      have hlen2 := List.length_take_le k s.kept
      have hq : isU64 q := by
        have e := HF.out.next
        have a := Loss.next_le lg now win (s.kept.take k)
        have b := Loss.next_nonneg lg now win (s.kept.take k) wi0 (fun x hx => (HK.out x (List.mem_of_mem_take hx)).at_.1)
        unfold isU64
        omega
      have UQ := Lib.hid hq
      have hgs := HF.out.ge
      clear okx hq
      generalize s.kept[k] = x at *
      have adv : Hid (∀ wr', Below wr.heap.size wr wr' → ¬ Loss.cand lg x → Found w w1 wr' (some ⟨bb, off, none⟩) s.kept.length c s.kept lg now win (k + 1) z q) := fun wr' hb hc =>
        ⟨by rw [L1.out, if_neg (fun h => hc h.1), List.append_nil]; exact own_chg HF.out.row (chg_below hb (F := fun _ => False)) (fun _ _ h => h), by rw [L2.out, if_neg (fun h => hc h.1)]; exact HF.out.next, HF.out.all.below hb, HF.out.bel.trans (hb.mono HF.out.bel.size), Nat.le_trans hgs hb.size⟩
      by_cases e1 : x.pn < lg
      · by_cases e2 : x.state = 1
        · have hc : Loss.cand lg x := ⟨e2, e1⟩
          have Hx := Lib.hid hc
          clear hc adv
          have e2' : (x.state != 1) = false := by simp [e2]
          have RW : Hid (∀ W, Below wr.heap.size wr W → W.ownsRow w1.heap.size 25 1 z (Loss.lost lg now win (s.kept.take k)).length (Us (Loss.lost lg now win (s.kept.take k)))) := fun W hb => own_chg HF.out.row (chg_below hb (F := fun _ => False)) (fun _ _ h => h)
          have ADV : Hid (∀ W v5 w5, Below wr.heap.size wr W → Loss.gone lg now win x → w5.ownsRow w1.heap.size 25 1 v5 ((Loss.lost lg now win (s.kept.take k)).length + 1) (Us (Loss.lost lg now win (s.kept.take k)) ++ [.int .u64 x.pn]) → W.grownBy w5 z.ownBlock →
              Found w w1 w5 (some ⟨bb, off, none⟩) s.kept.length c s.kept lg now win (k + 1) v5 q) := fun W v5 w5 hb hg ho hgr => by
            have hW := HF.out.all.below hb
            refine ⟨?_, ?_, hW.grown hgr (fun b' off' e hn e' => ?_), Below.grownOwn (HF.out.bel.trans (hb.mono HF.out.bel.size)) (RW.out W hb) b1s (Nat.le_trans HF.out.bel.size hb.size) hgr, Nat.le_trans (Nat.le_trans hgs hb.size) hgr.size⟩
            · rw [L1.out, if_pos ⟨Hx.out, hg⟩]
              simpa [Us] using ho
            · rw [L2.out, if_neg (fun h => h.2 hg)]
              exact HF.out.next
            · injection e with e
              injection e with e1 e2 _
              subst e1
              have := (HF.out.row.lt _ e').1
              have := HA.out (by omega) _ _ rfl
              omega
          have hlq : (Loss.lost lg now win (s.kept.take k)).length ≤ 256 := by omega
          by_cases e3 : 3 ≤ lg - x.pn
          · have hx2 : Loss.gone lg now win x := .inl e3
            go_wp2_with (
              at_builtin
              refine wpList_app1 (wr.alloc (.cells #[.int .u64 x.pn, .int .u64 x.off, .int .u64 x.len, .int .u64 x.nonce, .int .u64 x.at_, .bool x.coin, .bool x.used, .int .i64 1] 32)) rfl (.tmp 43) (.tmp 46) 59 rfl w1.heap.size 25 i0 (.int .u64 0) 1 8 Try.underlying59 hi0 hz0 hz1 hz2 rfl (by decide) z _ _ rfl (RW.out _ (box_below _ _)) #[.int .u64 x.pn] _ rfl (by simp) rfl (by simp [Value.oneCell']) (by unfold maxLen; omega) (by omega) (Nat.le_trans hgs (box_below _ _).size) ?_
              intro v5 w5 ho5 hg5 hn5
              have F5 := Lib.hid (ADV.out _ v5 w5 (box_below _ _) hx2 ho5 hg5)
              clear ho5 hg5 hn5)
            go_roundw
            case rel => exact ⟨k + 1, q, _, rfl, by omega, by go_num, rfl, F5⟩
            case measure => simp [intOf]; omega
          · have hd3 : decide ((3 : Int) ≤ lg - x.pn) = false := by simp; omega
            by_cases e4 : win ≤ ssub now x.at_
            · have hx2 : Loss.gone lg now win x := .inr e4
              go_wp2_with fail
              refine (clk_since now x.at_ _ U2.out UA.out).mono ?_
              rintro e w2 ⟨rfl, n2, rfl⟩
              go_wp2_with (
                at_builtin
                refine wpList_app1 ((wr.alloc (.cells #[.int .u64 x.pn, .int .u64 x.off, .int .u64 x.len, .int .u64 x.nonce, .int .u64 x.at_, .bool x.coin, .bool x.used, .int .i64 1] 32)).drewN n2) rfl (.tmp 43) (.tmp 46) 59 rfl w1.heap.size 25 i0 (.int .u64 0) 1 8 Try.underlying59 hi0 hz0 hz1 hz2 rfl (by decide) z _ _ rfl (RW.out _ (below_drewN (box_below _ _) n2)) #[.int .u64 x.pn] _ rfl (by simp) rfl (by simp [Value.oneCell']) (by unfold maxLen; omega) (by omega) (Nat.le_trans hgs (below_drewN (box_below _ _) n2).size) ?_
                intro v5 w5 ho5 hg5 hn5
                have F5 := Lib.hid (ADV.out _ v5 w5 (below_drewN (box_below _ _) n2) hx2 ho5 hg5)
                clear ho5 hg5 hn5)
              go_roundw
              case rel => exact ⟨k + 1, q, _, rfl, by omega, by go_num, rfl, F5⟩
              case measure => simp [intOf]; omega
            · have hx2 : ¬ Loss.gone lg now win x := fun h => h.elim e3 e4
              have F5 : Hid (∀ wr', Below wr.heap.size wr wr' → Found w w1 wr' (some ⟨bb, off, none⟩) s.kept.length c s.kept lg now win (k + 1) z (min q (sadd x.at_ win))) := fun wr' hb =>
                ⟨by rw [L1.out, if_neg (fun h => hx2 h.2), List.append_nil]; exact RW.out wr' hb, by rw [L2.out, if_pos ⟨Hx.out, hx2⟩, HF.out.next], HF.out.all.below hb, HF.out.bel.trans (hb.mono HF.out.bel.size), Nat.le_trans hgs hb.size⟩
              go_wp2_with fail
              refine (clk_since now x.at_ _ U2.out UA.out).mono ?_
              rintro e w2 ⟨rfl, n2, rfl⟩
              go_wp2_with fail
              refine (clk_after x.at_ win _ UA.out U3.out).mono ?_
              rintro e w2 ⟨rfl, n3, rfl⟩
              have RL := Lib.hid (Rd.lit_at (wr.alloc (.cells #[.int .u64 x.pn, .int .u64 x.off, .int .u64 x.len, .int .u64 x.nonce, .int .u64 x.at_, .bool x.coin, .bool x.used, .int .i64 1] 32)) 1 #[.int .u64 q, .int .u64 (sadd x.at_ win)] 25 2 (Us [q, sadd x.at_ win]) (wr.heap.size + 1) (by simp) rfl rfl (by unfold maxLen; omega))
              go_wp2_with fail
              refine (clk_first (some ⟨wr.heap.size + 1, 0, none⟩) 2 q (sadd x.at_ win) _ (RL.out.dn) UQ.out (u64_sadd UA.out U3.out)).mono ?_
              rintro e w2 ⟨rfl, n4, rfl⟩
              go_wp2
              go_roundw
              case rel =>
                refine ⟨k + 1, _, _, rfl, by omega, by go_num, rfl, F5.out _ ?_⟩
                repeat (first | exact Below.refl _ _ | (refine Below.alloc ?_ (by first | exact Nat.le_refl _ | omega | (simp; done) | (simp; omega)) _) | (refine below_drewN ?_ _))
              case measure => simp [intOf]; omega
        · have e2' : (x.state != 1) = true := by simp [e2]
          go_wp2
          go_roundw
          case rel => exact ⟨k + 1, q, _, rfl, by omega, by go_num, rfl, adv.out _ (box_below _ _) (fun h => e2 h.1)⟩
          case measure => simp [intOf]; omega
      · go_wp2
        go_roundw
        case rel => exact ⟨k + 1, q, _, rfl, by omega, by go_num, rfl, adv.out _ (box_below _ _) (fun h => e1 h.2)⟩
        case measure => simp [intOf]; omega
    · obtain rfl : k = s.kept.length := by omega
      go_wp2
      go_ret2
      have hr := HF.out.row
      have hn := HF.out.next
      rw [List.take_length] at hr hn
      obtain ⟨A', c', rfl, _⟩ := own_slice hr
      exact ⟨A', _, c', by rw [← hn]; rfl, Rd.of_own hr, HF.out.bel⟩

end Go.Proofs.Yteigflkpopcjkaa

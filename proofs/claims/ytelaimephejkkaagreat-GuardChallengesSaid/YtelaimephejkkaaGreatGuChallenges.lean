/-
  The walk of GuardChallenges.
-/
import Derived.Test.YtelaimephejkkaaGreatGuS
namespace Go.Proofs.YtelaimephejkkaaGreat
set_option linter.unusedSimpArgs false
set_option linter.unusedVariables false
set_option linter.unnecessarySimpa false
open Go.RowKit

/-- The loop's state. -/
structure GcL (w : World) (N : Nat → Prop) (h1 p r b : Nat) (fr ev : Int) (most : Nat) (j : Nat) (now : Int) (n : Nat) (W : World) : Prop where
  st : ∃ s t g, Solo w N h1 p r b s t g W ∧ Ch fr ev most n g.b now
  now0 : 0 ≤ now
  now1 : now ≤ 500 * j
  n1 : n ≤ 4

set_option maxHeartbeats 4000000 in
set_option maxRecDepth 100000 in
theorem guardChallenges_any (ring : Int) (A1 : Option Addr) (n1 c1 : Nat) (l1 : List Dd) (most every : Int) (A4 : Option Addr) (n4 c4 : Nat) (l4 : List Sh) (fr : Int) (w : World) (hr : Rd w 3 A1 n1 c1 (Ds l1)) (hok : ∀ d ∈ l1, d.ok) (hsh : Shots w A4 n4 c4 l4) (hring : 0 ≤ ring ∧ ring ≤ 255) (hmost : 0 ≤ most ∧ most ≤ 255) (hev : 0 ≤ every ∧ every ≤ 65535) (hfr : 0 ≤ fr ∧ fr ≤ 4294967295) :
    Calls Tryz.prog 7 #[.int .u8 ring, .slice A1 n1 c1, .int .u8 most, .int .u16 every, .slice A4 n4 c4, .int .u32 fr] w fun e w' => e = .returned (.bool true) ∧ Below w.heap.size w w' := by
  obtain ⟨r0, r1⟩ := hring
  obtain ⟨m0, m1⟩ := hmost
  obtain ⟨v0, v1⟩ := hev
  obtain ⟨f0, f1⟩ := hfr
  have hct := hsh.count
  subst hct
  have SH := Lib.hid hsh
  have K1 := Lib.hid (make_any (ring % 40) 4611686018427387903 A1 n1 c1 l1 w hr hok ⟨by omega, by omega⟩)
  have hcap := hsh.rd.cap
  have hmax := hsh.rd.max
  unfold maxLen at hmax
  clear hr hok hsh
  have wm : Int.tmod most 5 = most % 5 := by rw [Int.tmod_eq_emod_of_nonneg m0]
  have we : IntKind.u64.wrap every = every := IntWalk.u64_in _ (by omega)
  have wf : IntKind.u64.wrap fr = fr := IntWalk.u64_in _ (by omega)
  go_enter Tryz.func7, Tryz.ntmps7
  go_wp2_with fail
  refine K1.out.mono ?_
  rintro e w1 ⟨p, r, s, rfl, hT, hb1, hg1, hg2, hg3, hg4, hg5⟩
  have e2 := box_below w1 (.cells (P2 p r) 28)
  have T2 := Lib.hid (heap_alloc_new w1 (.cells (P2 p r) 28))
  have TW2 : Hid (Two (w1.alloc (.cells (P2 p r) 28)) (fun j => w.heap.size ≤ j ∧ j < w1.heap.size) p r s) := Lib.hid ((hT.sub fun k hk h => ⟨h, hk⟩).below e2)
  have B2 := Lib.hid (hb1.trans (e2.mono hb1.size))
  have hs1 := hb1.size
  have G3 := Lib.hid hg3
  clear K1 hT hb1 e2 hg1 hg2 hg3 hg4 hg5
  go_upto_region 2 with fail
  have hP2 : w1.alloc (.cells #[.pointer (some ⟨p, 0, none⟩), .pointer (some ⟨r, 0, none⟩)] 28) = w1.alloc (.cells (P2 p r) 28) := rfl
  rw [hP2]
  clear hP2
  have s2 : (w1.alloc (.cells (P2 p r) 28)).heap.size = w1.heap.size + 1 := by simp
  generalize (w1.alloc (.cells (P2 p r) 28)) = w2 at *
  generalize w1.heap.size = h1 at *
  have K3 := Lib.hid (gua_new (most % 5) every w2 ⟨by omega, by omega⟩)
  go_wp2_with fail
  refine K3.out.mono ?_
  rintro e w3 ⟨b, rfl, hGP, hb3⟩
  have hs3 := hb3.size
  obtain ⟨N, S3⟩ : ∃ N : Nat → Prop, Hid (Solo w N h1 p r b s s (GS.new (most % 5) every) w3) := by
    obtain ⟨G, H, hPr, hPs⟩ := TW2.out.below hb3
    have gp : GuaP w3 (fun k => w2.heap.size ≤ k ∧ k < w3.heap.size) (fun _ => False) b (GS.new (most % 5) every) := hGP.sub (F' := fun k => w2.heap.size ≤ k ∧ k < w3.heap.size) (E' := fun _ => False) (fun k hk h => ⟨h, hk⟩) (fun _ _ h => h) (fun k h => h.elim)
    refine ⟨fun k => k < w.heap.size ∨ k = h1 ∨ H k, Lib.hid ⟨⟨G, _, _, hPr.p, gp, fun k hk => ⟨fun h => by have := (hPs k (.inl hk)).1; omega, fun h => h⟩, fun k hk => ?_⟩, ⟨H, hPr.r, fun k hk => ⟨⟨.inr (.inr hk), by have := (hPs k (.inr hk)).1; omega, (hPs k (.inr hk)).1.1⟩, (hPs k (.inr hk)).2⟩⟩, (hb3.block _ (by omega)).trans T2.out, .inr (.inl rfl), fun k hk => ?_, fun k hk => .inl hk, B2.out.trans (hb3.mono (by omega)), hs1, G3.out⟩⟩
    · rcases hk with hk | hk | hk
      · have h2 := hPs k (.inl hk)
        exact ⟨h2.2, fun hn => by rcases hn with hn | hn | hn; omega; omega; exact hPr.dj k hk hn⟩
      · exact ⟨hk.2, fun hn => by rcases hn with hn | hn | hn; omega; omega; (have := (hPs k (.inr hn)).1; omega)⟩
      · exact hk.elim
    · rcases hk with hk | hk | hk
      · omega
      · omega
      · exact (hPs k (.inr hk)).2
  clear K3 hGP hb3 TW2 T2 B2 G3
  go_wp2_with fail
  refine (guardAlive w3).mono ?_
  rintro e w6 ⟨rfl, b6⟩
  have S6 : Hid (Solo w N h1 p r b s s (GS.new (most % 5) every) w6) := Lib.hid (S3.out.below b6)
  clear b6 S3
  by_cases h60 : 60 < l4.length
  · have hd : decide ((60 : Int) < (l4.length : Int)) = true := decide_eq_true (by omega)
    go_wp2_with fail
    refine (guardAlive w6).mono ?_
    rintro e w7 ⟨rfl, b7⟩
    go_wp2
    go_ret
    exact ⟨rfl, S6.out.bel.trans (b7.mono S6.out.bel.size)⟩
  · have hd : decide ((60 : Int) < (l4.length : Int)) = false := decide_eq_false (by omega)
    go_wp2_with fail
    go_loopw [16, 17, 18] (fun nv kv iv wr => ∃ (j : Nat) (now : Int) (n : Nat), j ≤ l4.length ∧ iv = .int .i64 j ∧ nv = .int .u64 now ∧ kv = .int .i64 n ∧ Hid (GcL w N h1 p r b fr every (most % 5).toNat j now n wr)) (fun _ _ i _ => l4.length - (intOf i).toNat)
    case atStart => exact ⟨0, 0, 0, Nat.zero_le _, rfl, rfl, rfl, Lib.hid ⟨⟨s, s, _, S6.out, ⟨rfl, by show (max 0 (min (most % 5) 64)).toNat = _; omega, Int.le_refl _, fun t ht => by simp [GS.new, BS.new] at ht, by simp [GS.new, BS.new], Nat.zero_le _⟩⟩, by omega, by omega, by omega⟩⟩
    case round =>
      obtain ⟨j, now, n, hj, rfl, rfl, rfl, L⟩ := hrel
      obtain ⟨⟨s', t', g', S, C⟩, n0, n1', n2⟩ := L.out
      have S := Lib.hid S
      have C := Lib.hid C
      clear S6 L
      by_cases hlt : j < l4.length
      · obtain ⟨bb, off, eA, hAt, hbl⟩ := SH.out.at_ hlt
        have hok := Lib.hid (SH.out.ok l4[j] (List.getElem_mem hlt))
        have hKl := S.out.bel
        subst eA
        have KAt := Lib.hid (hAt.chg (Z := fun k => w.heap.size ≤ k) ⟨hKl.os, hKl.tape, hKl.output, hKl.size, fun k _ hn => hKl.block k (by omega)⟩ (by omega))
        generalize l4[j] = sh at *
        generalize hoff : off + j * 9 = o9 at *
        have hw := hok.out.w
        have wt : Int.tmod sh.wait 500 = sh.wait % 500 := by rw [Int.tmod_eq_emod_of_nonneg hw.1]
        have ww : IntKind.u64.wrap (sh.wait % 500) = sh.wait % 500 := IntWalk.u64_in _ (by omega)
        have wn : IntKind.u64.wrap (now + sh.wait % 500) = now + sh.wait % 500 := IntWalk.u64_in _ (by omega)
        have y8 := KAt.out.c8
        have hKl2 := hKl.size
        clear hAt hKl
        go_upto_region 10 with fail
        clear y8
        have gK := Lib.hid (GsK.of S.out.t1 KAt.out)
        have KF := Lib.hid (fun (W : World) (q : Below wr.heap.size wr W) => solo_frame S.out sh (hok.out.below S.out.bel) W q)
        have KT := Lib.hid (fun (W : World) (q : Below wr.heap.size wr W) (A : Option Addr) (c : Nat) (f : List Int) hr hb hl => solo_take S.out (now + sh.wait % 500) ⟨by omega, by omega⟩ W q A c f hr hb hl)
        have gB := Lib.hid (fun (W : World) (q : Below wr.heap.size wr W) => (GsK.of ((q.block _ (lt_of_block S.out.t1)).trans S.out.t1) (KAt.out.chg (chg_below q (F := fun _ => False)) (fun h => h)) : GsK h1 p r bb o9 sh W))
        have hl1 := Lib.hid (lt_of_block S.out.t1)
        have hlb := Lib.hid (Nat.lt_of_lt_of_le hbl S.out.bel.size)
        have gC := Lib.hid (fun (vB W : World) (k : GsK h1 p r bb o9 sh vB) (hc : Chg (fun k => wr.heap.size ≤ k) vB W) => k.chg hc (by have := hl1.out; omega) (by have := hlb.out; omega))
        have gT := Lib.hid (fun (W vB : World) (o : GOut) (t : Took w wr W vB (N) p b o) => (gB.out W t.bel).chg t.chg (fun e => e (.inl S.out.n1)) (fun e => e (.inl (S.out.nw _ hbl))))
        go_cut [19, 20] (fun s19 s20 wx => ∃ (hV hA : Nat) (f : List Int) (a : Ak), s19 = .pointer (some ⟨hV, 0, none⟩) ∧ s20 = .pointer (some ⟨hA, 0, none⟩) ∧ Hid (SoEnd w N h1 p r b t' wr (g'.take s' f (now + sh.wait % 500)) hV hA a wx))
        case first =>
          obtain ⟨ke3, ke4, kc0, kc1, kc2, kc3, kc4, kc5, kc6, kc7, kc8⟩ := gK.out
          have hsv : sh.val = .agg #[.int .i64 sh.kind, .slice sh.A sh.b.length sh.c, .int .u16 sh.k.a, .int .u16 sh.k.b, .int .u16 sh.k.c, .int .u16 sh.k.d, .int .u64 sh.x, .bool sh.right, .int .u16 sh.wait] := rfl
          rw [hsv] at KF
          go_region_held3 (fun W => W.cell? ⟨h1, 0, none⟩ = some (.pointer (some ⟨p, 0, none⟩)) ∧ W.cell? ⟨h1, 1, none⟩ = some (.pointer (some ⟨r, 0, none⟩)) ∧
              W.cell? ⟨bb, o9, none⟩ = some (.int .i64 sh.kind) ∧ W.cell? ⟨bb, o9 + 1, none⟩ = some (.slice sh.A sh.b.length sh.c) ∧ W.cell? ⟨bb, o9 + 2, none⟩ = some (.int .u16 sh.k.a) ∧ W.cell? ⟨bb, o9 + 3, none⟩ = some (.int .u16 sh.k.b) ∧ W.cell? ⟨bb, o9 + 4, none⟩ = some (.int .u16 sh.k.c) ∧ W.cell? ⟨bb, o9 + 5, none⟩ = some (.int .u16 sh.k.d) ∧ W.cell? ⟨bb, o9 + 6, none⟩ = some (.int .u64 sh.x) ∧ W.cell? ⟨bb, o9 + 7, none⟩ = some (.bool sh.right) ∧ W.cell? ⟨bb, o9 + 8, none⟩ = some (.int .u16 sh.wait))
            (first
              | ((refine gC.out _ _ (gT.out _ _ _ tB) ?_); (repeat (first | (with_reducible exact Chg.refl _ _) | (with_reducible refine Chg.alloc ?_ _) | (with_reducible refine Chg.drew ?_) | ((with_reducible refine chg_cell ?_ ?_); focus (first | exact Nat.le_refl _ | (simp; done) | exact bA1.size | omega | (simp; omega))))); done)
              | ((refine gB.out _ ?_); (repeat (first | (with_reducible exact Below.refl _ _) | (with_reducible exact bA1) | ((with_reducible refine below_box ?_ ?_); focus (first | exact Nat.le_refl _ | (simp; done) | exact bA1.size | omega | (simp; omega) | (have := bA1.size; simp; omega))) | (with_reducible refine Below.drew ?_))); done))
            (first
              | (go_at_call 14; refine Calls.mono (KF.out _ ?_) ?_; (focus (repeat (first | (with_reducible exact Below.refl _ _) | ((with_reducible refine below_box ?_ ?_); focus (first | exact Nat.le_refl _ | (simp; done) | omega | (simp; omega))) | (with_reducible refine Below.drew ?_)))); rintro e vA ⟨fA, fc, f, rfl, hfR, hfb, hfl, bA, hfA⟩; have bA1 : Below wr.heap.size wr vA := Below.trans (by repeat (first | (with_reducible exact Below.refl _ _) | ((with_reducible refine below_box ?_ ?_); focus (first | exact Nat.le_refl _ | (simp; done) | omega | (simp; omega))) | (with_reducible refine Below.drew ?_))) (bA.mono (by first | exact Nat.le_refl _ | (simp; done) | (simp; omega))); (first | ((with_reducible have zz := zsndD bA); obtain ⟨zz1, zz2⟩ := zz; have lz1 := lt_of_block zz1; have lz2 := lt_of_block zz2) | ((with_reducible have zz1 := zfstD bA); have lz1 := lt_of_block zz1) | ((with_reducible have zz := zsnd bA); obtain ⟨zz1, zz2⟩ := zz; have lz1 := lt_of_block zz1; have lz2 := lt_of_block zz2) | ((with_reducible have zz1 := zfst bA); have lz1 := lt_of_block zz1) | skip))
              | (go_at_call 18; refine Calls.mono (KT.out _ ?_ fA fc f ?_ hfb hfl) ?_; (focus (repeat (first | (with_reducible exact Below.refl _ _) | (with_reducible exact bA1) | ((with_reducible refine below_box ?_ ?_); focus (first | exact Nat.le_refl _ | (simp; done) | (have := bA1.size; omega) | (have := bA1.size; simp; omega))) | (with_reducible refine Below.drew ?_)))); (focus (first | (with_reducible exact hfR) | (with_reducible exact hfR.below (box_below _ _)) | (with_reducible exact hfR.below (below2 _ _ _)))); rintro e vB ⟨a, rfl, ia, hA, tB⟩; have sA1 := bA1.size; have sA2 := bA.size
                  ; (try (have y := tB.old (k := wr.heap.size) (Nat.le_refl _) zz1 (by first | (with_reducible exact Below.refl _ _) | exact box_below _ _ | exact below2 _ _ _); first | (have qV : vB.heap[_]? = some zV := y; have q := zV_cells y; have lv := lt_of_block y; obtain ⟨⟨zv0, zv1, zv2, zv3⟩, yv0, yv1, yv2, yv3⟩ := q) | (have qA : vB.heap[_]? = some zA := y; have q := zA_cells y; have la := lt_of_block y; obtain ⟨⟨za0, za1, za2, za3, za4⟩, ya0, ya1, ya2, ya3, ya4⟩ := q)))
                  ; (try (have y := tB.old (k := wr.heap.size + 1) (Nat.le_succ _) zz2 (by first | (with_reducible exact Below.refl _ _) | exact box_below _ _ | exact below2 _ _ _); first | (have qV : vB.heap[_]? = some zV := y; have q := zV_cells y; have lv := lt_of_block y; obtain ⟨⟨zv0, zv1, zv2, zv3⟩, yv0, yv1, yv2, yv3⟩ := q) | (have qA : vB.heap[_]? = some zA := y; have q := zA_cells y; have la := lt_of_block y; obtain ⟨⟨za0, za1, za2, za3, za4⟩, ya0, ya1, ya2, ya3, ya4⟩ := q)))
                  ; (first | ((with_reducible have yy := tB.snd bA1.size); obtain ⟨y, y'⟩ := yy; first | (have qV : vB.heap[_]? = some zV := y; have q := zV_cells y; have lv := lt_of_block y; obtain ⟨⟨zv0, zv1, zv2, zv3⟩, yv0, yv1, yv2, yv3⟩ := q; have qA : vB.heap[_]? = some zA := y'; have q := zA_cells y'; have la := lt_of_block y'; obtain ⟨⟨za0, za1, za2, za3, za4⟩, ya0, ya1, ya2, ya3, ya4⟩ := q) | (have qA : vB.heap[_]? = some zA := y; have q := zA_cells y; have la := lt_of_block y; obtain ⟨⟨za0, za1, za2, za3, za4⟩, ya0, ya1, ya2, ya3, ya4⟩ := q; have qV : vB.heap[_]? = some zV := y'; have q := zV_cells y'; have lv := lt_of_block y'; obtain ⟨⟨zv0, zv1, zv2, zv3⟩, yv0, yv1, yv2, yv3⟩ := q)) | ((with_reducible have y := tB.fst bA1.size); first | (have qV : vB.heap[_]? = some zV := y; have q := zV_cells y; have lv := lt_of_block y; obtain ⟨⟨zv0, zv1, zv2, zv3⟩, yv0, yv1, yv2, yv3⟩ := q) | (have qA : vB.heap[_]? = some zA := y; have q := zA_cells y; have la := lt_of_block y; obtain ⟨⟨za0, za1, za2, za3, za4⟩, ya0, ya1, ya2, ya3, ya4⟩ := q)) | skip)))
          all_goals
            go_wp2_with fail
            go_meet
            first
              | (with_reducible refine ⟨_, _, f, a, rfl, rfl, Lib.hid (SoEnd.f1 S.out tB ia)⟩)
              | (with_reducible refine ⟨_, _, f, a, rfl, rfl, Lib.hid (SoEnd.f2 S.out tB ia)⟩)
              | ((with_reducible refine ⟨_, _, f, a, rfl, rfl, Lib.hid (SoEnd.f3 S.out tB ia qV ?_ ?_)⟩); (all_goals (first | exact Nat.le_refl _ | (simp; done) | omega | (simp; omega))))
              | ((with_reducible refine ⟨_, _, f, a, rfl, rfl, Lib.hid (SoEnd.f4 S.out tB ia qA ?_ ?_)⟩); (all_goals (first | exact Nat.le_refl _ | (simp; done) | omega | (simp; omega))))
              | ((with_reducible refine ⟨_, _, f, a, rfl, rfl, Lib.hid (SoEnd.f5 S.out tB ia qV ?_ ?_ qA ?_ ?_ ?_)⟩); (all_goals (first | exact Nat.le_refl _ | (simp; done) | omega | (simp; omega))))
              | trace_state
        case rest =>
          obtain ⟨hV, hA, f, a, rfl, rfl, hE⟩ := hcut
          have C2 := Lib.hid (C.out.take (now' := now + sh.wait % 500) (by omega) s' f)
          have hnw0 : 0 ≤ now + sh.wait % 500 := by omega
          have hnw1 : now + sh.wait % 500 ≤ 500 * (j + 1 : Nat) := by omega
          generalize (g'.take s' f (now + sh.wait % 500)) = o at *
          generalize now + sh.wait % 500 = nw at *
          have tv := hE.out.tv
          have y3 := cell_of_row wc hV 3 _ _ _ tv
          clear tv
          cases hch : o.v.ch with
          | false =>
            rw [hch] at y3
            go_wp2
            go_roundw
            case rel => exact ⟨j + 1, nw, n, by omega, by go_num, rfl, rfl, Lib.hid ⟨⟨_, _, _, hE.out.so, by have := C2.out; rw [hch] at this; exact this⟩, by omega, by omega, by omega⟩⟩
            case measure => simp [intOf]; omega
          | true =>
            rw [hch] at y3
            by_cases hge : fr ≤ nw
            · have hsub : IntKind.u64.wrap (nw - fr) = nw - fr := IntWalk.u64_in _ (by omega)
              by_cases hlt2 : nw - fr < every
              · have hw : inWin fr every nw = true := decide_eq_true ⟨hge, hlt2⟩
                have C3 := Lib.hid (show Ch fr every (most % 5).toNat (n + 1) o.g.b nw by have := C2.out; rw [hch, hw] at this; exact this)
                have top := C3.out.top
                go_wp2
                go_roundw
                case rel => exact ⟨j + 1, nw, n + 1, by omega, by go_num, rfl, by go_num, Lib.hid ⟨⟨_, _, _, hE.out.so, C3.out⟩, by omega, by omega, by omega⟩⟩
                case measure => simp [intOf]; omega
              · have hw : inWin fr every nw = false := decide_eq_false fun e => hlt2 e.2
                have C3 := Lib.hid (show Ch fr every (most % 5).toNat n o.g.b nw by have := C2.out; rw [hch, hw] at this; exact this)
                go_wp2
                go_roundw
                case rel => exact ⟨j + 1, nw, n, by omega, by go_num, rfl, rfl, Lib.hid ⟨⟨_, _, _, hE.out.so, C3.out⟩, by omega, by omega, by omega⟩⟩
                case measure => simp [intOf]; omega
            · have hw : inWin fr every nw = false := decide_eq_false fun e => hge e.1
              have C3 := Lib.hid (show Ch fr every (most % 5).toNat n o.g.b nw by have := C2.out; rw [hch, hw] at this; exact this)
              go_wp2
              go_roundw
              case rel => exact ⟨j + 1, nw, n, by omega, by go_num, rfl, rfl, Lib.hid ⟨⟨_, _, _, hE.out.so, C3.out⟩, by omega, by omega, by omega⟩⟩
              case measure => simp [intOf]; omega
      · have top := C.out.top
        have hle : decide ((n : Int) ≤ most % 5) = true := decide_eq_true (by omega)
        go_wp2
        go_ret
        exact ⟨rfl, S.out.bel⟩
end Go.Proofs.YtelaimephejkkaaGreat

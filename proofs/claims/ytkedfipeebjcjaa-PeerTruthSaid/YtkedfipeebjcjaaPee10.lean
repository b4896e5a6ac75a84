/-
  Walks of package peer: Stream. · Walks of package peer: New, Fork.
-/
import Derived.Test.YtkedfipeebjcjaaPee6
import Derived.Test.YtkedfipeebjcjaaSrt
namespace Go.Proofs.Ytkedfipeebjcjaa
open Go.Maps
open Go.Sort (flatK get_flatK HoldsK holdsK_grow holdsK_putRowK)
set_option linter.unusedSimpArgs false
set_option linter.unusedVariables false
set_option linter.unnecessarySimpa false
open Go.RowKit

instance : Inhabited Pc := ⟨⟨0, none, 0, []⟩⟩
def cmpPc (x y : Pc) : Int := if x.off < y.off then -1 else if y.off < x.off then 1 else 0
theorem ltPc (x y : Pc) : ltOf cmpPc x y = decide (x.off < y.off) := by
  unfold ltOf cmpPc
  by_cases h1 : x.off < y.off
  · simp [h1]
  · by_cases h2 : y.off < x.off <;> simp [h1, h2]
theorem swoPc : Go.Sort.SWO (ltOf cmpPc) where
  irrefl x := by rw [ltPc]; simp
  trans x y z h1 h2 := by rw [ltPc] at *; simp at *; omega
  ntrans x y z h1 h2 := by rw [ltPc] at *; simp at *; omega

set_option maxHeartbeats 1000000 in
theorem stream_cmp (x y : Pc) (W : World) : Calls Try.prog 40 #[.agg #[.int .u64 x.off, .slice x.A x.b.length x.c], .agg #[.int .u64 y.off, .slice y.A y.b.length y.c]] W fun e w' => e = .returned (.int .i64 (cmpPc x y)) ∧ ∃ q os', w' = Go.Sort.grow (W.drewN q) os' := by
  have key : ∀ v : Int, Hid (cmpPc x y = v) → (∀ W' : World, W' = (W.alloc (.cells #[.int .u64 x.off, .slice x.A x.b.length x.c] 82)).alloc (.cells #[.int .u64 y.off, .slice y.A y.b.length y.c] 82) → Ending.returned (.int .i64 v) = .returned (.int .i64 (cmpPc x y)) ∧ ∃ q os', W' = Go.Sort.grow (W.drewN q) os') := fun v hv W' hW => by
    rw [hv.out, hW]
    exact ⟨rfl, 0, _, by rw [Go.Sort.alloc_eq_grow, Go.Sort.alloc_eq_grow, Go.Sort.grow_grow]; rfl⟩
  by_cases h1 : x.off < y.off
  · have d1 : decide (x.off < y.off) = true := decide_eq_true h1
    have K := Lib.hid (key (-1) (Lib.hid (if_pos h1)))
    clear key h1
    go_enter Try.func40, Try.ntmps40
    go_wp2
    go_ret
    exact K.out _ rfl
  · have d1 : decide (x.off < y.off) = false := decide_eq_false h1
    by_cases h2 : y.off < x.off
    · have d2 : decide (y.off < x.off) = true := decide_eq_true h2
      have d3 : decide (x.off > y.off) = true := d2
      have K := Lib.hid (key 1 (Lib.hid (by show (if _ then _ else _) = _; rw [if_neg h1, if_pos h2])))
      clear key h1 h2
      go_enter Try.func40, Try.ntmps40
      go_wp2
      go_ret
      exact K.out _ rfl
    · have d2 : decide (y.off < x.off) = false := decide_eq_false h2
      have d3 : decide (x.off > y.off) = false := d2
      have K := Lib.hid (key 0 (Lib.hid (by show (if _ then _ else _) = _; rw [if_neg h1, if_neg h2])))
      clear key h1 h2
      go_enter Try.func40, Try.ntmps40
      go_wp2
      go_ret
      exact K.out _ rfl

theorem pc_flat (l : List Pc) (j : Nat) (h : j < l.length * 2) : (flatK Pc.cells 2 l.toArray)[j]! = ((l.flatMap Pc.cells)[j]?).getD default := by
  rw [get_flatK _ _ _ _ (by simpa using h)]
  have h1 : j / 2 < l.length := by omega
  have h2 : j % 2 < 2 := by omega
  have e : (l.flatMap Pc.cells)[j]? = (Pc.cells l[j / 2])[j % 2]? := by
    have := flat_get Pc.cells 2 (fun _ => rfl) l (j / 2) (j % 2) h1 h2
    rw [← this]
    congr 1
    omega
  rw [e]
  have e2 : l.toArray[j / 2]! = l[j / 2] := by simp [h1]
  rw [e2, List.getElem!_eq_getElem?_getD]
theorem pc_holds {w : World} {g n c : Nat} {l : List Pc} (h : HoldsK Pc.cells 2 w g 0 l.toArray) (hn : l.length = n) (hc : n ≤ c) (hm : c ≤ maxLen) : Rd w 2 (some ⟨g, 0, none⟩) n c (l.flatMap Pc.cells) := by
  have hl := flat_len Pc.cells 2 (fun _ => rfl) l
  refine ⟨by rw [hl, hn], hc, hm, fun _ => ⟨g, 0, rfl, fun j u hu => ?_⟩⟩
  have hj : j < l.length * 2 := by
    rw [← hl]
    exact (List.getElem?_eq_some_iff.1 hu).1
  have := (h j (by simpa using hj)).1
  rw [pc_flat l j hj, hu] at this
  exact this

theorem grow_chg {w : World} {f : Array Value → Array Value} {g n : Nat} {os : Array Obj} : Chg (fun j => j = g) w (Go.Sort.grow (Go.Sort.mapBlock (Go.Sort.ahead w n) g f) os) := by
  refine ⟨rfl, rfl, rfl, ?_, fun k hk hn => ?_⟩
  · show w.heap.size ≤ (w.heap.modify g _ ++ os).size
    simp
  · show (w.heap.modify g _ ++ os)[k]? = w.heap[k]?
    rw [Array.getElem?_append_left (by simpa using hk), Array.getElem?_modify, if_neg (fun e => hn e.symm)]

set_option maxHeartbeats 1000000 in
theorem sort_pc (w : World) (B : Nat) (v : Value) (pl : List Pc) (hlen : pl.length < 4611686018427387904) (h : w.ownsRow B 82 2 v pl.length (pl.flatMap Pc.cells)) :
    Calls Try.prog 39 #[v, .func (.func 40) #[] #[]] w fun e w' => e = .returned (.tuple #[]) ∧ ∃ (pl' : List Pc) (A : Option Addr) (c : Nat), v = .slice A pl.length c ∧ pl'.Perm pl ∧ (pl'.Pairwise fun x y => x.off ≤ y.off) ∧ Rd w' 2 A pl.length c (pl'.flatMap Pc.cells) ∧ Chg (fun j => v.ownBlock = some j) w w' := by
  cases pl with
  | nil =>
    obtain ⟨A, c, rfl, -⟩ := own_slice h
    have hr := Rd.of_own h
    refine (AnyF.slices_SortFunc_none Try.sortPc A c _ w).mono ?_
    rintro e w' ⟨rfl, rfl⟩
    exact ⟨rfl, [], A, c, rfl, List.Perm.refl _, List.Pairwise.nil, hr, Chg.refl _ _⟩
  | cons x r =>
    generalize hL : x :: r = L at *
    have hpos : 0 < L.length := by rw [← hL]; simp
    clear hL
    obtain ⟨A, c, rfl, hA⟩ := own_slice h
    obtain ⟨g, rfl, hg⟩ := hA hpos
    have hr := Rd.of_own h
    have hH : HoldsK Pc.cells 2 w g 0 L.toArray := fun j hj => by
      have hj2 : j < L.length * 2 := by simpa using hj
      refine ⟨?_, ?_⟩
      · rw [pc_flat L j hj2, Nat.zero_add, h.cellAt j hj2]
        have hl := flat_len Pc.cells 2 (fun _ => rfl) L
        rw [List.getElem?_eq_getElem (by omega)]
        rfl
      · rcases h.2 with ⟨e, _⟩ | ⟨g2, cap, cur, e, _, hb, h1, _, h2, _⟩
        · cases e
        · injection e with e e3 e4
          injection e with e
          injection e with e1 e2
          subst e1
          rw [Nat.zero_add]
          exact frozen_of_row w g j _ _ hb
    have hgl : g < w.heap.size := (h.lt g rfl).2
    have eg : ∀ args w, (callFunc 40 args).run Try.prog w = .ok (.enter 40 args) w := enters_of Try.func40 (by kernel_rfl) rfl
    have hcon := AnyQ.slices_SortFunc Try.sortPc 2 Try.isAgg82 Try.sizeOf82 Pc.cells (fun _ => rfl) (fun x v hv => by simp [Pc.cells] at hv; rcases hv with rfl | rfl <;> rfl) cmpPc swoPc 40 #[] g 0 c L.toArray w eg (fun m os dk _ x y => stream_cmp x y _) hH hgl (by show L.length < _; exact hlen)
    refine hcon.mono ?_
    rintro e w' ⟨rfl, d', n, os, hp, hs, rfl⟩
    have hsz : d'.size = L.length := by rw [hp.1]; rfl
    have hpm : d'.toList.Perm L := by
      have := hp.2.2
      rw [show L.toArray.size = d'.size by rw [hsz]; rfl] at this
      rw [Array.extract_size] at this
      have e2 : L.toArray.extract 0 d'.size = L.toArray := by rw [hsz]; exact Array.extract_size (xs := L.toArray)
      rw [e2] at this
      exact this
    refine ⟨rfl, d'.toList, some ⟨g, 0, none⟩, c, rfl, hpm, ?_, ?_, ?_⟩
    · rw [List.pairwise_iff_getElem]
      intro i j hi hj hij
      have hi' : i < d'.size := by simpa using hi
      have hj' : j < d'.size := by simpa using hj
      have := hs i j (Nat.zero_le _) hij (by show j < L.length; omega)
      rw [ltPc] at this
      rw [getElem!_pos d' i hi', getElem!_pos d' j hj'] at this
      have h3 : ¬ d'[j].off < d'[i].off := of_decide_eq_false this
      simp only [Array.getElem_toList]
      omega
    · have h0 : HoldsK Pc.cells 2 (Go.Sort.ahead w n) g 0 L.toArray := hH
      have h1 := holdsK_grow Pc.cells 2 _ os g 0 d' (by show g < (w.heap.modify g _).size; simpa using hgl) (holdsK_putRowK Pc.cells 2 _ g 0 _ d' h0 (by rw [hsz]; rfl))
      exact pc_holds (l := d'.toList) h1 (by rw [Array.length_toList]; exact hsz) hr.cap hr.max
    · exact grow_chg.mono (fun k _ e => by subst e; rfl)

set_option maxHeartbeats 1000000 in
set_option maxRecDepth 100000 in
theorem clone_pc (w : World) (v : Value) (pl : List Pc) (hlen : pl.length ≤ 1000000000) (h : w.ownsRow 0 82 2 v pl.length (pl.flatMap Pc.cells)) :
    Calls Try.prog 38 #[v] w fun e w' => ∃ A c, e = .returned (.slice A pl.length c) ∧ w'.ownsRow w.heap.size 82 2 (.slice A pl.length c) pl.length (pl.flatMap Pc.cells) ∧ Below w.heap.size w w' := by
  obtain ⟨i0, hi0, hz0, hz1, hz2⟩ := info_parts infoPc
  have H := Lib.hid h
  rcases h.2 with ⟨rfl, e2⟩ | ⟨g, cap, cur, rfl, hb, hh, h1, h2, h3, h4⟩
  · have hnil : pl = [] := List.eq_nil_of_length_eq_zero e2
    subst hnil
    clear h e2
    have rn := fun (W : World) => Lib.run_eql_slice_nil (P := Try.prog) W 63 82 none 0 0 0 0 Try.underlying63
    go_enter Try.func38, Try.ntmps38
    go_wp2
    go_ret
    exact ⟨none, 0, rfl, World.ownsRow_nil _ _ _ _, Below.refl _ _⟩
  · have hr := Lib.hid ((Rd.of_own H.out).below (box_below w (.cells #[] 82)))
    have O1 := Lib.hid (World.ownsRow_lit (base := w.heap.size) (e := 82) (size := 2) w #[] 0 (Nat.le_refl _) (by unfold maxLen; omega) (by simp))
    have hsz : (w.alloc (.cells #[] 82)).heap.size = w.heap.size + 1 := by simp
    have HS := Lib.hid hsz
    clear h hb hh h1 h2 h3 h4 hsz
    have rn := fun (W : World) => Lib.run_eql_slice_nil (P := Try.prog) W 63 82 (some ⟨g, 0, none⟩) pl.length cap 0 0 Try.underlying63
    go_enter Try.func38, Try.ntmps38
    go_wp2_with (
      at_builtin
      refine wpList_append_rd _ rfl (.tmp 5) (.tmp 6) 63 rfl w.heap.size 82 i0 _ 2 32 Try.underlying63 hi0 hz0 hz1 hz2 rfl (by decide) (.slice (some ⟨w.heap.size, 0, none⟩) 0 0) 0 [] rfl O1.out (some ⟨g, 0, none⟩) pl.length cap (pl.flatMap Pc.cells) rfl hr.out (fun u hu => by
        obtain ⟨x, _, hx⟩ := List.mem_flatMap.1 hu
        simp [Pc.cells] at hx
        rcases hx with rfl | rfl <;> rfl) (by unfold maxLen; omega) (by omega) (by rw [HS.out]; omega) ?_
      intro v2 w2 hown2 hg2 hloc
      rw [Nat.zero_add, List.nil_append] at hown2
      obtain ⟨A2, cc, hv, hA2⟩ := own_slice hown2
      subst hv
      have HO := Lib.hid hown2
      have hb2 : Hid (Below w.heap.size w w2) := Lib.hid ((box_below w (.cells #[] 82)).grown hg2 (by rw [HS.out]; omega) (fun k hk => by simp [Value.ownBlock] at hk; omega))
      clear hown2 hg2 hloc hA2)
    go_ret
    exact ⟨A2, cc, rfl, HO.out, hb2.out⟩

set_option maxHeartbeats 2000000 in
set_option maxRecDepth 100000 in
theorem peer_stream (w : World) (F M : Nat → Prop) (p : Nat) (s : PS) (h : PeP w F M p s) :
    Calls Try.prog 12 #[.pointer (some ⟨p, 0, none⟩)] w fun e w' => ∃ A c out, e = .returned (.slice A out.length c) ∧ PS.IsStream s.s out ∧ Rd w' 1 A out.length c (U8 out) ∧ Below w.heap.size w w' := by
  obtain ⟨iB, hiB, bz0, bz1, bz2⟩ := info_parts infoByte
  obtain ⟨hv, pl, m, h1, h2⟩ := h.ex
  have hfew := h.few
  have H1 := Lib.hid h1
  have OK := Lib.hid h2
  have t11 := cell_of_row w p 11 _ _ _ h1.t
  have hpl : pl.length ≤ 1000000000 := by have := h2.2.2.2.1; omega
  have CL := Lib.hid (clone_pc w m.v pl hpl H1.out.o)
  clear h h1 h2
  go_enter Try.func12, Try.ntmps12
  go_wp2_with fail
  refine CL.out.mono ?_
  rintro e w1 ⟨A, c, rfl, ho, hb⟩
  have HO := Lib.hid ho
  have HB := Lib.hid hb
  have SO := Lib.hid (sort_pc w1 w.heap.size _ pl (by omega) HO.out)
  clear CL ho hb t11
  go_wp2_with fail
  refine SO.out.mono ?_
  rintro e w2 ⟨rfl, pl', A', c', e1, hpm, hpw, hr, hC⟩
  injection e1 with e1 e2 e3
  subst e1 e3
  have HL := Lib.hid hpm.length_eq
  have B2 : Hid (Below w.heap.size w w2) := Lib.hid (HB.out.trans (hC.below HB.out.size (fun k hk e => by have := (HO.out.lt k e).1; omega)))
  have R2 := Lib.hid hr
  have PMm := Lib.hid hpm
  have PW := Lib.hid hpw
  have BD2 : Hid (∀ x ∈ pl', Rd w2 1 x.A x.b.length x.c (U8 x.b)) := Lib.hid (fun x hx => (H1.out.bd x (hpm.mem_iff.1 hx)).below B2.out)
  have LB : Hid (∀ x ∈ pl', x.b.length ≤ 1500) := Lib.hid (fun x hx => OK.out.2.2.2.2 x (hpm.mem_iff.1 hx))
  clear SO hr hC hpm hpw HO HB e2
  have hlen : pl'.length = pl.length := HL.out
  rw [← hlen] at R2 hpl ⊢
  clear hlen
  go_wp2_with fail
  go_loopw [4, 18] (fun s4 s18 wr => ∃ (k : Nat) (out : List Int), k ≤ pl'.length ∧ s18 = .int .i64 k ∧ Hid (PS.Run s.s (pl'.map Pc.pure) k out) ∧ out.length ≤ 1500 * k ∧ Hid (wr.ownsRow w2.heap.size 5 1 s4 out.length (U8 out)) ∧ Hid (Below w2.heap.size w2 wr)) (fun _ s18 _ => pl'.length - (intOf s18).toNat)
  case atStart => exact ⟨0, [], Nat.zero_le _, rfl, Lib.hid (PS.Run.zero _ _), by simp, Lib.hid (World.ownsRow_nil _ _ _ _), Lib.hid (Below.refl _ _)⟩
  case round =>
    obtain ⟨k, out, hk, rfl, hrun, hol, ho, hb⟩ := hrel
    have FIN : Hid ((∀ h : k < pl'.length, pl'[k].off ≠ out.length) → PS.IsStream s.s out) := Lib.hid (fun hne => by
      refine hrun.out.stop OK.out.1 (fun x => ?_) ?_ ?_ (fun h => ?_)
      · constructor
        · intro hx
          obtain ⟨y, hy, rfl⟩ := List.mem_map.1 hx
          exact List.mem_map.2 ⟨y, PMm.out.mem_iff.1 hy, rfl⟩
        · intro hx
          obtain ⟨y, hy, rfl⟩ := List.mem_map.1 hx
          exact List.mem_map.2 ⟨y, PMm.out.mem_iff.2 hy, rfl⟩
      · rw [List.pairwise_map]
        exact PW.out
      · exact ((PMm.out.map Pc.pure).symm.pairwise_iff (fun {x y} hxy n hn hm => hxy n hm hn)).1 OK.out.1.dis
      · have := hne (by simpa using h)
        simpa [Pc.pure] using this)
    obtain ⟨A4, c4, rfl, hA4⟩ := own_slice ho.out
    have hcap4 := (Rd.of_own ho.out).cap
    by_cases hlt : k < pl'.length
    · obtain ⟨b, off, eA, hcell⟩ := (R2.out.below hb.out).elem (f := Pc.cells) (fun _ => rfl) (by omega) hlt
      subst eA
      have hc0 : wr.cell? ⟨b, off + k * 2, none⟩ = some (.int .u64 pl'[k].off) := hcell 0 _ rfl
      have hc1 : wr.cell? ⟨b, off + k * 2 + 1, none⟩ = some (.slice pl'[k].A pl'[k].b.length pl'[k].c) := hcell 1 _ rfl
      have hcp := R2.out.cap
      have bdk := Lib.hid ((BD2.out _ (List.getElem_mem hlt)).below hb.out)
      have lbk := LB.out _ (List.getElem_mem hlt)
      obtain ⟨x, hx⟩ : ∃ x, x = pl'[k] := ⟨_, rfl⟩
      rw [← hx] at hc0 hc1 bdk lbk
      have HX := Lib.hid hx
      have bx := Lib.hid (box_below wr (.cells #[.int .u64 x.off, .slice x.A x.b.length x.c] 82))
      have own2 := Lib.hid (own_above ho.out bx.out)
      have rdx := Lib.hid (bdk.out.below bx.out)
      have wo : IntKind.u64.wrap (out.length : Int) = out.length := IntWalk.u64_in _ (by omega)
      have hgs : w2.heap.size ≤ (wr.alloc (.cells #[.int .u64 x.off, .slice x.A x.b.length x.c] 82)).heap.size := Nat.le_trans hb.out.size bx.out.size
      clear hx hcell
      by_cases hne : x.off = out.length
      · have n1 : (x.off != (out.length : Int)) = false := by simp [hne]
        have RN : Hid (PS.Run s.s (pl'.map Pc.pure) (k + 1) (out ++ x.b)) := Lib.hid (by
          have := hrun.out.step (k := k) (by simpa using hlt) (by simp [Pc.pure, ← HX.out, hne]) (fun n hn => by
            have hm : (pl'.map Pc.pure)[k]'(by simpa using hlt) ∈ pl.map Pc.pure := by
              rw [List.getElem_map]
              exact List.mem_map.2 ⟨_, PMm.out.mem_iff.1 (List.getElem_mem hlt), rfl⟩
            exact OK.out.1.eq _ hm n hn)
          rw [List.getElem_map, ← HX.out] at this
          exact this)
        clear hne FIN
        go_wp2_with (
          at_builtin
          refine wpList_append_rd _ rfl (.tmp 28) (.tmp 30) 22 rfl w2.heap.size 5 iB _ 1 1 Try.underlying22 hiB bz0 bz1 bz2 rfl (by decide) (.slice A4 out.length c4) out.length (U8 out) rfl own2.out x.A x.b.length x.c (U8 x.b) rfl rdx.out (U8_one _) (by unfold maxLen; omega) (by omega) hgs ?_
          intro v5 w5 ho5 hg5 hv5
          have HO5 := Lib.hid ho5
          have HB5 : Hid (Below w2.heap.size w2 w5) := Lib.hid ((hb.out.trans (bx.out.mono hb.out.size)).grown hg5 (Nat.le_trans hb.out.size bx.out.size) (fun g hg => (ho.out.lt g hg).1))
          clear ho5 hg5 hv5)
        go_roundw
        case rel => exact ⟨k + 1, out ++ x.b, by omega, by go_num, RN, by rw [List.length_append]; omega, Lib.hid (by rw [List.length_append, U8_append]; exact HO5.out), HB5⟩
        case measure => simp [intOf]; omega
      · have n1 : (x.off != (out.length : Int)) = true := by simp [hne]
        have ST := Lib.hid (FIN.out (fun _ => by rw [← HX.out]; exact hne))
        clear hne FIN
        go_wp2
        go_ret
        exact ⟨A4, c4, out, rfl, ST.out, (Rd.of_own ho.out).below bx.out, B2.out.trans ((hb.out.trans (bx.out.mono hb.out.size)).mono B2.out.size)⟩
    · have ST := Lib.hid (FIN.out (fun h => absurd h hlt))
      clear FIN
      go_wp2
      go_ret
      exact ⟨A4, c4, out, rfl, ST.out, Rd.of_own ho.out, B2.out.trans (hb.out.mono B2.out.size)⟩

end Go.Proofs.Ytkedfipeebjcjaa

namespace Go.Proofs.Ytkedfipeebjcjaa
open Go.Maps
set_option linter.unusedSimpArgs false
set_option linter.unusedVariables false
set_option linter.unnecessarySimpa false
open Go.RowKit

theorem new_good (delay : Int) (h : isU64 delay) : (PS.new delay).Good := by
  refine ⟨(fun h hh => by cases hh), List.nodup_nil, ⟨by show (gotL []).length ≤ 32; simp [gotL], by show (markL []).length ≤ 32; simp [markL, gotL]⟩, .inl ⟨rfl, rfl⟩, ?_⟩
  show isU64 delay ∧ isU64 (0 : Int) ∧ isU64 (18446744073709551615 : Int) ∧ (0 : Int) ≤ 0 ∧ (0 : Int) ≤ maxPn ∧ (0 : Int) ≤ 0 ∧ (0 : Int) ≤ maxPn + 1
  rw [maxPn_eq]
  unfold isU64 at h ⊢
  omega
theorem peer_new (delay : Int) (w : World) (h : isU64 delay) :
    Calls Try.prog 8 #[.int .u64 delay] w fun e w' => ∃ p, e = .returned (.pointer (some ⟨p, 0, none⟩)) ∧ PeP w' (fun k => w.heap.size ≤ k) (fun _ => False) p (PS.new delay) ∧ Below w.heap.size w w' := by
  have hmm := @run_makeMap Try.prog
  have HD := Lib.hid h
  clear h
  go_enter Try.func8, Try.ntmps8
  go_wp2
  go_ret
  have b1 : Below w.heap.size w (w.alloc (.map #[] 0)) := box_below w _
  have b2 := box_below (w.alloc (.map #[] 0)) (.cells #[.int .u64 delay, .int .u64 0, .int .u64 0, .int .u64 0, .slice none 0 0, .slice none 0 0, .map (some w.heap.size), .int .i64 0, .int .u64 0, .int .u64 18446744073709551615, .slice none 0 0, .slice none 0 0] 65)
  have n2 := heap_alloc_new (w.alloc (.map #[] 0)) (.cells #[.int .u64 delay, .int .u64 0, .int .u64 0, .int .u64 0, .slice none 0 0, .slice none 0 0, .map (some w.heap.size), .int .i64 0, .int .u64 0, .int .u64 18446744073709551615, .slice none 0 0, .slice none 0 0] 65)
  rw [World.size_alloc] at n2
  have out : ∀ (p : Nat) (m : PM) (A : Option Addr), Outs (fun k => w.heap.size ≤ k) (fun _ => False) p m A 0 := fun p m A b off e hn => absurd hn (by omega)
  refine ⟨_, rfl, ⟨new_good delay HD.out, (fun e => absurd (show (0 : Int) = 1 from e) (by decide)), ⟨Int.le_refl _, by show (0 : Int) ≤ _; omega⟩, by show 0 ≤ 600000; omega, [], [], ⟨none, 0, none, 0, w.heap.size, none, 0, .slice none 0 0⟩, ?_, PS.PcOk.new, (fun s hs => by cases hs), Nat.le_refl _, Nat.le_refl _, (fun x hx => by cases hx)⟩, b1.trans (b2.mono b1.size)⟩
  refine ⟨n2, Rd.nil_ _ _, Rd.nil_ _ _, Rd.nil_ _ _, ⟨.map [], ?_, Kept.nil⟩, World.ownsRow_nil _ _ _ _, (fun x hx => by cases hx), by show w.heap.size ≤ w.heap.size + 1; omega, ⟨Nat.le_refl _, by show w.heap.size ≠ w.heap.size + 1; omega⟩, (fun g hg => by simp [Value.ownBlock] at hg), out _ _ _, out _ _ _, out _ _ _, (fun x hx => by cases hx)⟩
  exact (World.ownsMap_made w Try.prog 26 oneElem).alloc _

/-- Where the walk of Fork stands: the new receiver's cells. -/
structure FkP (w : World) (q : PQ) (m : PM) (W : World) : Prop where
  t : W.heap[w.heap.size]? = some (.cells #[.int .u64 q.delay, .int .u64 q.floor, .int .u64 q.next, .int .u64 q.bytes, .slice m.A1 q.got.length m.c1, .slice m.A2 q.marked.length m.c2, .map (some m.kb), .int .i64 q.waits, .int .u64 q.trigger, .int .u64 q.due, .slice m.A3 q.hv.length m.c3, m.v] 65 (0, 0))
  bel : Below w.heap.size w W
theorem FkP.below {w W W' : World} {q : PQ} {m : PM} (h : FkP w q m W) (b : Below W.heap.size W W') : FkP w q m W' := ⟨(b.block _ (lt_of_block h.t)).trans h.t, h.bel.trans (b.mono h.bel.size)⟩
theorem FkP.put {w W : World} {q : PQ} {m m' : PM} {i : Nat} (v : Value) (h : FkP w q m W) (hc : q.cells m' = (q.cells m).setIfInBounds i v) : FkP w q m' (W.setCell ⟨w.heap.size, i, none⟩ v) := by
  refine ⟨?_, h.bel.setCell (p := ⟨w.heap.size, i, none⟩) (Nat.le_refl _) v⟩
  show _ = some (Obj.cells (q.cells m') _ _)
  rw [hc]
  exact heap_setCell_same W w.heap.size i _ _ v h.t
theorem FkP.chg {w W W' : World} {q : PQ} {m : PM} {G : Nat → Prop} (h : FkP w q m W) (hc : Chg G W W') (h1 : ¬ G w.heap.size) (h2 : ∀ k, G k → w.heap.size ≤ k) : FkP w q m W' := ⟨hc.blk h.t h1, h.bel.trans (hc.below h.bel.size (fun k hk e => by have := h2 k e; omega))⟩

set_option maxHeartbeats 4000000 in
set_option maxRecDepth 100000 in
theorem peer_fork_r (w : World) (F M : Nat → Prop) (p : Nat) (q : PQ) (m : PM) (h : PeR w F M p q m) (lg : q.got.length ≤ 1000000) (lm : q.marked.length ≤ 1000000) (lh : q.hv.length ≤ 1000000) (lp : q.pl.length ≤ 1000000000) (ln : q.n ≤ 1000000) (own : (q.l.map (·.pn)).Nodup) :
    Calls Try.prog 24 #[.pointer (some ⟨p, 0, none⟩)] w fun e w' => e = .returned (.pointer (some ⟨w.heap.size, 0, none⟩)) ∧ (∃ m', PeR w' (fun k => w.heap.size ≤ k) (fun k => (F k ∨ M k) ∧ k < w.heap.size ∧ ¬ (k = p ∨ k = m.kb ∨ m.v.ownBlock = some k)) w.heap.size q m') ∧ Below w.heap.size w w' := by
  obtain ⟨i0, hi0, hz0, hz1, hz2⟩ := info_parts infoSpan
  obtain ⟨iP, hiP, pz0, pz1, pz2⟩ := info_parts infoPc
  have hmm := @run_makeMap Try.prog
  obtain ⟨A1, c1, A2, c2, kb, A3, c3, pv⟩ := m
  obtain ⟨A4, c4, rfl, -⟩ := own_slice h.o
  have H := Lib.hid h
  have hpl := h.lt
  obtain ⟨D0, hk1, hk2⟩ := h.k
  have HK1 := Lib.hid hk1
  have HK2 := Lib.hid hk2
  have hkb := hk1.lt
  have HSZ := Lib.hid hk1.size_le
  have t0 := cell_of_row w p 0 _ _ _ h.t
  have ft0 := frozen_of_row w p 0 _ _ h.t
  have t1 := cell_of_row w p 1 _ _ _ h.t
  have ft1 := frozen_of_row w p 1 _ _ h.t
  have t2 := cell_of_row w p 2 _ _ _ h.t
  have ft2 := frozen_of_row w p 2 _ _ h.t
  have t3 := cell_of_row w p 3 _ _ _ h.t
  have ft3 := frozen_of_row w p 3 _ _ h.t
  have t4 := cell_of_row w p 4 _ _ _ h.t
  have ft4 := frozen_of_row w p 4 _ _ h.t
  have t5 := cell_of_row w p 5 _ _ _ h.t
  have ft5 := frozen_of_row w p 5 _ _ h.t
  have t6 := cell_of_row w p 6 _ _ _ h.t
  have ft6 := frozen_of_row w p 6 _ _ h.t
  have t7 := cell_of_row w p 7 _ _ _ h.t
  have ft7 := frozen_of_row w p 7 _ _ h.t
  have t8 := cell_of_row w p 8 _ _ _ h.t
  have ft8 := frozen_of_row w p 8 _ _ h.t
  have t9 := cell_of_row w p 9 _ _ _ h.t
  have ft9 := frozen_of_row w p 9 _ _ h.t
  have t10 := cell_of_row w p 10 _ _ _ h.t
  have ft10 := frozen_of_row w p 10 _ _ h.t
  have t11 := cell_of_row w p 11 _ _ _ h.t
  have ft11 := frozen_of_row w p 11 _ _ h.t
  have F1 : Hid (FkP w q ⟨A1, c1, A2, c2, kb, A3, c3, .slice A4 q.pl.length c4⟩ (w.alloc (.cells #[.int .u64 q.delay, .int .u64 q.floor, .int .u64 q.next, .int .u64 q.bytes, .slice A1 q.got.length c1, .slice A2 q.marked.length c2, .map (some kb), .int .i64 q.waits, .int .u64 q.trigger, .int .u64 q.due, .slice A3 q.hv.length c3, .slice A4 q.pl.length c4] 65))) := Lib.hid ⟨heap_alloc_new w _, box_below w _⟩
  clear h hk1 hk2
  go_enter Try.func24, Try.ntmps24
  go_upto_region 4 with fail
  generalize (w.alloc (.cells #[.int .u64 q.delay, .int .u64 q.floor, .int .u64 q.next, .int .u64 q.bytes, .slice A1 q.got.length c1, .slice A2 q.marked.length c2, .map (some kb), .int .i64 q.waits, .int .u64 q.trigger, .int .u64 q.due, .slice A3 q.hv.length c3, .slice A4 q.pl.length c4] 65)) = w1 at *
  clear t0 t1 t2 t3 t4 t5 t6 t7 t8 t9 t10 t11 ft0 ft1 ft2 ft3 ft4 ft5 ft6 ft7 ft8 ft9 ft10 ft11
  have KG := Lib.hid (peer_got w1 F M p q _ (H.out.below F1.out.bel) lg)
  go_wp2_with fail
  refine KG.out.mono ?_
  rintro e w2 ⟨Ag, cg, rfl, rg, b2⟩
  have F2 := Lib.hid (F1.out.below b2)
  have RG := Lib.hid rg
  clear KG rg b2
  have KM := Lib.hid (peer_marked w2 F M p q _ (H.out.below F2.out.bel) lm)
  go_wp2_with fail
  refine KM.out.mono ?_
  rintro e w3 ⟨Am, cm, rfl, rm, b3⟩
  have F3 := Lib.hid (F2.out.below b3)
  have RG3 := Lib.hid (RdN.mk (RG.out.rd.below b3) RG.out.nw)
  have RM := Lib.hid rm
  have s12 : Hid (w.heap.size + 1 ≤ w1.heap.size) := Lib.hid (lt_of_block F1.out.t)
  have s23 : Hid (w.heap.size + 1 ≤ w2.heap.size) := Lib.hid (lt_of_block F2.out.t)
  have S34 : Hid (w.heap.size + 1 ≤ w3.heap.size) := Lib.hid (lt_of_block F3.out.t)
  clear KM rm b3 RG
  have F4 : Hid (FkP w q ⟨Ag, cg, Am, cm, kb, A3, c3, .slice A4 q.pl.length c4⟩ ((w3.setCell ⟨w.heap.size, 4, none⟩ (.slice Ag q.got.length cg)).setCell ⟨w.heap.size, 5, none⟩ (.slice Am q.marked.length cm))) := Lib.hid (by
    have h1 : FkP w q ⟨Ag, cg, A2, c2, kb, A3, c3, .slice A4 q.pl.length c4⟩ (w3.setCell ⟨w.heap.size, 4, none⟩ (.slice Ag q.got.length cg)) := F3.out.put _ rfl
    exact h1.put _ rfl)
  have C4 : Hid (Chg (fun j => j = w.heap.size) w3 ((w3.setCell ⟨w.heap.size, 4, none⟩ (.slice Ag q.got.length cg)).setCell ⟨w.heap.size, 5, none⟩ (.slice Am q.marked.length cm))) := Lib.hid (((Chg.refl (fun j => j = w.heap.size) w3).setCell (p := ⟨w.heap.size, 4, none⟩) (.inl rfl) _).setCell (p := ⟨w.heap.size, 5, none⟩) (.inl rfl) _)
  have f3 := F3.out.t
  have u4 := cell_of_row w3 w.heap.size 4 _ _ _ f3
  have u5 := cell_of_row w3 w.heap.size 5 _ _ _ f3
  have fu4 := frozen_of_row w3 w.heap.size 4 _ _ f3
  have fu5 := frozen_of_row w3 w.heap.size 5 _ _ f3
  clear f3
  go_upto_region 5 with fail
  clear u4 u5 fu4 fu5
  have RG4 := Lib.hid (RG3.out.rd.chg C4.out (fun b off e hn hb => by have := RG3.out.nw b off e hn; have := s12.out; omega))
  have RM4 := Lib.hid (RM.out.rd.chg C4.out (fun b off e hn hb => by have := RM.out.nw b off e hn; have := s23.out; omega))
  have S4 : Hid (w3.heap.size ≤ ((w3.setCell ⟨w.heap.size, 4, none⟩ (.slice Ag q.got.length cg)).setCell ⟨w.heap.size, 5, none⟩ (.slice Am q.marked.length cm)).heap.size) := Lib.hid C4.out.size
  have NG : Hid (∀ b off, Ag = some ⟨b, off, none⟩ → 0 < q.got.length → w.heap.size + 1 ≤ b) := Lib.hid (fun b off e hn => by have := RG3.out.nw b off e hn; have := s12.out; omega)
  have NM : Hid (∀ b off, Am = some ⟨b, off, none⟩ → 0 < q.marked.length → w.heap.size + 1 ≤ b) := Lib.hid (fun b off e hn => by have := RM.out.nw b off e hn; have := s23.out; omega)
  have LG : Hid (∀ b off, Ag = some ⟨b, off, none⟩ → 0 < q.got.length → b < ((w3.setCell ⟨w.heap.size, 4, none⟩ (.slice Ag q.got.length cg)).setCell ⟨w.heap.size, 5, none⟩ (.slice Am q.marked.length cm)).heap.size) := Lib.hid (fun b off e hn => RG4.out.lt (by omega) hn b off e)
  have LM : Hid (∀ b off, Am = some ⟨b, off, none⟩ → 0 < q.marked.length → b < ((w3.setCell ⟨w.heap.size, 4, none⟩ (.slice Ag q.got.length cg)).setCell ⟨w.heap.size, 5, none⟩ (.slice Am q.marked.length cm)).heap.size) := Lib.hid (fun b off e hn => RM4.out.lt (by omega) hn b off e)
  clear C4 RG3 RM F1 F2 F3 s12 s23
  generalize ((w3.setCell ⟨w.heap.size, 4, none⟩ (.slice Ag q.got.length cg)).setCell ⟨w.heap.size, 5, none⟩ (.slice Am q.marked.length cm)) = w4 at *
  have e5 := box_below w4 (.map #[] 0)
  have F5 := Lib.hid (F4.out.below e5)
  have K5 := Lib.hid (World.ownsMap_made w4 Try.prog 26 oneElem)
  have hs45 : w.heap.size + 1 ≤ w4.heap.size := Nat.le_trans S34.out S4.out
  have RG5 := Lib.hid (RG4.out.below e5)
  have RM5 := Lib.hid (RM4.out.below e5)
  have f5 := F5.out.t
  have u6 := cell_of_row (w4.alloc (.map #[] 0)) w.heap.size 6 _ _ _ f5
  have fu6 := frozen_of_row (w4.alloc (.map #[] 0)) w.heap.size 6 _ _ f5
  clear e5 f5 F4 RG4 RM4 S34
  go_upto_region 6 with fail
  clear u6 fu6
  have F6 : Hid (FkP w q ⟨Ag, cg, Am, cm, w4.heap.size, A3, c3, .slice A4 q.pl.length c4⟩ ((w4.alloc (.map #[] 0)).setCell ⟨w.heap.size, 6, none⟩ (.map (some w4.heap.size)))) := Lib.hid (F5.out.put _ rfl)
  have C6 : Hid (Chg (fun j => j = w.heap.size) (w4.alloc (.map #[] 0)) ((w4.alloc (.map #[] 0)).setCell ⟨w.heap.size, 6, none⟩ (.map (some w4.heap.size)))) := Lib.hid ((Chg.refl (fun j => j = w.heap.size) _).setCell (p := ⟨w.heap.size, 6, none⟩) (.inl rfl) _)
  have K6 := Lib.hid (map_chg K5.out C6.out (by omega))
  have RG6 := Lib.hid (RG5.out.chg C6.out (fun b off e hn hb => by have := NG.out b off e hn; omega))
  have RM6 := Lib.hid (RM5.out.chg C6.out (fun b off e hn hb => by have := NM.out b off e hn; omega))
  have hs6 : w4.heap.size + 1 ≤ ((w4.alloc (.map #[] 0)).setCell ⟨w.heap.size, 6, none⟩ (.map (some w4.heap.size))).heap.size := by have := C6.out.size; simpa using this
  clear C6 K5 RG5 RM5 F5 S4
  generalize ((w4.alloc (.map #[] 0)).setCell ⟨w.heap.size, 6, none⟩ (.map (some w4.heap.size))) = w6 at *
  generalize w4.heap.size = kn at *
  have H6 := Lib.hid (H.out.below F6.out.bel)
  have HK6 := Lib.hid (map_chg HK1.out (chg_below F6.out.bel (F := fun _ => False)) (fun h => h))
  have t6 := cell_of_row w6 p 6 _ _ _ H6.out.t
  go_wp2_with (first
    | (at_range; refine wpList_range_own _ rfl _ 62 rfl 26 75 law64 Try.underlying62 _ kb q.n _ rfl HK6.out ?_; intro w0 hrg0 hg0 hs0)
    | go_in)
  try go_frame
  clear t6
  have hln : q.n ≤ 1000000 := ln
  go_loopw [4, 5] (fun _ _ wr => ∃ (left : Lit → Bool) (cnt : Nat) (Dout : DataW Unit), wr.ranges Try.prog 26 oneElem kb w6.heap.size q.n D0 left cnt ∧ cnt ≤ Maps.size D0 ∧ Hid (wr.ownsMap Try.prog 26 oneElem kn (Maps.size D0 - cnt) Dout) ∧ Hid (Kept Dout (q.l.filter fun h => !up64 left h.pn)) ∧
      Hid (FkP w q ⟨Ag, cg, Am, cm, kn, A3, c3, .slice A4 q.pl.length c4⟩ wr) ∧ Hid (Chg (fun j => j = kn) w6 wr))
    (fun _ _ wr => wr.rangeLeft kb w6.heap.size)
  case atStart =>
    have hb0 : Below w6.heap.size w6 w0 := (Below.refl _ _).grown hg0 (Nat.le_refl _) (fun g hg => by simp at hg)
    refine ⟨_, _, .map [], hrg0, Nat.le_refl _, Lib.hid ?_, Lib.hid ?_, Lib.hid (F6.out.below hb0), Lib.hid (chg_below hb0)⟩
    · exact (map_chg K6.out (chg_below hb0 (F := fun _ => False)) (fun h => h)).mono (Nat.zero_le _)
    · rw [List.filter_eq_nil_iff.2 (fun h hh => by simp [up64, HK2.out.has hh])]
      exact Kept.nil
  case round =>
    obtain ⟨left, cnt, Dout, hrg, hcs, hout, hkp, hF, hC⟩ := hrel
    go_wp2_with (first
      | (at_next; refine wpList_next_kept _ rfl _ rfl law64 Try.underlying26 kb w6.heap.size q.n _ _ _ _ HK2.out rfl hrg ?_ ?_)
      | go_in)
    · intro hl0
      have HL := Lib.hid hl0
      clear hl0
      have KF : Hid (Kept Dout q.l) := Lib.hid (by
        have := hkp.out
        rw [List.filter_eq_self.2 (fun h _ => by rw [HL.out]; rfl)] at this
        exact this)
      have OF : Hid (wr.ownsMap Try.prog 26 oneElem kn q.n Dout) := Lib.hid (hout.out.mono (by have := HSZ.out; omega))
      have RG7 := Lib.hid (RG6.out.chg hC.out (fun b off e hn hb => by have := LG.out b off e hn; omega))
      have RM7 := Lib.hid (RM6.out.chg hC.out (fun b off e hn hb => by have := LM.out b off e hn; omega))
      have S7 := Lib.hid hC.out.size
      clear hkp hout RG6 RM6 hrg hC
      have H7 := Lib.hid (H.out.below hF.out.bel)
      have t10 := cell_of_row wr p 10 _ _ _ H7.out.t
      have ff := hF.out.t
      have u10 := cell_of_row wr w.heap.size 10 _ _ _ ff
      have fu10 := frozen_of_row wr w.heap.size 10 _ _ ff
      have hgs : w.heap.size + 1 ≤ wr.heap.size := lt_of_block hF.out.t
      have r3 := Lib.hid H7.out.r3
      clear ff
      go_upto_region 11 with (
        at_builtin
        refine wpList_append_rd _ rfl (.const (.slice none 0 0)) (.tmp 36) 46 rfl wr.heap.size 68 i0 _ 2 16 Try.underlying46 hi0 hz0 hz1 hz2 rfl (by decide) (.slice none 0 0) 0 [] rfl (World.ownsRow_nil _ _ _ _) A3 q.hv.length c3 (Ss q.hv) rfl r3.out (Ss_one' _) (by unfold maxLen; omega) (by omega) (Nat.le_refl _) ?_
        intro v8 w8 hown8 hg8 _
        rw [Nat.zero_add, List.nil_append] at hown8
        obtain ⟨A5, c5, hv8, hA5⟩ := own_slice hown8
        subst hv8
        have RH := Lib.hid (RdN.of_own hown8 (Nat.le_refl _))
        have B8 : Hid (Below wr.heap.size wr w8) := Lib.hid ((Below.refl _ _).grown hg8 (Nat.le_refl _) (fun g hg => by simp [Value.ownBlock] at hg))
        have F8 := Lib.hid (hF.out.below B8.out)
        have ff := F8.out.t
        have z10 := cell_of_row w8 w.heap.size 10 _ _ _ ff
        have fz10 := frozen_of_row w8 w.heap.size 10 _ _ ff
        clear ff hown8 hg8 hA5)
      clear t10 u10 fu10 z10 fz10 r3
      have C9 : Hid (Chg (fun j => j = w.heap.size) w8 (w8.setCell ⟨w.heap.size, 10, none⟩ (.slice A5 q.hv.length c5))) := Lib.hid ((Chg.refl (fun j => j = w.heap.size) w8).setCell (p := ⟨w.heap.size, 10, none⟩) (.inl rfl) _)
      have F9 : Hid (FkP w q ⟨Ag, cg, Am, cm, kn, A5, c5, .slice A4 q.pl.length c4⟩ (w8.setCell ⟨w.heap.size, 10, none⟩ (.slice A5 q.hv.length c5))) := Lib.hid (F8.out.put _ rfl)
      have CC9 : Hid (Chg (fun j => j = w.heap.size) wr (w8.setCell ⟨w.heap.size, 10, none⟩ (.slice A5 q.hv.length c5))) := Lib.hid ((chg_below B8.out).step C9.out (fun _ _ e => e))
      have RH9 := Lib.hid (RH.out.rd.chg C9.out (fun b off e hn hb => by have := RH.out.nw b off e hn; omega))
      have NH : Hid (∀ b off, A5 = some ⟨b, off, none⟩ → 0 < q.hv.length → wr.heap.size ≤ b) := Lib.hid RH.out.nw
      clear C9 F8 B8 RH
      generalize (w8.setCell ⟨w.heap.size, 10, none⟩ (.slice A5 q.hv.length c5)) = w9 at *
      have H9 := Lib.hid (H.out.below F9.out.bel)
      have t11 := cell_of_row w9 p 11 _ _ _ H9.out.t
      have hs9 := CC9.out.size
      have LH : Hid (∀ b off, A5 = some ⟨b, off, none⟩ → 0 < q.hv.length → b < w9.heap.size) := Lib.hid (fun b off e hn => RH9.out.lt (by omega) hn b off e)
      have RP := Lib.hid (Rd.of_own H9.out.o)
      have hcp := RP.out.cap
      go_upto_region 12 with (
        at_builtin
        refine wpList_append_rd _ rfl (.const (.slice none 0 0)) (.tmp 42) 63 rfl w9.heap.size 82 iP _ 2 32 Try.underlying63 hiP pz0 pz1 pz2 rfl (by decide) (.slice none 0 0) 0 [] rfl (World.ownsRow_nil _ _ _ _) A4 q.pl.length c4 (q.pl.flatMap Pc.cells) rfl RP.out (fun u hu => by
          obtain ⟨x, _, hx⟩ := List.mem_flatMap.1 hu
          simp [Pc.cells] at hx
          rcases hx with rfl | rfl <;> rfl) (by unfold maxLen; omega) (by omega) (Nat.le_refl _) ?_
        intro v10 w10 hown10 hg10 _
        rw [Nat.zero_add, List.nil_append] at hown10
        obtain ⟨A6, c6, hv10, hA6⟩ := own_slice hown10
        subst hv10
        have OP := Lib.hid hown10
        have B10 : Hid (Below w9.heap.size w9 w10) := Lib.hid ((Below.refl _ _).grown hg10 (Nat.le_refl _) (fun g hg => by simp [Value.ownBlock] at hg))
        have F10 := Lib.hid (F9.out.below B10.out)
        have ff := F10.out.t
        have z11 := cell_of_row w10 w.heap.size 11 _ _ _ ff
        have fz11 := frozen_of_row w10 w.heap.size 11 _ _ ff
        clear ff hown10 hg10 hA6)
      clear t11 z11 fz11
      have C11 : Hid (Chg (fun j => j = w.heap.size) w10 (w10.setCell ⟨w.heap.size, 11, none⟩ (.slice A6 q.pl.length c6))) := Lib.hid ((Chg.refl (fun j => j = w.heap.size) w10).setCell (p := ⟨w.heap.size, 11, none⟩) (.inl rfl) _)
      have F11 : Hid (FkP w q ⟨Ag, cg, Am, cm, kn, A5, c5, .slice A6 q.pl.length c6⟩ (w10.setCell ⟨w.heap.size, 11, none⟩ (.slice A6 q.pl.length c6))) := Lib.hid (F10.out.put _ rfl)
      have CC11 : Hid (Chg (fun j => j = w.heap.size) w9 (w10.setCell ⟨w.heap.size, 11, none⟩ (.slice A6 q.pl.length c6))) := Lib.hid ((chg_below B10.out).step C11.out (fun _ _ e => e))
      have CC := Lib.hid (CC9.out.step CC11.out (fun _ _ e => e))
      go_wp2
      go_ret
      have hkn : w.heap.size + 1 ≤ kn := hs45
      have hs7 := S7.out
      have hH := H.out
      have hF11 := F11.out
      refine ⟨rfl, ⟨⟨Ag, cg, Am, cm, kn, A5, c5, .slice A6 q.pl.length c6⟩, ?_⟩, hF11.bel⟩
      have hgb : ∀ b off, A6 = some ⟨b, off, none⟩ → 0 < q.pl.length → w9.heap.size ≤ b := fun b off e hn => own_base2 OP.out b off e hn
      have hob : ∀ g, (Value.slice A6 q.pl.length c6).ownBlock = some g → w9.heap.size ≤ g := fun g e => (OP.out.lt g e).1
      have o6 : ∀ b, b < w9.heap.size → (Value.slice A6 q.pl.length c6).ownBlock ≠ some b := fun b hb e => by have := hob b e; omega
      have H11 := hH.below hF11.bel
      refine ⟨hF11.t, RG7.out.chg CC.out (fun b off e hn hb => by have := NG.out b off e hn; omega), RM7.out.chg CC.out (fun b off e hn hb => by have := NM.out b off e hn; omega), RH9.out.chg CC11.out (fun b off e hn hb => by have := NH.out b off e hn; omega), ⟨Dout, map_chg OF.out CC.out (by show ¬ kn = w.heap.size; omega), KF.out⟩, ?_, H11.bd, Nat.le_refl _, ⟨by show w.heap.size ≤ kn; omega, by show kn ≠ w.heap.size; omega⟩, fun g e => by have := hob g e; exact ⟨by show w.heap.size ≤ g; omega, by omega, by show g ≠ kn; omega⟩, ?_, ?_, ?_, ?_⟩
      · exact own_chg (own_base OP.out (fun k _ => Nat.zero_le k)) C11.out (fun k hk e => by have := hob k hk; omega)
      · exact fun b off e hn => by have h1 := NG.out b off e hn; have h2 := LG.out b off e hn; exact ⟨.inl (by show w.heap.size ≤ b; omega), by omega, by show b ≠ kn; omega, o6 b (by omega)⟩
      · exact fun b off e hn => by have h1 := NM.out b off e hn; have h2 := LM.out b off e hn; exact ⟨.inl (by show w.heap.size ≤ b; omega), by omega, by show b ≠ kn; omega, o6 b (by omega)⟩
      · exact fun b off e hn => by have h1 := NH.out b off e hn; have h2 := LH.out b off e hn; exact ⟨.inl (by show w.heap.size ≤ b; omega), by omega, by show b ≠ kn; omega, o6 b h2⟩
      · intro x hx b off e hn
        have h1 := hH.fb x hx b off e hn
        have h2 := (hH.bd x hx).lt (by omega) hn b off e
        exact ⟨.inr ⟨h1.1, h2, fun e2 => by
          rcases e2 with e2 | e2 | e2
          · exact h1.2.1 e2
          · exact h1.2.2.1 e2
          · exact h1.2.2.2 e2⟩, by omega, by show b ≠ kn; omega, o6 b (by omega)⟩
    · intro k w7 left1 cnt1 hkL hku hlk hrg1 hl1 hlt hg1 hs1 hen
      have hC1 := (Chg.refl (fun j => j = w6.heap.size) wr).grown hg1 (fun j hj => by cases hj; exact Or.inl rfl)
      have hs1' : wr.heap.size ≤ w7.heap.size := Nat.le_of_eq hs1.symm
      have hsw : w6.heap.size ≤ wr.heap.size := hC.out.size
      have F7 := Lib.hid (hF.out.chg hC1 (by have := F6.out.t; have := lt_of_block this; omega) (fun k e => by omega))
      have O7 := Lib.hid (map_chg hout.out hC1 (by omega))
      have E8 := box_below w7 (.cells #[.int .u64 k.nonce, .bool k.coin] 75)
      have X8 := Lib.hid (heap_alloc_new w7 (.cells #[.int .u64 k.nonce, .bool k.coin] 75))
      have F8 := Lib.hid (F7.out.below E8)
      have O8 := Lib.hid (map_chg O7.out (chg_below E8 (F := fun _ => False)) (fun h => h))
      have HR8 := Lib.hid (hrg1.alloc (.cells #[.int .u64 k.nonce, .bool k.coin] 75))
      have C8 : Hid (Chg (fun j => j = kn) w6 (w7.alloc (.cells #[.int .u64 k.nonce, .bool k.coin] 75))) := Lib.hid ((hC.out.step hC1 (fun i hi e => by omega)).thenBelow E8 (by omega))
      have HLE := Lib.hid hrg.left_eq
      have HL1 := Lib.hid hl1
      have HKL : Hid (k ∈ q.l) := Lib.hid hkL
      clear hC1 E8 hg1 hl1 hrg hrg1 hs1 F7 O7 hF hout hC
      go_upto_region 9 with fail
      have hsz8 : (w7.alloc (.cells #[.int .u64 k.nonce, .bool k.coin] 75)).heap.size = w7.heap.size + 1 := by simp
      have hs8 : w7.heap.size + 1 ≤ (w7.alloc (.cells #[.int .u64 k.nonce, .bool k.coin] 75)).heap.size := Nat.le_of_eq hsz8.symm
      clear hsz8
      generalize (w7.alloc (.cells #[.int .u64 k.nonce, .bool k.coin] 75)) = w8 at *
      have u6 := cell_of_row w8 w.heap.size 6 _ _ _ F8.out.t
      have x0 := cell_of_row w8 w7.heap.size 0 _ _ _ X8.out
      have x1 := cell_of_row w8 w7.heap.size 1 _ _ _ X8.out
      have hsd : Maps.size D0 ≤ q.n := HSZ.out
      go_wp2_with (first
        | (at_mapUpdate; refine wpList_mapUpdate_own _ rfl _ _ _ 62 rfl 26 75 law64 Try.underlying62 oneElem kn _ Dout rfl O8.out (by unfold maxLen; omega) (.int .u64 k.pn) (.agg #[.int .u64 k.nonce, .bool k.coin]) (.int .u64 k.pn) rfl rfl (key64 hku) (oneD k) [] rfl ?_; intro w9 hown9 hg9; try go_frame)
        | go_in)
      have C9 : Hid (Chg (fun j => j = kn) w8 w9) := Lib.hid ((Chg.refl _ _).grown hg9 (fun k e => by injection e with e; exact .inl e.symm))
      have O9 := Lib.hid hown9
      have HR9 := Lib.hid (ranges_chg HR8.out C9.out (by omega) (by omega))
      have KA := Lib.hid (Kept.add (g := fun x => !up64 left x) (g' := fun x => !up64 left1 x) hkp.out O8.out.isMap own HKL.out (fun y hy => by show (!up64 left1 y) = !up64 left y; rw [HL1.out]; simp [hy]) (by show (!up64 left1 k.pn) = true; rw [HL1.out]; simp))
      clear hown9 hg9
      go_roundw
      case rel => exact ⟨left1, cnt1, _, HR9.out, by omega, Lib.hid (O9.out.mono (by omega)), KA, Lib.hid (F8.out.chg C9.out (by omega) (fun k e => by omega)), Lib.hid (C8.out.step C9.out (fun _ _ e => e))⟩
      case measure => rw [HR9.out.left_eq, HLE.out]; exact hlt

/-- Fork: what may turn of the old one is named, so that the new one may share the rest. -/
theorem peer_fork (w : World) (F M : Nat → Prop) (p : Nat) (s : PS) (h : PeP w F M p s) :
    Calls Try.prog 24 #[.pointer (some ⟨p, 0, none⟩)] w fun e w' => e = .returned (.pointer (some ⟨w.heap.size, 0, none⟩)) ∧ (∃ F0 : Nat → Prop, (∀ k, F0 k → F k ∧ k < w.heap.size) ∧ PeP w' F0 (fun k => (F k ∨ M k) ∧ k < w.heap.size ∧ ¬ F0 k) p s ∧
      PeP w' (fun k => w.heap.size ≤ k) (fun k => (F k ∨ M k) ∧ k < w.heap.size ∧ ¬ F0 k) w.heap.size s) ∧ Below w.heap.size w w' := by
  obtain ⟨hv, pl, m, h1, h2⟩ := h.ex
  have hf := h.few
  have hg := h.good.few
  refine (peer_fork_r w F M p _ m h1 (by show s.got.length ≤ _; omega) (by show s.marked.length ≤ _; omega) (by have := h2.2.2.1; show hv.length ≤ _; omega) (by have := h2.2.2.2.1; show pl.length ≤ _; omega) (by show s.s.length ≤ _; omega) h.good.own).mono ?_
  rintro e w' ⟨rfl, ⟨m', hm'⟩, hb⟩
  obtain ⟨D, hk1, hk2⟩ := h1.k
  have hkl := hk1.lt
  have hpl := h1.lt
  refine ⟨rfl, ⟨fun k => k = p ∨ k = m.kb ∨ m.v.ownBlock = some k, fun k hk => ?_, ⟨h.good, h.wt, h.byt, h.few, hv, pl, m, ?_, h2⟩, ⟨h.good, h.wt, h.byt, h.few, hv, pl, m', hm', h2⟩⟩, hb⟩
  · rcases hk with e | e | e
    · subst e; exact ⟨h1.fp, hpl⟩
    · subst e; exact ⟨h1.fk.1, hkl⟩
    · exact ⟨(h1.fo k e).1, (h1.o.lt k e).2⟩
  · have h3 := h1.below hb
    have out : ∀ {A : Option Addr} {n size c : Nat} {xs : List Value}, Outs F M p m A n → Rd w size A n c xs → 0 < size → Outs (fun k => k = p ∨ k = m.kb ∨ m.v.ownBlock = some k) (fun k => (F k ∨ M k) ∧ k < w.heap.size ∧ ¬ (k = p ∨ k = m.kb ∨ m.v.ownBlock = some k)) p m A n := fun {A n size c xs} g r h0 b off e hn => by
      have g1 := g b off e hn
      exact ⟨.inr ⟨g1.1, r.lt h0 hn b off e, fun e2 => by
        rcases e2 with e2 | e2 | e2
        · exact g1.2.1 e2
        · exact g1.2.2.1 e2
        · exact g1.2.2.2 e2⟩, g1.2⟩
    exact ⟨h3.t, h3.r1, h3.r2, h3.r3, h3.k, h3.o, h3.bd, .inl rfl, ⟨.inr (.inl rfl), h1.fk.2⟩, fun g hg => ⟨.inr (.inr hg), (h1.fo g hg).2⟩, out h1.f1 h1.r1 (by omega), out h1.f2 h1.r2 (by omega), out h1.f3 h1.r3 (by omega), fun x hx => out (h1.fb x hx) (h1.bd x hx) (by omega)⟩

end Go.Proofs.Ytkedfipeebjcjaa

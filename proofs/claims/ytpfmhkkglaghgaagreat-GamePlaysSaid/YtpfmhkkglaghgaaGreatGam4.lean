/-
  Walks of the game: a draw that is played.
-/
import Derived.Test.YtpfmhkkglaghgaaGreatGam3
import Derived.Test.YtpfmhkkglaghgaaGreatGuL
namespace Go.Proofs.YtpfmhkkglaghgaaGreat
set_option linter.unusedSimpArgs false
set_option linter.unusedVariables false
set_option linter.unnecessarySimpa false
open Go.RowKit

theorem infoVd3 : (Tryz.prog.info? 43).map (fun i => (i.zero, i.size, i.bytes)) = some (some (.agg #[.int .i64 0, .int .i64 0, .int .u64 0, .bool false]), 4, 32) := by kernel_rfl
theorem infoMv3 : (Tryz.prog.info? 41).map (fun i => (i.zero, i.size, i.bytes)) = some (some (.agg #[.int .i64 0, .int .i64 0, .int .i64 0, .bool false, .bool false, .int .u64 0]), 6, 40) := by kernel_rfl
def Vd.vals (v : Vd) : List Value := [.int .i64 v.kind, .int .i64 v.why, .int .u64 v.pn, .bool v.ch]
def Vds (l : List Vd) : List Value := l.flatMap Vd.vals

theorem AlC.turn {N N' Z : Nat → Prop} {p b : Nat} {s : LS} {g : GS} {W W' : World} (h : AlC N p b s g W) (hc : Chg Z W W') (hZ : ∀ k, k < W.heap.size → Z k → N k) (hN : ∀ k, N' k → N k ∨ W.heap.size ≤ k) : AlC N' p b s g W' := by
  obtain ⟨T, F, E, hL, hG, hd, hs⟩ := h.ex
  have hsz := hc.size
  exact ⟨T, F, E, hL.chg hc (fun k hk ht hz => (hs k (.inl ht)).2 (hZ k hk hz)) (fun _ _ h => h), hG.chg hc (fun k hk hf hz => (hs k (.inr hf)).2 (hZ k hk hz)) (fun _ _ h => h) (fun _ _ h => h) hG.dj, hd, fun k hk => ⟨Nat.lt_of_lt_of_le (hs k hk).1 hsz, fun hn => (hN k hn).elim (hs k hk).2 (fun e => by have := (hs k hk).1; omega)⟩⟩

/-- Two rows have grown by one element each. -/
structure App2 (B : Nat) (e f : TypeId) (k l : Nat) (W : World) (V M V' M' : Value) (n m : Nat) (xs ys : List Value) (W' : World) : Prop where
  ov : W'.ownsRow B e k V' n xs
  om : W'.ownsRow B f l M' m ys
  ne : ∀ j, V'.ownBlock = some j → M'.ownBlock ≠ some j
  chg : Chg (fun j => V.ownBlock = some j ∨ M.ownBlock = some j) W W'
  vb : V'.ownBlock = V.ownBlock ∨ ∃ j, V'.ownBlock = some j ∧ W.heap.size ≤ j
  mb : M'.ownBlock = M.ownBlock ∨ ∃ j, M'.ownBlock = some j ∧ W.heap.size ≤ j
theorem App2.of {B : Nat} {e f : TypeId} {k l : Nat} {W W1 w6 W2 w7 : World} {V M V' M' : Value} {n m n0 m0 : Nat} {xs ys xs0 ys0 : List Value} (hV : W.ownsRow B e k V n0 xs0) (hM : W.ownsRow B f l M m0 ys0) (hne : ∀ j, V.ownBlock = some j → M.ownBlock ≠ some j)
    (b1 : Below W.heap.size W W1) (o6 : w6.ownsRow B e k V' n xs) (g6 : W1.grownBy w6 V.ownBlock) (k6 : V'.ownBlock = V.ownBlock ∨ V'.ownBlock = some W1.heap.size)
    (b2 : Below w6.heap.size w6 W2) (o7 : w7.ownsRow B f l M' m ys) (g7 : W2.grownBy w7 M.ownBlock) (k7 : M'.ownBlock = M.ownBlock ∨ M'.ownBlock = some W2.heap.size) : App2 B e f k l W V M V' M' n m xs ys w7 := by
  have s1 := b1.size
  have s2 := b2.size
  have s3 := g6.size
  have nv : ∀ j, V'.ownBlock = some j → M.ownBlock ≠ some j := fun j hj hj' => by
    rcases k6 with k6 | k6
    · exact hne j (k6 ▸ hj) hj'
    · rw [k6] at hj; injection hj with hj
      have := (hM.lt j hj').2; omega
  refine ⟨own_chg (own_bel o6 b2) (grown_ch g7) (fun j hj h => nv j hj h), o7, fun j hj hj' => ?_, ?_, ?_, ?_⟩
  · rcases k7 with k7 | k7
    · exact nv j hj (k7 ▸ hj')
    · rw [k7] at hj'; injection hj' with hj'
      have := (o6.lt j hj).2; omega
  · exact ((((chg_below b1).grown g6 (fun j h => .inl (.inl h))).thenBelow b2 (Nat.le_trans s1 s3)).grown g7 (fun j h => .inl (.inr h)))
  · exact k6.imp_right fun h => ⟨_, h, s1⟩
  · exact k7.imp_right fun h => ⟨_, h, by omega⟩

theorem led_at (g : Gm) (k i : Nat) (hi : i < 4) : (ledTo g k i).send ⟨0, i, 1, (nonN g.b k i : Nat), 0, coinN g.b k i, false, 0⟩ = (ledTo g k (i + 1), (i : Int), 0) := by
  have hr : (ledTo g k i).room = 4 - (i : Int) := by
    have : i = 0 ∨ i = 1 ∨ i = 2 ∨ i = 3 := by omega
    rcases this with rfl | rfl | rfl | rfl <;> simp [ledTo, LS.room, LS.least, LS.low, LS.kept, LS.ahead, List.range_succ, sntN]
  have hl : (ledTo g k i).all.length = i := by simp [ledTo]
  unfold LS.send
  rw [if_neg (by show ¬ ((1 : Int) < 1 ∨ (1500 : Int) < 1 ∨ (4611686018427387903 : Int) < (i : Int)); omega)]
  unfold LS.give
  rw [if_neg (by rw [hl]; show ¬ maxPn < (i : Int); unfold maxPn; omega), if_neg (by rw [hr]; omega), hl]
  simp [ledTo, List.range_succ, sntN]

theorem snt_ok {i : Nat} {x : Nat} {b : Bool} (hi : i < 18446744073709551616) (hx : (x : Int) < 18446744073709551616) : Snt.ok ⟨0, i, 1, x, 0, b, false, 0⟩ := by
  have z : isU64 0 := by unfold isU64; omega
  have o : isU64 1 := by unfold isU64; omega
  exact ⟨z, ⟨Int.natCast_nonneg _, show (i : Int) < 18446744073709551616 by omega⟩, o, ⟨Int.natCast_nonneg _, hx⟩, z, show isI64 0 by unfold isI64; omega⟩
theorem Rd.mv {w : World} {A : Option Addr} {n c : Nat} {l : List Mv} (h : Rd w 6 A n c (Mvs l)) {i : Nat} (hi : i < l.length) :
    ∃ b off, A = some ⟨b, off, none⟩ ∧
      w.cell? ⟨b, off + i * 6, none⟩ = some (.int .i64 l[i].claim) ∧ w.cell? ⟨b, off + i * 6 + 1, none⟩ = some (.int .i64 l[i].mark) ∧
      w.cell? ⟨b, off + i * 6 + 2, none⟩ = some (.int .i64 l[i].fr) ∧ w.cell? ⟨b, off + i * 6 + 3, none⟩ = some (.bool l[i].guess) ∧
      w.cell? ⟨b, off + i * 6 + 4, none⟩ = some (.bool l[i].flip) ∧ w.cell? ⟨b, off + i * 6 + 5, none⟩ = some (.int .u64 l[i].salt) := by
  obtain ⟨b, off, e, hc⟩ := Rd.elem (f := Mv.vals) (k := 6) (fun _ => rfl) h (by omega) hi
  exact ⟨b, off, e, hc 0 _ rfl, hc 1 _ rfl, hc 2 _ rfl, hc 3 _ rfl, hc 4 _ rfl, hc 5 _ rfl⟩
theorem tab_see3 {b B : Nat} {g : Gm} {A : Option Addr} {c : Nat} {ns : List Int} {cs : List Bool} {v : Int} {N : Option Addr} {nc : Nat} {C : Option Addr} {cc : Nat} {W1 : World} (w : World) (x : Int) (h : TabC b B g A c ns cs v N nc C cc W1 w) (hv : isU64 v) (hx : isU64 x) :
    Calls Tryz.prog 29 #[.pointer (some ⟨b, 0, none⟩), .int .u64 x] w fun e w' => e = .returned (.tuple #[]) ∧ TabC b B g A c ns cs (foldV v x) N nc C cc W1 w' ∧ Chg (fun j => j = b) w w' := by
  have H := Lib.hid h
  have c7 : w.cell? ⟨b, 7, none⟩ = some (.int .u64 v) := h.cellAt 7 rfl
  have f7 := h.fz 7
  have hl := lt_of_block h.t
  have K := Lib.hid (draw_mix (xor64 v x) w (isU64_wrap _))
  have E : Hid (foldV v x = mixZ (xor64 v x)) := Lib.hid rfl
  unfold xor64 at K E
  clear h hv hx
  go_enter Tryz.func29, Tryz.ntmps29
  go_wp2_with fail
  refine K.out.mono ?_
  rintro e w' ⟨rfl, rfl⟩
  go_wp2
  go_end0
  refine ⟨rfl, ?_, (Chg.refl (fun j => j = b) w).setCell (p := ⟨b, 7, none⟩) (.inl rfl) _⟩
  rw [E.out]
  exact H.out.view _

def rowMayB (s k n : Nat) : Bool := !(k &&& s == k) || s == 0 || !(decide (s < 2 ^ n)) || mayB (rowS s n) (rowS k n)
theorem row_mayB : ∀ s, s < 16 → ∀ k, k < 16 → ∀ n, n < 5 → rowMayB s k n = true := by decide +kernel
theorem row_may {s k n : Nat} (hs : s < 16) (hk : k < 16) (hn : n < 5) (h1 : k &&& s = k) (h2 : 0 < s) (h3 : s < 2 ^ n) : mayB (rowS s n) (rowS k n) = true := by
  have h := row_mayB s hs k hk n hn
  unfold rowMayB at h
  rw [h1] at h
  simp only [beq_self_eq_true, Bool.not_true, Bool.false_or, decide_eq_true h3, Bool.or_false] at h
  rw [show (s == 0) = false by simp; omega] at h
  simpa using h
theorem sub_and {a b : Nat} (h : ∀ i, a.testBit i = true → b.testBit i = true) : a &&& b = a := by
  apply Nat.eq_of_testBit_eq
  intro i
  rw [Nat.testBit_and]
  cases e : a.testBit i with
  | false => rfl
  | true => rw [h i e]; rfl
structure FrD (d : AckD) : Prop where
  may : mayB d.sp d.mm = true
  g1 : Gd d.sp
  g2 : Gd d.mm
  p1 : ∀ s ∈ d.sp, 0 ≤ s.1
  p2 : ∀ s ∈ d.mm, 0 ≤ s.1
  l1 : d.sp.length ≤ 32
  l2 : d.mm.length ≤ 32
theorem frameD_ok {g : Gm} {m : Mv} (k : Nat) (v : Int) (hg : g.ok) (hm : m.ok g.n) (h0 : m.claim ≠ 0) : FrD (frameD g k m v) := by
  have n4 := hg.n4
  have p16 : 2 ^ g.n ≤ 16 := Nat.pow_le_pow_right (n := 2) (by decide) (j := 4) n4
  have hcl : m.claim < 16 := Nat.lt_of_lt_of_le hm.claim p16
  have hmk : m.mark < 16 := Nat.lt_of_le_of_lt (Nat.le_of_testBit hm.mark) hcl
  obtain ⟨a1, a2, a3, -⟩ := rowS_ok hcl n4
  obtain ⟨b1, b2, b3, -⟩ := rowS_ok hmk n4
  exact ⟨row_may hcl hmk (by omega) (sub_and hm.mark) (by omega) hm.claim, good_gd a1, good_gd b1, fun s h => (a2 s h).1, fun s h => (b2 s h).1, by show (rowS m.claim g.n).length ≤ 32; omega, by show (rowS m.mark g.n).length ≤ 32; omega⟩

/-- Where the moves stand. -/
structure PlS (g : Gm) (k : Nat) (A : Option Addr) (c : Nat) (W0 W1 : World) (z q bT BT base : Nat) (N : Option Addr) (nc : Nat) (C : Option Addr) (cc : Nat) (V M : Value) (out : List (Vd × Mv)) (vv : Int) (s : LS) (gs : GS) (W : World) : Prop where
  ov : W.ownsRow base 43 4 V out.length (Vds (out.map (·.1)))
  om : W.ownsRow base 41 6 M out.length (Mvs (out.map (·.2)))
  ne : ∀ x, V.ownBlock = some x → M.ownBlock ≠ some x
  al : AlC (fun x => x < z ∨ V.ownBlock = some x ∨ M.ownBlock = some x) z q s gs W
  tb : TabC bT BT g A c (nsTo g k g.n) (csTo g k g.n) vv N nc C cc W1 W
  u : isU64 vv
  bl : Below W0.heap.size W0 W
  sz : base ≤ W.heap.size
/-- What does not change. -/
structure PlK (g : Gm) (k : Nat) (W0 : World) (z bT BT base : Nat) (N : Option Addr) (nc : Nat) (C : Option Addr) (cc : Nat) : Prop where
  zb : z ≤ base
  w0 : W0.heap.size < z
  bt : bT < z
  btz : BT ≤ z
  wb : W0.heap.size < bT
  ln : ∀ j, (Value.slice N (nsTo g k g.n).length nc).ownBlock = some j → j < z
  lc : ∀ j, (Value.slice C (csTo g k g.n).length cc).ownBlock = some j → j < z
section
variable {g : Gm} {k : Nat} {A : Option Addr} {c : Nat} {W0 W1 W W' : World} {z q bT BT base : Nat} {N : Option Addr} {nc : Nat} {C : Option Addr} {cc : Nat} {V M : Value} {out : List (Vd × Mv)} {vv : Int} {s : LS} {gs : GS}
theorem PlS.below (h : PlS g k A c W0 W1 z q bT BT base N nc C cc V M out vv s gs W) (b : Below W.heap.size W W') : PlS g k A c W0 W1 z q bT BT base N nc C cc V M out vv s gs W' :=
  ⟨own_bel h.ov b, own_bel h.om b, h.ne, h.al.below b, h.tb.below b, h.u, h.bl.trans (b.mono h.bl.size), Nat.le_trans h.sz b.size⟩
theorem PlS.lim (K : PlK g k W0 z bT BT base N nc C cc) (h : PlS g k A c W0 W1 z q bT BT base N nc C cc V M out vv s gs W) : ∀ x, x < z ∨ V.ownBlock = some x ∨ M.ownBlock = some x → x < W.heap.size := fun x hx => by
  have h1 := K.zb
  have h2 := h.sz
  rcases hx with e | e | e
  · omega
  · exact (h.ov.lt x e).2
  · exact (h.om.lt x e).2
/-- A take: the ledger and the guard alone. -/
theorem PlS.took {s' : LS} {gs' : GS} {G : Nat → Prop} (K : PlK g k W0 z bT BT base N nc C cc) (h : PlS g k A c W0 W1 z q bT BT base N nc C cc V M out vv s gs W) (hc : Chg G W W') (hG : ∀ x, x < z ∨ V.ownBlock = some x ∨ M.ownBlock = some x → ¬ G x) (al : AlC (fun x => x < z ∨ V.ownBlock = some x ∨ M.ownBlock = some x) z q s' gs' W') :
    PlS g k A c W0 W1 z q bT BT base N nc C cc V M out vv s' gs' W' :=
  ⟨own_chg h.ov hc (fun x hx => hG x (.inr (.inl hx))), own_chg h.om hc (fun x hx => hG x (.inr (.inr hx))), h.ne, al,
    h.tb.chg_ hc (hG _ (.inl K.bt)) (fun x hx => Decidable.byContradiction fun hn => hG x (.inl (by have := K.btz; omega)) hx) (fun x e => hG x (.inl (K.ln x e))) (fun x e => hG x (.inl (K.lc x e))), h.u,
    h.bl.trans (hc.below (B := W0.heap.size) h.bl.size (fun x hx => hG x (.inl (by have := K.w0; omega)))), Nat.le_trans h.sz hc.size⟩
theorem Vds_app (a b : List Vd) : Vds (a ++ b) = Vds a ++ Vds b := by simp [Vds]
theorem Mvs_app (a b : List Mv) : Mvs (a ++ b) = Mvs a ++ Mvs b := by simp [Mvs]
theorem PlS.app {V' M' : Value} {v : Vd} {m : Mv} (K : PlK g k W0 z bT BT base N nc C cc) (h : PlS g k A c W0 W1 z q bT BT base N nc C cc V M out vv s gs W)
    (a : App2 base 43 41 4 6 W V M V' M' (out.length + 1) (out.length + 1) (Vds (out.map (·.1)) ++ v.vals) (Mvs (out.map (·.2)) ++ m.vals) W') :
    PlS g k A c W0 W1 z q bT BT base N nc C cc V' M' (out ++ [(v, m)]) vv s gs W' := by
  have el : (out ++ [(v, m)]).length = out.length + 1 := by simp
  have e1 : Vds ((out ++ [(v, m)]).map (·.1)) = Vds (out.map (·.1)) ++ v.vals := by rw [List.map_append, Vds_app]; simp [Vds]
  have e2 : Mvs ((out ++ [(v, m)]).map (·.2)) = Mvs (out.map (·.2)) ++ m.vals := by rw [List.map_append, Mvs_app]; simp [Mvs]
  have kb := K.zb
  have nz : ∀ x, x < z → ¬ (V.ownBlock = some x ∨ M.ownBlock = some x) := fun x hx e => e.elim (fun e => by have := (h.ov.lt x e).1; omega) (fun e => by have := (h.om.lt x e).1; omega)
  refine ⟨by rw [el, e1]; exact a.ov, by rw [el, e2]; exact a.om, a.ne, ?_, h.tb.chg_ a.chg (nz _ K.bt) (fun x hx => Decidable.byContradiction fun hn => nz x (by have := K.btz; omega) hx) (fun x e => nz x (K.ln x e)) (fun x e => nz x (K.lc x e)), h.u,
    h.bl.trans (a.chg.below (B := W0.heap.size) h.bl.size (fun x hx => nz x (by have := K.w0; omega))), Nat.le_trans h.sz a.chg.size⟩
  refine h.al.turn a.chg (fun x _ e => .inr e) (fun x hx => ?_)
  rcases hx with e | e | e
  · exact .inl (.inl e)
  · rcases a.vb with f | ⟨y, f, f'⟩
    · exact .inl (.inr (.inl (f ▸ e)))
    · rw [f] at e; injection e with e; exact .inr (by omega)
  · rcases a.mb with f | ⟨y, f, f'⟩
    · exact .inl (.inr (.inr (f ▸ e)))
    · rw [f] at e; injection e with e; exact .inr (by omega)
theorem PlS.see {x : Int} (K : PlK g k W0 z bT BT base N nc C cc) (h : PlS g k A c W0 W1 z q bT BT base N nc C cc V M out vv s gs W) (hT : TabC bT BT g A c (nsTo g k g.n) (csTo g k g.n) (foldV vv x) N nc C cc W1 W') (hc : Chg (fun j => j = bT) W W') :
    PlS g k A c W0 W1 z q bT BT base N nc C cc V M out (foldV vv x) s gs W' := by
  have kb := K.zb
  have bt := K.bt
  exact ⟨own_chg h.ov hc (fun x hx e => by have := (h.ov.lt x hx).1; omega), own_chg h.om hc (fun x hx e => by have := (h.om.lt x hx).1; omega), h.ne, h.al.chg hc (fun x _ e => .inl (by omega)), hT, foldV_u64 _ _,
    h.bl.trans (hc.below (B := W0.heap.size) h.bl.size (fun x hx e => by have := K.wb; omega)), Nat.le_trans h.sz hc.size⟩
end
theorem rd_lit {W : World} {size b : Nat} {cs : Array Value} {t : TypeId} {xs : List Value} (h : W.heap[b]? = some (.cells cs t (0, 0))) (hx : cs.toList = xs) (hs : xs.length = size) : Rd W size (some ⟨b, 0, none⟩) 1 1 xs := by
  refine ⟨by rw [hs]; omega, Nat.le_refl _, by unfold maxLen; omega, fun _ => ⟨b, 0, rfl, fun j u hu => ?_⟩⟩
  rw [Nat.zero_add]
  refine (cell_of_row W b j _ _ _ h).trans ?_
  subst hx
  simpa using hu
theorem lit_at {W : World} {o : Obj} {b : Nat} (hb : b = W.heap.size) : (W.alloc o).heap[b]? = some o := hb ▸ heap_alloc_new W o
theorem grown_of {B : Nat} {W0 W W' : World} {r : Option Nat} (_ : W.grownBy W' r) (b : Below B W0 W) : Below B W0 W := b
theorem played_end {g : Gm} {k : Nat} {A : Option Addr} {c : Nat} {W0 W1 W : World} {z q bT BT base : Nat} {N : Option Addr} {nc : Nat} {C : Option Addr} {cc : Nat} {V M : Value} {out : List (Vd × Mv)} {vv : Int} {s : LS} {gs : GS} (h : PlS g k A c W0 W1 z q bT BT base N nc C cc V M out vv s gs W) (he : out = playedN g k 0) :
    ∃ VA vc MA mc, Ending.returned (.tuple #[V, M]) = .returned (.tuple #[.slice VA (playedN g k 0).length vc, .slice MA (playedN g k 0).length mc]) ∧ Rd W 4 VA (playedN g k 0).length vc (Vds ((playedN g k 0).map (·.1))) ∧ Rd W 6 MA (playedN g k 0).length mc (Mvs ((playedN g k 0).map (·.2))) ∧ Below W0.heap.size W0 W := by
  subst he
  obtain ⟨VA, vc, rfl, -⟩ := own_slice h.ov
  obtain ⟨MA, mc, rfl, -⟩ := own_slice h.om
  exact ⟨VA, vc, MA, mc, rfl, Rd.of_own h.ov, Rd.of_own h.om, h.bl⟩
theorem gam_enc (w : World) (a : Ak) (d : AckD) (h : AkR w a) (hd : a.is d) (f : FrD d) :
    Calls Tryz.prog 26 #[a.val] w fun e w' => ∃ A c, e = .returned (.tuple #[.slice A (putAckP d).length c, .int .i64 0]) ∧ Rd w' 1 A (putAckP d).length c (U8 (putAckP d)) ∧ Below w.heap.size w w' := by
  obtain ⟨e1, e2, e3, e4, e5⟩ := hd
  obtain ⟨sp, mm, tr, xo, od⟩ := d
  simp only at e1 e2 e3 e4 e5
  have f1 := f.may
  have f2 := f.g1
  have f3 := f.g2
  have f4 := f.p1
  have f5 := f.p2
  have f6 := f.l1
  have f7 := f.l2
  simp only at f1 f2 f3 f4 f5 f6 f7
  subst e1 e2 e3 e4 e5
  refine (ack_encode w a h f1 f2 f3 f4 f5 f6 f7).mono ?_
  rintro e w' ⟨A, c, rfl, r, b⟩
  exact ⟨A, c, rfl, r.rd, b⟩
theorem take_kind (g : GS) (s : LS) (f : List Int) (now : Int) : 0 ≤ (g.take s f now).v.kind ∧ (g.take s f now).v.kind ≤ 3 := by
  rcases GS.take_cases g s f now with ⟨-, e⟩ | ⟨-, e⟩ | ⟨-, d, -, ⟨y, -, -, e⟩ | ⟨x, y, z, -, -, -, e⟩ | ⟨x, -, -, e⟩⟩ <;> rw [e] <;> simp

set_option maxHeartbeats 16000000 in
set_option maxRecDepth 100000 in
theorem gam_played (g : Gm) (k : Nat) (A : Option Addr) (c : Nat) (w : World) (hg : g.ok) (hk : k < 18446744073709551616) (hr : Rd w 6 A g.moves.length c (Mvs g.moves)) :
    Calls Tryz.prog 18 #[gmVal g A c, .int .u64 k] w fun e w' => ∃ VA vc MA mc, e = .returned (.tuple #[.slice VA (playedN g k 0).length vc, .slice MA (playedN g k 0).length mc]) ∧ Rd w' 4 VA (playedN g k 0).length vc (Vds ((playedN g k 0).map (·.1))) ∧ Rd w' 6 MA (playedN g k 0).length mc (Mvs ((playedN g k 0).map (·.2))) ∧ Below w.heap.size w w' := by
  have b0 := box_below w (.cells #[.int .i64 g.b, .int .i64 g.n, .int .i64 g.came, .int .i64 g.marked, .slice A g.moves.length c] 24)
  have n0 := heap_alloc_new w (.cells #[.int .i64 g.b, .int .i64 g.n, .int .i64 g.came, .int .i64 g.marked, .slice A g.moves.length c] 24)
  have B0 := Lib.hid b0
  have N0 := Lib.hid n0
  have s0 : (w.alloc (.cells #[.int .i64 g.b, .int .i64 g.n, .int .i64 g.came, .int .i64 g.marked, .slice A g.moves.length c] 24)).heap.size = w.heap.size + 1 := by simp
  have n4 := hg.n4
  have n1 := hg.n1
  have b6 := hg.b6
  have h8 := hg.len
  have GO := Lib.hid hg
  have HR := Lib.hid hr
  clear hg hr b0 n0
  unfold gmVal
  go_enter Tryz.func18, Tryz.ntmps18
  go_upto_region 1 with fail
  generalize (w.alloc (.cells #[.int .i64 g.b, .int .i64 g.n, .int .i64 g.came, .int .i64 g.marked, .slice A g.moves.length c] 24)) = w1 at *
  have y0 := cell_of_row w1 w.heap.size 0 _ _ _ N0.out
  have y1 := cell_of_row w1 w.heap.size 1 _ _ _ N0.out
  have y2 := cell_of_row w1 w.heap.size 2 _ _ _ N0.out
  have y3 := cell_of_row w1 w.heap.size 3 _ _ _ N0.out
  have y4 := cell_of_row w1 w.heap.size 4 _ _ _ N0.out
  have K1 := Lib.hid (gam_deal g k A c w1 GO.out hk)
  unfold gmVal at K1
  go_wp2_with fail
  refine K1.out.mono ?_
  rintro e w2 ⟨rfl, ⟨W1, T2⟩, b2⟩
  obtain ⟨N, nc, C, cc, hT⟩ := T2
  have s2 := b2.size
  have M2 := Lib.hid ((b2.block _ (lt_of_block N0.out)).trans N0.out)
  have B2 := Lib.hid (B0.out.trans (b2.mono (by omega)))
  have LN := Lib.hid (fun j e => (hT.on.lt j e).2)
  have LC := Lib.hid (fun j e => (hT.oc.lt j e).2)
  have lb2 := lt_of_block hT.t
  have sz2 := hT.sz
  generalize hbT : w1.heap.size + 1 = bT at *
  generalize hBT : w1.heap.size + 2 = BT at *
  have T2 := Lib.hid hT
  clear y0 y1 y2 y3 y4 K1 hT b2 N0
  have y1 : w2.cell? ⟨w.heap.size, 1, none⟩ = some (.int .i64 g.n) := cell_of_row w2 w.heap.size 1 _ _ _ M2.out
  have K2 := Lib.hid (led_new (g.n : Int) 4611686018427387903 w2 ⟨by omega, by omega⟩)
  have e2 : Hid (LS.new (g.n : Int) 4611686018427387903 = ledTo g k 0) := Lib.hid (by
    have : (max 4 (min (g.n : Int) 256)).toNat = 4 := by omega
    unfold LS.new ledTo maxPn
    rw [this]; simp)
  rw [e2.out] at K2
  go_wp2_with fail
  refine K2.out.mono ?_
  rintro e w3 ⟨rfl, L3, b3⟩
  have s3 := b3.size
  have l3 := L3.lt
  clear K2 e2 y1
  have M3 := Lib.hid ((b3.block _ (lt_of_block M2.out)).trans M2.out)
  have T3 := Lib.hid (T2.out.below b3)
  have B3 := Lib.hid (B2.out.trans (b3.mono (by omega)))
  have L3 : Hid (LedP w3 (fun j => w2.heap.size ≤ j) w2.heap.size (ledTo g k 0)) := Lib.hid (L3.sub (fun j _ e => by have e : j = w2.heap.size := e; show w2.heap.size ≤ j; omega))
  have z1 : w3.cell? ⟨w.heap.size, 1, none⟩ = some (.int .i64 g.n) := cell_of_row w3 w.heap.size 1 _ _ _ M3.out
  have B23 := Lib.hid b3
  clear M2 T2 b3
  go_wp2_with fail
  clear z1
  go_loopw [24] (fun iv wr => ∃ i : Nat, i ≤ g.n ∧ iv = .int .i64 i ∧ Hid (LedP wr (fun j => w2.heap.size ≤ j) w2.heap.size (ledTo g k i) ∧ Chg (fun j => w2.heap.size ≤ j) w3 wr)) (fun iv _ => g.n - (intOf iv).toNat)
  case atStart => exact ⟨0, Nat.zero_le _, rfl, Lib.hid ⟨L3.out, Chg.refl _ _⟩⟩
  case round =>
    obtain ⟨i, hi, rfl, LC0⟩ := hrel
    clear L3
    have q3 := Lib.hid LC0.out.2
    have T4 : Hid (TabC bT BT g A c (nsTo g k g.n) (csTo g k g.n) (viewTo g k g.n) N nc C cc W1 wr) := Lib.hid (T3.out.chg_ q3.out (by omega) (fun j e => by omega) (fun j e e' => by have := LN.out j e; omega) (fun j e e' => by have := LC.out j e; omega))
    by_cases hlt : i < g.n
    · obtain ⟨bb, off, eN, hcn, ln, mn⟩ := T4.out.nAt (j := i) hlt
      obtain ⟨bb2, off2, eC, hcc, lc, mc⟩ := T4.out.cAt (j := i) hlt
      have hbb : bb < w2.heap.size := by
        have := LN.out bb (by rw [eN]; rfl)
        exact this
      have hbb2 : bb2 < w2.heap.size := by
        have := LC.out bb2 (by rw [eC]; rfl)
        exact this
      have x5 : wr.cell? ⟨bT, 5, none⟩ = some (.slice N (nsTo g k g.n).length nc) := T4.out.cellAt 5 rfl
      have x6 : wr.cell? ⟨bT, 6, none⟩ = some (.slice C (csTo g k g.n).length cc) := T4.out.cellAt 6 rfl
      rw [nsTo_len] at x5 ln
      rw [csTo_len] at x6 lc
      rw [eN] at x5
      rw [eC] at x6
      unfold maxLen at mn mc
      clear eN eC
      have nF : ∀ j, j < w2.heap.size → ¬ w2.heap.size ≤ j := fun j h => by omega
      have m5 := mixF_cell (F := fun j => w2.heap.size ≤ j) x5 (nF _ lb2)
      have m6 := mixF_cell (F := fun j => w2.heap.size ≤ j) x6 (nF _ lb2)
      have m7 := mixF_cell (F := fun j => w2.heap.size ≤ j) hcn (nF _ hbb)
      have m8 := mixF_cell (F := fun j => w2.heap.size ≤ j) hcc (nF _ hbb2)
      have hn64 := nonN_64 b6 k i
      have K6 := Lib.hid (led_send wr.drew (fun j => w2.heap.size ≤ j) w2.heap.size (ledTo g k i) ⟨0, i, 1, (nonN g.b k i : Nat), 0, coinN g.b k i, false, 0⟩ (LedP.below LC0.out.1 (Below.refl _ _).drew) (snt_ok (by omega) (by omega)))
      rw [led_at g k i (by omega)] at K6
      unfold Snt.val at K6
      simp only at K6
      have wi : IntKind.u64.wrap (i : Int) = (i : Int) := IntWalk.u64_in _ (by omega)
      have f1 : (0 : Int) ≤ i := by omega
      have f2 : (i : Int) < g.n := by omega
      clear x5 x6 hcn hcc T4 nF
      go_upto_region 6 with fail
      refine wp_region_chg (fun j => w2.heap.size ≤ j) (by kernel_rfl) (by kernel_rfl) ?_
      repeat (refine wpMix_seg 1 _ _ rfl ?_; simp only [List.take_succ_cons, List.take_zero, List.drop_succ_cons, List.drop_zero]; go_big_quiet_step (fail); refine wpQuiet_nil ?_)
      refine wpMix_bar rfl (by rfl) ?_
      go_wp2_with fail
      (with_reducible refine K6.out.mono ?_)
      rintro e w5 ⟨rfl, L5, C5⟩
      have L6 : Hid (LedP w5 (fun j => w2.heap.size ≤ j) w2.heap.size (ledTo g k (i + 1))) := Lib.hid (L5.chg (Chg.refl (fun _ => False) w5) (fun _ _ _ h => h) (fun j _ h => h.elim id (fun h => by have := q3.out.size; have h : wr.heap.size ≤ j := h; omega)))
      have Q5 : Hid (Chg (fun j => w2.heap.size ≤ j) wr w5) := Lib.hid ((Chg.refl _ wr).drew.step C5 (fun _ _ h => h))
      clear K6 L5 C5
      go_wp2
      refine ⟨chg_mixF Q5.out, ?_⟩
      repeat (refine wpMix_seg 1 _ _ rfl ?_; simp only [List.take_succ_cons, List.take_zero, List.drop_succ_cons, List.drop_zero]; go_big_quiet_step (fail); refine wpQuiet_nil ?_)
      refine wpMix_nil ?_
      go_wp2
      go_roundw
      case rel => exact ⟨i + 1, by omega, by go_num, Lib.hid ⟨L6.out, q3.out.step Q5.out (fun _ _ h => h)⟩⟩
      case measure => simp [intOf]; omega
    · obtain rfl : i = g.n := by omega
      have K8 := Lib.hid (gua_new 0 0 wr ⟨by omega, by omega⟩)
      have hsr := q3.out.size
      go_wp2_with fail
      refine K8.out.mono ?_
      rintro e w5 ⟨q, rfl, G5, b5⟩
      have s5 := b5.size
      have AL : Hid (AlC (fun j => j < w2.heap.size) w2.heap.size q (ledTo g k g.n) (GS.new 0 0) w5) := Lib.hid ⟨⟨fun j => w2.heap.size ≤ j ∧ j < wr.heap.size, fun j => wr.heap.size ≤ j ∧ j < w5.heap.size, fun _ => False, ((LC0.out.1.chg (Chg.refl (fun _ => False) wr) (fun _ _ _ h => h) (fun j hj h => (⟨h, hj⟩ : w2.heap.size ≤ j ∧ j < wr.heap.size))).below b5), G5.sub (fun j hj h => ⟨h, hj⟩) (fun _ _ h => h) (fun _ h => h.elim), fun j hj => ⟨fun h => by omega, id⟩, fun j hj => by rcases hj with hj | hj | hj; exact ⟨by omega, by omega⟩; exact ⟨hj.2, by omega⟩; exact hj.elim⟩⟩
      have M5 := Lib.hid ((b5.block _ (by omega)).trans (q3.out.blk M3.out (by omega)))
      have T5 := Lib.hid (T4.out.below b5)
      have B5 := Lib.hid ((B3.out.trans (q3.out.below B3.out.size (fun j hj e => by omega))).trans (b5.mono (by omega)))
      clear K8 G5 b5 LC0 q3 T4 T3 M3 B3
      have z4 : w5.cell? ⟨w.heap.size, 4, none⟩ = some (.slice A g.moves.length c) := cell_of_row w5 w.heap.size 4 _ _ _ M5.out
      go_wp2_with fail
      clear z4
      have PK : Hid (PlK g k w w2.heap.size bT BT w5.heap.size N nc C cc) := Lib.hid ⟨by omega, by omega, lb2, sz2, by omega, LN.out, LC.out⟩
      have P0 : Hid (PlS g k A c w W1 w2.heap.size q bT BT w5.heap.size N nc C cc (.slice none 0 0) (.slice none 0 0) [] (viewTo g k g.n) (ledTo g k g.n) (GS.new 0 0) w5) := Lib.hid
        ⟨World.ownsRow_nil _ _ _ _, World.ownsRow_nil _ _ _ _, fun _ e => by simp [Value.ownBlock] at e, AL.out.sub (fun x _ e => e.elim id (fun e => by simp [Value.ownBlock] at e)), T5.out, viewTo_u64 g k g.n, B5.out, Nat.le_refl _⟩
      clear AL T5 B5 M5
      go_loopw [4, 5, 51] (fun v4 v5 iv wx => ∃ (j : Nat) (out : List (Vd × Mv)) (vv : Int) (s : LS) (gs : GS), j ≤ g.moves.length ∧ iv = .int .i64 j ∧ out.length ≤ j ∧ Hid (out ++ playN g k (g.moves.drop j) vv s gs = playedN g k 0) ∧ Hid (PlS g k A c w W1 w2.heap.size q bT BT w5.heap.size N nc C cc v4 v5 out vv s gs wx)) (fun _ _ iv _ => g.moves.length - (intOf iv).toNat)
      case atStart => exact ⟨0, [], _, _, _, Nat.zero_le _, rfl, Nat.le_refl _, Lib.hid rfl, P0⟩
      case round =>
        obtain ⟨j, out, vv, s, gs, hj, rfl, hol, HE, S⟩ := hrel
        clear P0
        by_cases hlt : j < g.moves.length
        · have hm := Lib.hid (GO.out.moves _ (List.getElem_mem hlt))
          have HRx := Lib.hid (HR.out.below S.out.bl)
          obtain ⟨bb, off, eA, c0, c1, c2, c3, c4, c5⟩ := HRx.out.mv hlt
          have mx := HRx.out.cap
          have mx2 := HRx.out.max
          unfold maxLen at mx2
          have HD := Lib.hid (List.drop_eq_getElem_cons hlt)
          subst eA
          generalize g.moves[j] = m at *
          rw [HD.out] at HE
          clear HD HRx
          by_cases h0 : m.claim = 0
          · have hd : decide ((m.claim : Int) = 0) = true := decide_eq_true (by omega)
            go_wp2_with fail
            go_roundw
            case rel => exact ⟨j + 1, out, vv, s, gs, by omega, by go_num, by omega, Lib.hid (by have h := HE.out; unfold playN at h; rw [if_pos h0] at h; exact h), Lib.hid (S.out.below (box_below _ _))⟩
            case measure => simp [intOf]; omega
          · have hd : decide ((m.claim : Int) = 0) = false := decide_eq_false (by omega)
            have HB := Lib.hid (box_below wr (.cells #[.int .i64 m.claim, .int .i64 m.mark, .int .i64 m.fr, .bool m.guess, .bool m.flip, .int .u64 m.salt] 41))
            have HN := Lib.hid (heap_alloc_new wr (.cells #[.int .i64 m.claim, .int .i64 m.mark, .int .i64 m.fr, .bool m.guess, .bool m.flip, .int .u64 m.salt] 41))
            have sB : (wr.alloc (.cells #[.int .i64 m.claim, .int .i64 m.mark, .int .i64 m.fr, .bool m.guess, .bool m.flip, .int .u64 m.salt] 41)).heap.size = wr.heap.size + 1 := by simp
            go_upto_region 13 with fail
            generalize (wr.alloc (.cells #[.int .i64 m.claim, .int .i64 m.mark, .int .i64 m.fr, .bool m.guess, .bool m.flip, .int .u64 m.salt] 41)) = wa at *
            have a0 := cell_of_row wa wr.heap.size 0 _ _ _ HN.out
            have a1 := cell_of_row wa wr.heap.size 1 _ _ _ HN.out
            have a2 := cell_of_row wa wr.heap.size 2 _ _ _ HN.out
            have a3 := cell_of_row wa wr.heap.size 3 _ _ _ HN.out
            have a4 := cell_of_row wa wr.heap.size 4 _ _ _ HN.out
            have a5 := cell_of_row wa wr.heap.size 5 _ _ _ HN.out
            have SA := Lib.hid (S.out.below HB.out)
            have K1 := Lib.hid (gam_frame g k m (some ⟨bb, off, none⟩) c vv bT BT wa W1 GO.out hm.out SA.out.u ⟨N, nc, C, cc, SA.out.tb⟩)
            have FD := Lib.hid (frameD_ok k vv GO.out hm.out h0)
            clear c0 c1 c2 c3 c4 c5
            go_wp2_with fail
            refine K1.out.mono ?_
            rintro e wf ⟨a, rfl, ia, ra, bf⟩
            have K2 := Lib.hid (gam_enc wf a _ ra ia FD.out)
            clear K1 ra ia a0 a1 a2 a3 a4 a5
            go_wp2_with fail
            refine K2.out.mono ?_
            rintro e we ⟨A', c', rfl, re, be⟩
            have sf := bf.size
            have se := be.size
            have BE := Lib.hid (bf.trans (be.mono sf))
            have SE := Lib.hid (SA.out.below BE.out)
            have AE : Hid (AlC (fun x => (x < w2.heap.size ∨ u4.ownBlock = some x ∨ u5.ownBlock = some x) ∨ x = wr.heap.size) w2.heap.size q s gs we) := Lib.hid (((S.out.al.grow HB.out).below BE.out).sub (fun x hx h => h.imp_right (fun e => ⟨by omega, by omega⟩)))
            have ME := Lib.hid ((BE.out.block _ (lt_of_block HN.out)).trans HN.out)
            have U8E := Lib.hid (putAck_u8 FD.out.g1 FD.out.g2 FD.out.p1 FD.out.p2 FD.out.l1 FD.out.l2)
            have HLm := Lib.hid (PlS.lim PK.out SE.out)
            have HVR := Lib.hid (fun x e => (S.out.ov.lt x e).2)
            have HMR := Lib.hid (fun x e => (S.out.om.lt x e).2)
            have K3 := Lib.hid (alc_take _ _ _ s gs we A' c' (putAckP (frameD g k m vv)) 0 AE.out (fun x hx => hx.elim (HLm.out x) (fun e => by omega)) re U8E.out.1 (by have := U8E.out.2; omega) (by unfold isU64; omega))
            clear K2 bf be S SA HB HN re
            go_wp2_with fail
            (with_reducible refine K3.out.mono ?_)
            rintro e wt ⟨a2, rfl, -, -, AT, ct⟩
            have ST := Lib.hid (PlS.took PK.out SE.out ct (fun x hx hn => hn (.inl hx)) (AT.sub (fun x hx h => .inl h)))
            have MT := Lib.hid (ct.blk ME.out (fun hn => hn (.inr rfl)))
            have hkd := take_kind gs s (putAckP (frameD g k m vv)) 0
            have HE2 : Hid (out ++ (((gs.take s (putAckP (frameD g k m vv)) 0).v, m) :: (if (gs.take s (putAckP (frameD g k m vv)) 0).v.kind = 3 then [] else playN g k (g.moves.drop (j + 1)) (foldV vv (gs.take s (putAckP (frameD g k m vv)) 0).v.kind) (gs.take s (putAckP (frameD g k m vv)) 0).s (gs.take s (putAckP (frameD g k m vv)) 0).g)) = playedN g k 0) := Lib.hid (by have h := HE.out; unfold playN at h; rw [if_neg h0] at h; exact h)
            clear K3 AE ME U8E HLm AT ct SE BE FD HE
            have sct := ST.out.sz
            generalize (gs.take s (putAckP (frameD g k m vv)) 0) = tk at *
            obtain ⟨g', s', v, ad⟩ := tk
            obtain ⟨kd, why, pn, ch⟩ := v
            unfold Vd.val Ak.val Ak.cells
            simp only at ST HE2 hkd ⊢
            generalize a2.sp.length = n2 at *
            have BV := Lib.hid ((box_below wt (.cells #[.int .i64 kd, .int .i64 why, .int .u64 pn, .bool ch] 43)).trans ((box_below (wt.alloc (.cells #[.int .i64 kd, .int .i64 why, .int .u64 pn, .bool ch] 43)) (.cells #[.slice a2.A n2 a2.c, .slice a2.B a2.mm.length a2.d, .int .u64 a2.tr, .int .u64 a2.xo, .bool a2.od] 74)).mono (by simp)))
            have VT := Lib.hid (((box_below (wt.alloc (.cells #[.int .i64 kd, .int .i64 why, .int .u64 pn, .bool ch] 43)) (.cells #[.slice a2.A n2 a2.c, .slice a2.B a2.mm.length a2.d, .int .u64 a2.tr, .int .u64 a2.xo, .bool a2.od] 74)).block wt.heap.size (by simp)).trans (heap_alloc_new wt (.cells #[.int .i64 kd, .int .i64 why, .int .u64 pn, .bool ch] 43)))
            have sV : Hid (((wt.alloc (.cells #[.int .i64 kd, .int .i64 why, .int .u64 pn, .bool ch] 43)).alloc (.cells #[.slice a2.A n2 a2.c, .slice a2.B a2.mm.length a2.d, .int .u64 a2.tr, .int .u64 a2.xo, .bool a2.od] 74)).heap.size = wt.heap.size + 2) := Lib.hid (by simp)
            go_upto_region 15 with fail
            generalize ((wt.alloc (.cells #[.int .i64 kd, .int .i64 why, .int .u64 pn, .bool ch] 43)).alloc (.cells #[.slice a2.A n2 a2.c, .slice a2.B a2.mm.length a2.d, .int .u64 a2.tr, .int .u64 a2.xo, .bool a2.od] 74)) = wv at *
            have SV := Lib.hid (ST.out.below BV.out)
            have MV := Lib.hid ((BV.out.block _ (lt_of_block MT.out)).trans MT.out)
            have lbM := lt_of_block MT.out
            have HOV := Lib.hid SV.out.ov
            have HOM := Lib.hid SV.out.om
            have HNE := Lib.hid SV.out.ne
            have HVL := Lib.hid (fun x e => (HOV.out.lt x e).2)
            have HVT := Lib.hid (fun x e => (ST.out.ov.lt x e).2)
            have HMT := Lib.hid (fun x e => (ST.out.om.lt x e).2)
            have gB : Hid (∀ W, Chg (fun x => u4.ownBlock = some x ∨ u5.ownBlock = some x) wv W → W.cell? ⟨wt.heap.size, 0, none⟩ = some (.int .i64 kd) ∧ W.cell? ⟨wt.heap.size, 1, none⟩ = some (.int .i64 why) ∧ W.cell? ⟨wt.heap.size, 2, none⟩ = some (.int .u64 pn) ∧ W.cell? ⟨wt.heap.size, 3, none⟩ = some (.bool ch) ∧ W.cell? ⟨wr.heap.size, 0, none⟩ = some (.int .i64 m.claim) ∧ W.cell? ⟨wr.heap.size, 1, none⟩ = some (.int .i64 m.mark) ∧ W.cell? ⟨wr.heap.size, 2, none⟩ = some (.int .i64 m.fr) ∧ W.cell? ⟨wr.heap.size, 3, none⟩ = some (.bool m.guess) ∧ W.cell? ⟨wr.heap.size, 4, none⟩ = some (.bool m.flip) ∧ W.cell? ⟨wr.heap.size, 5, none⟩ = some (.int .u64 m.salt)) := Lib.hid (fun W q => by
              have h1 := q.blk VT.out (fun e => e.elim (fun e => by have := HVT.out _ e; omega) (fun e => by have := HMT.out _ e; omega))
              have h2 := q.blk MV.out (fun e => e.elim (fun e => by have := HVR.out _ e; omega) (fun e => by have := HMR.out _ e; omega))
              exact ⟨cell_of_row W _ 0 _ _ _ h1, cell_of_row W _ 1 _ _ _ h1, cell_of_row W _ 2 _ _ _ h1, cell_of_row W _ 3 _ _ _ h1, cell_of_row W _ 0 _ _ _ h2, cell_of_row W _ 1 _ _ _ h2, cell_of_row W _ 2 _ _ _ h2, cell_of_row W _ 3 _ _ _ h2, cell_of_row W _ 4 _ _ _ h2, cell_of_row W _ 5 _ _ _ h2⟩)
            obtain ⟨iV, hiV, vz0, vz1, vz2⟩ := info_parts infoVd3
            obtain ⟨iM, hiM, mz0, mz1, mz2⟩ := info_parts infoMv3
            have ol8 : out.length ≤ 8 := by omega
            go_cut [4, 5] (fun s4 s5 wx => Hid (App2 w5.heap.size 43 41 4 6 wv u4 u5 s4 s5 (out.length + 1) (out.length + 1) (Vds (out.map (·.1)) ++ [.int .i64 kd, .int .i64 why, .int .u64 pn, .bool ch]) (Mvs (out.map (·.2)) ++ [.int .i64 m.claim, .int .i64 m.mark, .int .i64 m.fr, .bool m.guess, .bool m.flip, .int .u64 m.salt]) wx))
            case first =>
              obtain ⟨x0, x1, x2, x3, y0, y1, y2, y3, y4, y5⟩ := gB.out wv (Chg.refl _ _)
              go_region_held3 (fun W => W.cell? ⟨wt.heap.size, 0, none⟩ = some (.int .i64 kd) ∧ W.cell? ⟨wt.heap.size, 1, none⟩ = some (.int .i64 why) ∧ W.cell? ⟨wt.heap.size, 2, none⟩ = some (.int .u64 pn) ∧ W.cell? ⟨wt.heap.size, 3, none⟩ = some (.bool ch) ∧ W.cell? ⟨wr.heap.size, 0, none⟩ = some (.int .i64 m.claim) ∧ W.cell? ⟨wr.heap.size, 1, none⟩ = some (.int .i64 m.mark) ∧ W.cell? ⟨wr.heap.size, 2, none⟩ = some (.int .i64 m.fr) ∧ W.cell? ⟨wr.heap.size, 3, none⟩ = some (.bool m.guess) ∧ W.cell? ⟨wr.heap.size, 4, none⟩ = some (.bool m.flip) ∧ W.cell? ⟨wr.heap.size, 5, none⟩ = some (.int .u64 m.salt))
                (first | ((refine gB.out _ ?_); (repeat (first | (with_reducible exact Chg.refl _ _) | (with_reducible exact cV) | (with_reducible exact cM) | (with_reducible refine Chg.alloc ?_ _) | (with_reducible refine Chg.drew ?_))); done))
                (first
                  | (refine step_append_rd _ (by rfl) (.tmp 72) (.tmp 74) 32 (by rfl) w5.heap.size 43 iV _ 4 32 Tryz.underlying32 hiV vz0 vz1 vz2 rfl (by omega) u4 out.length (Vds (out.map (·.1))) (by rfl) (own_bel HOV.out (by (repeat (first | (with_reducible exact Below.refl _ _) | ((with_reducible refine bel_box ?_ ?_); focus (first | exact Nat.le_refl _ | (simp; done) | omega | (simp; omega))) | (with_reducible refine Below.drew ?_))))) _ 1 1 [.int .i64 kd, .int .i64 why, .int .u64 pn, .bool ch] (by rfl) (rd_lit (by first | exact heap_alloc_new _ _ | exact lit_at (by simp) | exact ((box_below _ _).block _ (by simp)).trans (heap_alloc_new _ _)) rfl rfl) (by simp [Value.oneCell']) (by unfold maxLen; omega) (by omega) (by have := sV.out; simp; omega) ?_; intro v6 wv6 ho6 hg6 hv6; have bV := grown_of (B := wv.heap.size) (W0 := wv) hg6 (by (repeat (first | (with_reducible exact Below.refl _ _) | ((with_reducible refine bel_box ?_ ?_); focus (first | exact Nat.le_refl _ | (simp; done) | omega | (simp; omega))) | (with_reducible refine Below.drew ?_)))); have cV : Chg (fun x => u4.ownBlock = some x ∨ u5.ownBlock = some x) wv wv6 := (chg_below bV).grown hg6 (fun x h => .inl (.inl h)); have oM := own_chg (own_bel HOM.out bV) (grown_ch hg6) (fun x hx e => HNE.out x e hx))
                  | (refine step_append_rd _ (by rfl) (.tmp 76) (.tmp 78) 22 (by rfl) w5.heap.size 41 iM _ 6 40 Tryz.underlying22 hiM mz0 mz1 mz2 rfl (by omega) u5 out.length (Mvs (out.map (·.2))) (by rfl) (own_bel oM (by (repeat (first | (with_reducible exact Below.refl _ _) | ((with_reducible refine bel_box ?_ ?_); focus (first | exact Nat.le_refl _ | (simp; done) | omega | (simp; omega))) | (with_reducible refine Below.drew ?_))))) _ 1 1 [.int .i64 m.claim, .int .i64 m.mark, .int .i64 m.fr, .bool m.guess, .bool m.flip, .int .u64 m.salt] (by rfl) (rd_lit (by first | exact heap_alloc_new _ _ | exact lit_at (by simp) | exact (hg6.block _ (by simp) (fun e => by have := HVL.out _ e.symm; first | omega | (simp at this; done) | (simp at this; omega))).trans (lit_at (by simp)) | exact (hg6.block _ (by simp; omega) (fun e => by have := HVL.out _ e.symm; first | omega | (simp at this; done) | (simp at this; omega))).trans (((box_below _ _).block _ (by simp)).trans (heap_alloc_new _ _)) | exact (hg6.block _ (by simp) (fun e => by have := HVL.out _ e.symm; first | omega | (simp at this; done) | (simp at this; omega))).trans (((box_below _ _).block _ (by simp)).trans (heap_alloc_new _ _))) rfl rfl) (by simp [Value.oneCell']) (by unfold maxLen; omega) (by omega) (by have := sV.out; have := bV.size; have := hg6.size; simp at *; omega) ?_; intro v7 wv7 ho7 hg7 hv7; have bM := grown_of (B := wv6.heap.size) (W0 := wv6) hg7 (by (repeat (first | (with_reducible exact Below.refl _ _) | ((with_reducible refine bel_box ?_ ?_); focus (first | exact Nat.le_refl _ | (simp; done) | omega | (simp; omega))) | (with_reducible refine Below.drew ?_)))); have cM : Chg (fun x => u4.ownBlock = some x ∨ u5.ownBlock = some x) wv wv7 := (cV.step (chg_below (F := fun _ => False) bM) (fun _ _ h => h.elim)).grown hg7 (fun x h => .inl (.inr h))))
              all_goals
                go_wp2_with fail
                go_meet
                exact Lib.hid (App2.of HOV.out HOM.out HNE.out bV ho6 hg6 hv6 bM ho7 hg7 hv7)
            case rest =>
              have SW := Lib.hid (PlS.app (v := ⟨kd, why, pn, ch⟩) (m := m) PK.out SV.out hcut.out)
              have VW := Lib.hid (hcut.out.chg.blk VT.out (fun e => e.elim (fun e => by have := HVT.out _ e; omega) (fun e => by have := HMT.out _ e; omega)))
              clear gB HOV HOM HNE HVL HVT HMT MV VT SV hcut BV ST MT
              have x0 := cell_of_row wc wt.heap.size 0 _ _ _ VW.out
              by_cases h3 : kd = 3
              · subst h3
                go_wp2_with fail
                go_ret2
                exact played_end SW.out (by have h := HE2.out; rw [if_pos trivial] at h; exact h)
              · have hd : (kd == 3) = false := by simpa using h3
                have hw : IntKind.u64.wrap kd = kd := IntWalk.u64_in _ (by omega)
                have K9 := Lib.hid (tab_see3 wc kd SW.out.tb SW.out.u (by unfold isU64; omega))
                go_wp2_with fail
                (with_reducible refine K9.out.mono ?_)
                rintro e wz ⟨rfl, tz, cz⟩
                have SZ := Lib.hid (PlS.see PK.out SW.out tz cz)
                clear K9 tz cz SW
                go_wp2_with fail
                go_roundw
                case rel => exact ⟨j + 1, _, _, _, _, by omega, by go_num, by simp; omega, Lib.hid (by have h := HE2.out; rw [if_neg h3] at h; rw [List.append_assoc]; exact h), SZ⟩
                case measure => simp [intOf]; omega
        · obtain rfl : j = g.moves.length := by omega
          go_wp2_with fail
          go_ret2
          exact played_end S.out (by have h := HE.out; rw [List.drop_length] at h; unfold playN at h; rw [List.append_nil] at h; exact h)

end Go.Proofs.YtpfmhkkglaghgaaGreat

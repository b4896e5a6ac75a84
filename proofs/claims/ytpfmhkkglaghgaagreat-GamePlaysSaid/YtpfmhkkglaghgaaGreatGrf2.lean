/-
  Walks of the game's references: a draw that is played. · The reference's play: single statements. · The reference's play: the exclusive or and the parity of a frame.
-/
import Derived.Test.YtpfmhkkglaghgaaGreatGrf1
namespace Go.Proofs.YtpfmhkkglaghgaaGreat
set_option linter.unusedSimpArgs false
set_option linter.unusedVariables false
set_option linter.unnecessarySimpa false
open Go.RowKit

/-- The moves, one by one, each told by its place. -/
def playJ (g : Gm) (k : Nat) : List Mv → Nat → Int → LS → GS → List (Vd × Nat)
  | [], _, _, _, _ => []
  | m :: ms, j, v, s, q =>
    if m.claim = 0 then playJ g k ms (j + 1) v s q
    else
      let o := q.take s (putAckP (frameD g k m v)) 0
      (o.v, j) :: (if o.v.kind = 3 then [] else playJ g k ms (j + 1) (foldV v o.v.kind) o.s o.g)
def playedJ (g : Gm) (k : Nat) : List (Vd × Nat) := playJ g k g.moves 0 (viewTo g k g.n) (ledTo g k g.n) (GS.new 0 1)
def mv0 : Mv := ⟨0, 0, 0, false, false, 0⟩
theorem playJ_N (g : Gm) (k : Nat) : ∀ (ms : List Mv) (j : Nat) (v : Int) (s : LS) (q : GS), g.moves.drop j = ms →
    (playJ g k ms j v s q).map (fun x => (x.1, g.moves.getD x.2 mv0)) = playN g k ms v s q ∧ ∀ x ∈ playJ g k ms j v s q, x.2 < g.moves.length := by
  intro ms
  induction ms with
  | nil => intro j v s q _; exact ⟨rfl, fun x h => by cases h⟩
  | cons m ms ih =>
    intro j v s q hd
    have hj : j < g.moves.length := Decidable.byContradiction fun h => by rw [List.drop_of_length_le (by omega)] at hd; cases hd
    have hd' := List.drop_eq_getElem_cons hj
    rw [hd] at hd'
    injection hd' with h1 h2
    have hg : g.moves.getD j mv0 = m := by rw [h1]; simp [hj]
    unfold playJ playN
    split
    · exact ih (j + 1) v s q h2.symm
    · simp only
      refine ⟨?_, fun x hx => ?_⟩
      · rw [List.map_cons, hg]
        congr 1
        split
        · rfl
        · exact (ih (j + 1) _ _ _ h2.symm).1
      · rcases List.mem_cons.1 hx with rfl | hx
        · exact hj
        · split at hx
          · cases hx
          · exact (ih (j + 1) _ _ _ h2.symm).2 x hx
theorem playedJ_N {g : Gm} (hg : g.ok) (k : Nat) : (playedJ g k).map (fun x => (x.1, g.moves.getD x.2 mv0)) = playedN g k 0 ∧ (∀ x ∈ playedJ g k, x.2 < g.moves.length) ∧ (playedJ g k).length = (playedN g k 0).length ∧ (playedJ g k).map (·.1) = (playedN g k 0).map (·.1) := by
  obtain ⟨h1, h2⟩ := playJ_N g k g.moves 0 (viewTo g k g.n) (ledTo g k g.n) (GS.new 0 1) rfl
  have e : playedN g k 1 = playedN g k 0 := by rw [playedS g k 1 hg, playedS g k 0 hg]
  have h1 : (playedJ g k).map (fun x => (x.1, g.moves.getD x.2 mv0)) = playedN g k 0 := by rw [← e]; exact h1
  refine ⟨h1, h2, by rw [← h1, List.length_map], by rw [← h1, List.map_map]; rfl⟩
def Ixs (l : List Nat) : List Value := l.map (fun (j : Nat) => Value.int .i64 (j : Int))

/-- The nonces and the coins told so far. -/
def nsV (g : Gm) (k m j : Nat) : Nat := if j < m then nonN g.b k j else 0
def csV (g : Gm) (k m j : Nat) : Bool := decide (j < m) && coinN g.b k j
def nsRow (g : Gm) (k m : Nat) : Array Value := #[.int .u64 (nsV g k m 0), .int .u64 (nsV g k m 1), .int .u64 (nsV g k m 2), .int .u64 (nsV g k m 3)]
def csRow (g : Gm) (k m : Nat) : Array Value := #[.bool (csV g k m 0), .bool (csV g k m 1), .bool (csV g k m 2), .bool (csV g k m 3)]
theorem nsRow_get (g : Gm) (k m : Nat) {j : Nat} (hj : j < 4) : (nsRow g k m)[j]? = some (.int .u64 (nsV g k m j)) := by
  have : j = 0 ∨ j = 1 ∨ j = 2 ∨ j = 3 := by omega
  rcases this with rfl | rfl | rfl | rfl <;> rfl
theorem csRow_get (g : Gm) (k m : Nat) {j : Nat} (hj : j < 4) : (csRow g k m)[j]? = some (.bool (csV g k m j)) := by
  have : j = 0 ∨ j = 1 ∨ j = 2 ∨ j = 3 := by omega
  rcases this with rfl | rfl | rfl | rfl <;> rfl
theorem nsRow_set (g : Gm) (k : Nat) {j : Nat} (hj : j < 4) : (nsRow g k j).setIfInBounds j (.int .u64 (nonN g.b k j)) = nsRow g k (j + 1) := by
  have : j = 0 ∨ j = 1 ∨ j = 2 ∨ j = 3 := by omega
  rcases this with rfl | rfl | rfl | rfl <;> simp [nsRow, nsV]
theorem csRow_set (g : Gm) (k : Nat) {j : Nat} (hj : j < 4) : (csRow g k j).setIfInBounds j (.bool (coinN g.b k j)) = csRow g k (j + 1) := by
  have : j = 0 ∨ j = 1 ∨ j = 2 ∨ j = 3 := by omega
  rcases this with rfl | rfl | rfl | rfl <;> simp [csRow, csV]
theorem nsV_at (g : Gm) (k : Nat) {m j : Nat} (h : j < m) : nsV g k m j = nonN g.b k j := if_pos h
theorem csV_at (g : Gm) (k : Nat) {m j : Nat} (h : j < m) : csV g k m j = coinN g.b k j := by unfold csV; rw [decide_eq_true h, Bool.true_and]

theorem grf_foldQ (v x : Int) (w : World) (n : Nat) : Calls Tryz.prog 34 #[.int .u64 v, .int .u64 x] (w.drewN n) fun e w'' => e = .returned (.int .u64 (foldV v x)) ∧ ∃ m, w'' = w.drewN m :=
  Go.Calls.quiet_of_same ((grf_fold v x (w.drewN n)).mono fun _ _ ⟨h, e⟩ => ⟨h, e.symm⟩)
/-- Where the reference's draw stands. -/
structure PlA (w : World) (g : Gm) (k : Nat) (A : Option Addr) (c : Nat) (X i m : Nat) (W : World) : Prop where
  tg : W.heap[w.heap.size]? = some (.cells #[.int .i64 g.b, .int .i64 g.n, .int .i64 g.came, .int .i64 g.marked, .slice A g.moves.length c] 24 (0, 0))
  tr : W.heap[w.heap.size + 1]? = some (.cells #[.slice none 0 0, .slice none 0 0] 49 (0, 0))
  tn : W.heap[X]? = some (.cells (nsRow g k i) 81 (0, 0))
  tc : W.heap[X + 1]? = some (.cells (csRow g k m) 82 (0, 0))
  bel : Below w.heap.size w W
  lx : w.heap.size + 2 < X
section
variable {w W W' : World} {g : Gm} {k : Nat} {A : Option Addr} {c X i m : Nat}
theorem PlA.chg {F : Nat → Prop} (h : PlA w g k A c X i m W) (q : Chg F W W') (hF : ∀ x, F x → x = w.heap.size + 2 ∨ X + 2 ≤ x) : PlA w g k A c X i m W' := by
  have lx := h.lx
  exact ⟨q.blk h.tg (fun e => by have := hF _ e; omega), q.blk h.tr (fun e => by have := hF _ e; omega), q.blk h.tn (fun e => by have := hF _ e; omega), q.blk h.tc (fun e => by have := hF _ e; omega), h.bel.trans (q.below h.bel.size (fun x hx e => by have := hF _ e; omega)), lx⟩
theorem PlA.below (h : PlA w g k A c X i m W) (q : Below W.heap.size W W') : PlA w g k A c X i m W' := h.chg (chg_below q (F := fun _ => False)) (fun _ e => e.elim)
theorem PlA.setN (h : PlA w g k A c X i m W) (hi : i < 4) : PlA w g k A c X (i + 1) m (W.setCell ⟨X, i, none⟩ (.int .u64 (nonN g.b k i))) := by
  have lx := h.lx
  refine ⟨(heap_setCell_other _ ⟨X, i, none⟩ _ _ (by simp; omega)).trans h.tg, (heap_setCell_other _ ⟨X, i, none⟩ _ _ (by simp; omega)).trans h.tr, ?_, (heap_setCell_other _ ⟨X, i, none⟩ _ _ (by simp)).trans h.tc, h.bel.setCell (by show w.heap.size ≤ X; omega) _, lx⟩
  rw [heap_setCell_same W X i _ _ _ h.tn, nsRow_set g k hi]
theorem PlA.setC (h : PlA w g k A c X i m W) (hm : m < 4) : PlA w g k A c X i (m + 1) (W.setCell ⟨X + 1, m, none⟩ (.bool (coinN g.b k m))) := by
  have lx := h.lx
  refine ⟨(heap_setCell_other _ ⟨X + 1, m, none⟩ _ _ (by simp; omega)).trans h.tg, (heap_setCell_other _ ⟨X + 1, m, none⟩ _ _ (by simp; omega)).trans h.tr, (heap_setCell_other _ ⟨X + 1, m, none⟩ _ _ (by simp)).trans h.tn, ?_, h.bel.setCell (by show w.heap.size ≤ X + 1; omega) _, lx⟩
  rw [heap_setCell_same W (X + 1) m _ _ _ h.tc, csRow_set g k hm]
end
theorem grf_rowN_aux : ∀ s, s < 16 → ∀ n, n < 5 → s < 2 ^ n → rowS s 4 = rowS s n := by decide +kernel
theorem grf_rowN (s n : Nat) (W : World) (hn : n ≤ 4) (hs : s < 2 ^ n) :
    Calls Tryz.prog 36 #[.int .i64 s] W fun e w' => ∃ A c, e = .returned (.slice A (rowS s n).length c) ∧ RdN w' W.heap.size A (rowS s n).length c (Ss (rowS s n)) ∧ Below W.heap.size W w' := by
  have h16 : s < 16 := Nat.lt_of_lt_of_le hs (Nat.pow_le_pow_right (n := 2) (by decide) (j := 4) hn)
  have h := grf_row s W h16
  rw [grf_rowN_aux s h16 n (by omega) hs] at h
  exact h
theorem rowS_four : ∀ s, s < 16 → ∀ n, n < 5 → s < 2 ^ n → rowS s 4 = rowS s n := by decide +kernel
def Bz (q : GS) : Prop := q.b.most = 0 ∧ q.b.all = []
theorem Bz.take {q : GS} (h : Bz q) (s : LS) (f : List Int) (now : Int) : Bz (q.take s f now).g := by
  rcases GS.take_cases q s f now with ⟨-, e⟩ | ⟨-, e⟩ | ⟨-, d, -, ⟨y, -, -, e⟩ | ⟨x, y, z, -, -, -, e⟩ | ⟨x, -, -, e⟩⟩ <;> rw [e]
  · exact h
  · exact h
  · have e : (q.drop (q.b.ask now)).b = (q.b.ask now).1 := rfl
    unfold Bz
    rw [e]
    unfold BS.ask
    rw [if_pos (by rw [h.1]; exact Nat.zero_le _)]
    exact h
  · exact h
  · exact h
/-- What the reference's play keeps clear of. -/
def NJ (w : World) (X P : Nat) (V M : Value) (x : Nat) : Prop := (x < X + 2 ∧ x ≠ w.heap.size + 2) ∨ x = P ∨ V.ownBlock = some x ∨ M.ownBlock = some x
structure PlJ (w : World) (g : Gm) (k : Nat) (A : Option Addr) (c X P base q : Nat) (V M : Value) (lv : List Vd) (li : List Nat) (vv : Int) (s : LS) (gs : GS) (W : World) : Prop where
  a : PlA w g k A c X g.n g.n W
  tp : W.heap[P]? = some (.cells #[V, M] 49 (0, 0))
  ov : W.ownsRow base 43 4 V lv.length (Vds lv)
  om : W.ownsRow base 3 1 M li.length (Ixs li)
  ne : ∀ x, V.ownBlock = some x → M.ownBlock ≠ some x
  al : AlR (NJ w X P V M) (w.heap.size + 2) q s gs W
  u : isU64 vv
  sz : base ≤ W.heap.size
  bz : Bz gs
  xp : X + 2 ≤ P
  pb : P < base
section
variable {w W W' W1 w6 : World} {g : Gm} {k : Nat} {A : Option Addr} {c X P base q : Nat} {V M V' M' : Value} {lv : List Vd} {li : List Nat} {vv : Int} {s : LS} {gs : GS}
theorem PlJ.below (h : PlJ w g k A c X P base q V M lv li vv s gs W) (b : Below W.heap.size W W') : PlJ w g k A c X P base q V M lv li vv s gs W' :=
  ⟨h.a.below b, (b.block _ (lt_of_block h.tp)).trans h.tp, own_bel h.ov b, own_bel h.om b, h.ne, h.al.below b, h.u, Nat.le_trans h.sz b.size, h.bz, h.xp, h.pb⟩
theorem PlJ.lim (h : PlJ w g k A c X P base q V M lv li vv s gs W) : ∀ x, NJ w X P V M x → x < W.heap.size := fun x hx => by
  have h1 := h.pb
  have h2 := h.sz
  have h3 := h.xp
  rcases hx with e | e | e | e
  · omega
  · omega
  · exact (h.ov.lt x e).2
  · exact (h.om.lt x e).2
theorem PlJ.took {s' : LS} {gs' : GS} (h : PlJ w g k A c X P base q V M lv li vv s gs W) (hc : Chg (fun x => ¬ NJ w X P V M x) W W') (al : AlR (NJ w X P V M) (w.heap.size + 2) q s' gs' W') (bz : Bz gs') :
    PlJ w g k A c X P base q V M lv li vv s' gs' W' :=
  ⟨h.a.chg hc (fun x hx => Decidable.byContradiction fun hn => hx (.inl ⟨by omega, by omega⟩)), hc.blk h.tp (fun e => e (.inr (.inl rfl))), own_chg h.ov hc (fun x hx e => e (.inr (.inr (.inl hx)))), own_chg h.om hc (fun x hx e => e (.inr (.inr (.inr hx)))), h.ne, al, h.u, Nat.le_trans h.sz hc.size, bz, h.xp, h.pb⟩
theorem Ixs_app (a b : List Nat) : Ixs (a ++ b) = Ixs a ++ Ixs b := by simp [Ixs]
theorem PlJ.appV {v : Vd} (h : PlJ w g k A c X P base q V M lv li vv s gs W) (b1 : Below W.heap.size W W1) (o6 : w6.ownsRow base 43 4 V' (lv.length + 1) (Vds lv ++ v.vals)) (g6 : W1.grownBy w6 V.ownBlock) (k6 : V'.ownBlock = V.ownBlock ∨ V'.ownBlock = some W1.heap.size) :
    PlJ w g k A c X P base q V' M (lv ++ [v]) li vv s gs (w6.setCell ⟨P, 0, none⟩ V') := by
  have xp := h.xp
  have pb := h.pb
  have s1 := b1.size
  have hP := lt_of_block h.tp
  have c6 : Chg (fun j => V.ownBlock = some j ∨ j = P) W (w6.setCell ⟨P, 0, none⟩ V') := ((chg_below b1).grown g6 (fun j e => .inl (.inl e))).setCell (p := ⟨P, 0, none⟩) (.inl (.inr rfl)) _
  have vb : ∀ j, V.ownBlock = some j → base ≤ j := fun j e => (h.ov.lt j e).1
  refine ⟨h.a.chg c6 (fun x e => .inr (e.elim (fun e => by have := vb x e; omega) (fun e => by omega))), ?_, ?_, own_chg h.om c6 (fun x hx e => e.elim (fun e => h.ne x e hx) (fun e => by have := (h.om.lt x hx).1; omega)), fun x hx hx' => ?_, h.al.turn c6 (fun x _ e => e.elim (fun e => .inr (.inr (.inl e))) (fun e => .inr (.inl e))) (fun x e => ?_), h.u, Nat.le_trans h.sz c6.size, h.bz, xp, pb⟩
  · rw [heap_setCell_same w6 P 0 _ _ V' ((g6.block P (by omega) (fun e => by have := vb P e.symm; omega)).trans ((b1.block P hP).trans h.tp))]
    rfl
  · rw [List.length_append, List.length_singleton, Vds_app, show Vds [v] = v.vals by simp [Vds]]
    exact ownsRow_setCell_other o6 (fun e => by have h := (o6.lt _ e).1; simp only at h; omega) _
  · rcases k6 with e | e
    · exact h.ne x (e ▸ hx) hx'
    · rw [e] at hx; injection hx with hx
      have := (h.om.lt x hx').2; omega
  · rcases e with e | e | e | e
    · exact .inl (.inl e)
    · exact .inl (.inr (.inl e))
    · rcases k6 with f | f
      · exact .inl (.inr (.inr (.inl (f ▸ e))))
      · rw [f] at e; injection e with e; exact .inr (by omega)
    · exact .inl (.inr (.inr (.inr e)))
theorem PlJ.appM {i : Nat} (h : PlJ w g k A c X P base q V M lv li vv s gs W) (b1 : Below W.heap.size W W1) (o6 : w6.ownsRow base 3 1 M' (li.length + 1) (Ixs li ++ [.int .i64 i])) (g6 : W1.grownBy w6 M.ownBlock) (k6 : M'.ownBlock = M.ownBlock ∨ M'.ownBlock = some W1.heap.size) :
    PlJ w g k A c X P base q V M' lv (li ++ [i]) vv s gs (w6.setCell ⟨P, 1, none⟩ M') := by
  have xp := h.xp
  have pb := h.pb
  have s1 := b1.size
  have hP := lt_of_block h.tp
  have c6 : Chg (fun j => M.ownBlock = some j ∨ j = P) W (w6.setCell ⟨P, 1, none⟩ M') := ((chg_below b1).grown g6 (fun j e => .inl (.inl e))).setCell (p := ⟨P, 1, none⟩) (.inl (.inr rfl)) _
  have vb : ∀ j, M.ownBlock = some j → base ≤ j := fun j e => (h.om.lt j e).1
  refine ⟨h.a.chg c6 (fun x e => .inr (e.elim (fun e => by have := vb x e; omega) (fun e => by omega))), ?_, own_chg h.ov c6 (fun x hx e => e.elim (fun e => h.ne x hx e) (fun e => by have := (h.ov.lt x hx).1; omega)), ?_, fun x hx hx' => ?_, h.al.turn c6 (fun x _ e => e.elim (fun e => .inr (.inr (.inr e))) (fun e => .inr (.inl e))) (fun x e => ?_), h.u, Nat.le_trans h.sz c6.size, h.bz, xp, pb⟩
  · rw [heap_setCell_same w6 P 1 _ _ M' ((g6.block P (by omega) (fun e => by have := vb P e.symm; omega)).trans ((b1.block P hP).trans h.tp))]
    rfl
  · rw [List.length_append, List.length_singleton, Ixs_app, show Ixs [i] = [.int .i64 i] from rfl]
    exact ownsRow_setCell_other o6 (fun e => by have h := (o6.lt _ e).1; simp only at h; omega) _
  · rcases k6 with e | e
    · exact h.ne x hx (e ▸ hx')
    · rw [e] at hx'; injection hx' with hx'
      have := (h.ov.lt x hx).2; omega
  · rcases e with e | e | e | e
    · exact .inl (.inl e)
    · exact .inl (.inr (.inl e))
    · exact .inl (.inr (.inr (.inl e)))
    · rcases k6 with f | f
      · exact .inl (.inr (.inr (.inr (f ▸ e))))
      · rw [f] at e; injection e with e; exact .inr (by omega)
theorem PlJ.see (h : PlJ w g k A c X P base q V M lv li vv s gs W) (x : Int) : PlJ w g k A c X P base q V M lv li (foldV vv x) s gs W := ⟨h.a, h.tp, h.ov, h.om, h.ne, h.al, foldV_u64 _ _, h.sz, h.bz, h.xp, h.pb⟩
end
/-- An acknowledgment that is being made. -/
structure FrR (wa : World) (sp mm : List Sp) (tr xo : Int) (od : Bool) (ha : Nat) (A1 : Option Addr) (c1 : Nat) (A2 : Option Addr) (c2 : Nat) (W : World) : Prop where
  t : W.heap[ha]? = some (.cells #[.slice A1 sp.length c1, .slice A2 mm.length c2, .int .u64 tr, .int .u64 xo, .bool od] 74 (0, 0))
  r1 : Rd W 2 A1 sp.length c1 (Ss sp)
  r2 : Rd W 2 A2 mm.length c2 (Ss mm)
  bel : Below wa.heap.size wa W
  ge : wa.heap.size ≤ ha
  n1 : ∀ b off, A1 = some ⟨b, off, none⟩ → 0 < sp.length → b ≠ ha
  n2 : ∀ b off, A2 = some ⟨b, off, none⟩ → 0 < mm.length → b ≠ ha
section
variable {wa W W' : World} {sp mm : List Sp} {tr xo : Int} {od : Bool} {ha : Nat} {A1 : Option Addr} {c1 : Nat} {A2 : Option Addr} {c2 : Nat}
theorem FrR.of (h : FrA wa sp mm od ha A1 c1 A2 c2 W) : FrR wa sp mm 0 0 od ha A1 c1 A2 c2 W := ⟨h.t, h.r1, h.r2, h.bel, h.ge, fun b o e n => (h.n1 b o e n).2, fun b o e n => (h.n2 b o e n).2⟩
theorem FrR.below (h : FrR wa sp mm tr xo od ha A1 c1 A2 c2 W) (q : Below W.heap.size W W') : FrR wa sp mm tr xo od ha A1 c1 A2 c2 W' :=
  ⟨(q.block _ (lt_of_block h.t)).trans h.t, h.r1.below q, h.r2.below q, h.bel.trans (q.mono h.bel.size), h.ge, h.n1, h.n2⟩
theorem FrR.set {tr' xo' : Int} {od' : Bool} (h : FrR wa sp mm tr xo od ha A1 c1 A2 c2 W) (i : Nat) (u : Value) (hu : (#[.slice A1 sp.length c1, .slice A2 mm.length c2, .int .u64 tr, .int .u64 xo, .bool od] : Array Value).setIfInBounds i u = #[.slice A1 sp.length c1, .slice A2 mm.length c2, .int .u64 tr', .int .u64 xo', .bool od']) :
    FrR wa sp mm tr' xo' od' ha A1 c1 A2 c2 (W.setCell ⟨ha, i, none⟩ u) := by
  have hC : Chg (fun j => j = ha) W (W.setCell ⟨ha, i, none⟩ u) := (Chg.refl (fun j => j = ha) W).setCell (p := ⟨ha, i, none⟩) (.inl rfl) _
  have ge := h.ge
  refine ⟨?_, h.r1.chg hC (fun j off e hn e' => h.n1 j off e hn e'), h.r2.chg hC (fun j off e hn e' => h.n2 j off e hn e'), h.bel.trans (hC.below h.bel.size (fun j hj e => by omega)), ge, h.n1, h.n2⟩
  rw [← hu]
  exact heap_setCell_same W ha i _ _ u h.t
theorem FrR.set2 (h : FrR wa sp mm tr xo od ha A1 c1 A2 c2 W) (x : Int) : FrR wa sp mm x xo od ha A1 c1 A2 c2 (W.setCell ⟨ha, 2, none⟩ (.int .u64 x)) := h.set 2 _ rfl
theorem FrR.set3 (h : FrR wa sp mm tr xo od ha A1 c1 A2 c2 W) (x : Int) : FrR wa sp mm tr x od ha A1 c1 A2 c2 (W.setCell ⟨ha, 3, none⟩ (.int .u64 x)) := h.set 3 _ rfl
theorem FrR.set4 (h : FrR wa sp mm tr xo od ha A1 c1 A2 c2 W) (x : Bool) : FrR wa sp mm tr xo x ha A1 c1 A2 c2 (W.setCell ⟨ha, 4, none⟩ (.bool x)) := h.set 4 _ rfl
end

/-- A statement of a code, by what it is. -/
def pickCode (p : Code → Bool) : Code → Option Code
  | .loop c => if p (.loop c) then some (.loop c) else pickCode p c
  | .seq a b => match pickCode p a with
    | some c => some c
    | none => pickCode p b
  | .block i c => if p (.block i c) then some (.block i c) else pickCode p c
  | .scope c => pickCode p c
  | .cond t a b => if p (.cond t a b) then some (.cond t a b) else match pickCode p a with
    | some c => some c
    | none => pickCode p b
  | .region i o b => if p (.region i o b) then some (.region i o b) else none
  | _ => none
def isReg (n : Nat) : Code → Bool
  | .region i _ _ => i == n
  | _ => false
def isIf (t : Nat) : Code → Bool
  | .cond (.tmp x) _ _ => x == t
  | _ => false
def isBlk (n : Nat) : Code → Bool
  | .block i _ => i == n
  | _ => false
def MvAt (W : World) (b : Nat) (m : Mv) : Prop := W.heap[b]? = some (.cells #[.int .i64 m.claim, .int .i64 m.mark, .int .i64 m.fr, .bool m.guess, .bool m.flip, .int .u64 m.salt] 41 (0, 0))
def GmAt (W : World) (b : Nat) (g : Gm) (A : Option Addr) (c : Nat) : Prop := W.heap[b]? = some (.cells #[.int .i64 g.b, .int .i64 g.n, .int .i64 g.came, .int .i64 g.marked, .slice A g.moves.length c] 24 (0, 0))

end Go.Proofs.YtpfmhkkglaghgaaGreat

namespace Go.Proofs.YtpfmhkkglaghgaaGreat
set_option linter.unusedSimpArgs false
set_option linter.unusedVariables false
set_option linter.unnecessarySimpa false
open Go.RowKit

noncomputable def playT29Code : Code := (Tryz.f19.body.bind (pickCode (isReg 29))).getD .skip
set_option maxHeartbeats 64000000 in
set_option maxRecDepth 1000000 in
theorem playT29 {u0 u1 u2 u3 u4 u5 u6 u7 u8 u9 u10 u11 u12 u13 u14 u15 u17 u18 u19 u20 u21 u22 u23 u24 u25 u26 u27 u28 u29 u30 u31 u32 u33 u34 u35 u36 u37 u38 u39 u40 u41 u42 u43 u44 u45 u46 u47 u48 u49 u50 u51 u52 u53 u54 u55 u56 u57 u58 u59 u60 u61 u62 u63 u64 u65 u66 u67 u68 u69 u70 u71 u72 u73 u74 u75 u76 u77 u78 u79 u80 u81 u82 u83 u84 u85 u86 u87 u88 u89 u90 u91 u92 u93 u94 u95 u96 u97 u98 u99 u100 u101 u102 u103 u104 u105 u106 u107 u108 u109 u110 u111 u112 u113 u114 u115 u116 u117 u118 u119 u120 u121 u122 u123 u124 u125 u126 u127 u128 u129 u130 u131 u132 u133 u134 u135 u136 u137 u138 u139 u140 u141 u142 u143 u144 u145 u146 u147 u148 u149 u150 u151 u152 u153 u154 u155 u156 u157 u158 u159 u160 u161 u162 u163 u164 u165 u166 u167 u168 u169 u170 u171 u172 u173 u174 u175 u176 u177 u178 u179 u180 u181 u182 u183 u184 u185 u186 u187 u188 u189 u190 u191 u192 u193 u194 u195 u196 u197 u198 u199 u200 u201 u202 u203 u204 u205 u206 u207 u208 u209 u210 u211 u212 u213 u214 u215 u216 u217 u218 u219 u220 u221 u222 u223 u224 u225 : Value} {m : Mv} {n Bm : Nat} {Q : Exit → Act → World → Prop} {wr : World}
    (HN : Hid (MvAt wr Bm m)) (n4 : n ≤ 4) (hmc : m.claim < 2 ^ n) (hmk : m.mark < 2 ^ n)
    (hQ : Hid (∀ (ha : Nat) (A1 : Option Addr) (c1 : Nat) (A2 : Option Addr) (c2 : Nat) (x107 x108 x109 x110 x111 x112 x113 x114 x115 : Value) (wx : World), Hid (FrR wr (rowS m.claim n) (rowS m.mark n) 0 0 m.flip ha A1 c1 A2 c2 wx) → Q .normal ⟨#[u0, u1, u2, u3, u4, u5, u6, u7, u8, u9, u10, u11, u12, u13, u14, u15, .pointer (some ⟨Bm, 0, none⟩), .pointer (some ⟨ha, 0, none⟩), u18, u19, u20, u21, u22, u23, u24, u25, u26, u27, u28, u29, u30, u31, u32, u33, u34, u35, u36, u37, u38, u39, u40, u41, u42, u43, u44, u45, u46, u47, u48, u49, u50, u51, u52, u53, u54, u55, u56, u57, u58, u59, u60, u61, u62, u63, u64, u65, u66, u67, u68, u69, u70, u71, u72, u73, u74, u75, u76, u77, u78, u79, u80, u81, u82, u83, u84, u85, u86, u87, u88, u89, u90, u91, u92, u93, u94, u95, u96, u97, u98, u99, u100, u101, u102, u103, u104, u105, u106, x107, x108, x109, x110, x111, x112, x113, x114, x115, u116, u117, u118, u119, u120, u121, u122, u123, u124, u125, u126, u127, u128, u129, u130, u131, u132, u133, u134, u135, u136, u137, u138, u139, u140, u141, u142, u143, u144, u145, u146, u147, u148, u149, u150, u151, u152, u153, u154, u155, u156, u157, u158, u159, u160, u161, u162, u163, u164, u165, u166, u167, u168, u169, u170, u171, u172, u173, u174, u175, u176, u177, u178, u179, u180, u181, u182, u183, u184, u185, u186, u187, u188, u189, u190, u191, u192, u193, u194, u195, u196, u197, u198, u199, u200, u201, u202, u203, u204, u205, u206, u207, u208, u209, u210, u211, u212, u213, u214, u215, u216, u217, u218, u219, u220, u221, u222, u223, u224, u225], []⟩ wx)) :
    Code.wp Tryz.prog playT29Code Q ⟨#[u0, u1, u2, u3, u4, u5, u6, u7, u8, u9, u10, u11, u12, u13, u14, u15, .pointer (some ⟨Bm, 0, none⟩), u17, u18, u19, u20, u21, u22, u23, u24, u25, u26, u27, u28, u29, u30, u31, u32, u33, u34, u35, u36, u37, u38, u39, u40, u41, u42, u43, u44, u45, u46, u47, u48, u49, u50, u51, u52, u53, u54, u55, u56, u57, u58, u59, u60, u61, u62, u63, u64, u65, u66, u67, u68, u69, u70, u71, u72, u73, u74, u75, u76, u77, u78, u79, u80, u81, u82, u83, u84, u85, u86, u87, u88, u89, u90, u91, u92, u93, u94, u95, u96, u97, u98, u99, u100, u101, u102, u103, u104, u105, u106, u107, u108, u109, u110, u111, u112, u113, u114, u115, u116, u117, u118, u119, u120, u121, u122, u123, u124, u125, u126, u127, u128, u129, u130, u131, u132, u133, u134, u135, u136, u137, u138, u139, u140, u141, u142, u143, u144, u145, u146, u147, u148, u149, u150, u151, u152, u153, u154, u155, u156, u157, u158, u159, u160, u161, u162, u163, u164, u165, u166, u167, u168, u169, u170, u171, u172, u173, u174, u175, u176, u177, u178, u179, u180, u181, u182, u183, u184, u185, u186, u187, u188, u189, u190, u191, u192, u193, u194, u195, u196, u197, u198, u199, u200, u201, u202, u203, u204, u205, u206, u207, u208, u209, u210, u211, u212, u213, u214, u215, u216, u217, u218, u219, u220, u221, u222, u223, u224, u225], []⟩ wr := by
  conv => arg 2; whnf
  have hBm := lt_of_block HN.out
  have y0 : wr.cell? ⟨Bm, 0, none⟩ = some (.int .i64 m.claim) := cell_of_row wr Bm 0 _ _ _ HN.out
  have y1 : wr.cell? ⟨Bm, 1, none⟩ = some (.int .i64 m.mark) := cell_of_row wr Bm 1 _ _ _ HN.out
  have y4 : wr.cell? ⟨Bm, 4, none⟩ = some (.bool m.flip) := cell_of_row wr Bm 4 _ _ _ HN.out
  have gB := Lib.hid (fun (W : World) (q : Below wr.heap.size wr W) => (⟨(q.cell (block_lt_of_cell y0)).trans y0, (q.cell (block_lt_of_cell y1)).trans y1, (q.cell (block_lt_of_cell y4)).trans y4⟩ : W.cell? ⟨Bm, 0, none⟩ = some (.int .i64 m.claim) ∧ W.cell? ⟨Bm, 1, none⟩ = some (.int .i64 m.mark) ∧ W.cell? ⟨Bm, 4, none⟩ = some (.bool m.flip)))
  have KR1 := Lib.hid (fun W => grf_rowN m.claim n W n4 hmc)
  have KR2 := Lib.hid (fun W => grf_rowN m.mark n W n4 hmk)
  go_region_held3 (fun W => W.cell? ⟨Bm, 0, none⟩ = some (.int .i64 m.claim) ∧ W.cell? ⟨Bm, 1, none⟩ = some (.int .i64 m.mark) ∧ W.cell? ⟨Bm, 4, none⟩ = some (.bool m.flip))
    (first | ((refine gB.out _ ?_); (repeat (first | (with_reducible exact Below.refl _ _) | (with_reducible exact bB1) | (with_reducible exact bA1) | ((with_reducible refine bel_box ?_ ?_); focus (first | exact Nat.le_refl _ | (simp; done) | exact bA1.size | exact bB1.size | omega | (simp; omega) | (have := bA1.size; simp; omega))) | ((with_reducible refine bel_set ?_ ?_); focus (first | exact Nat.le_refl _ | exact bA1.size | exact bB1.size | omega | (simp; omega))) | (with_reducible refine Below.drew ?_))); done))
    (first
      | (go_at_call 36; (with_reducible refine Calls.mono (KR1.out _) ?_); rintro e vA ⟨A1, c1, rfl, rA, bA⟩; have bA1 : Below wr.heap.size wr vA := Below.trans (by (repeat (first | (with_reducible exact Below.refl _ _) | (with_reducible exact bB1) | (with_reducible exact bA1) | ((with_reducible refine bel_box ?_ ?_); focus (first | exact Nat.le_refl _ | (simp; done) | exact bA1.size | exact bB1.size | omega | (simp; omega) | (have := bA1.size; simp; omega))) | (with_reducible refine Below.drew ?_)))) (bA.mono (by first | exact Nat.le_refl _ | (simp; done) | (simp; omega))))
      | (go_at_call 36; (with_reducible refine Calls.mono (KR2.out _) ?_); rintro e vB ⟨A2, c2, rfl, rB, bB⟩; have bB1 : Below wr.heap.size wr vB := Below.trans (by (repeat (first | (with_reducible exact Below.refl _ _) | (with_reducible exact bB1) | (with_reducible exact bA1) | ((with_reducible refine bel_box ?_ ?_); focus (first | exact Nat.le_refl _ | (simp; done) | exact bA1.size | exact bB1.size | omega | (simp; omega) | (have := bA1.size; simp; omega))) | (with_reducible refine Below.drew ?_)))) (bB.mono (by first | exact bA1.size | (have := bA1.size; simp; omega))); (try (have hx : vB.heap[vA.heap.size]? = some (.cells #[.slice none 0 0, .slice none 0 0, .int .u64 0, .int .u64 0, .bool false] 74 (0, 0)) := (bB.block _ (by simp)).trans (heap_alloc_new vA _); have hq := zAk_cells hx; obtain ⟨⟨za0, za1, za2, za3, za4⟩, ⟨ya0, ya1, ya2, ya3, ya4⟩, la⟩ := hq)); (try (have hx0 : vA.heap[wr.heap.size]? = some (.cells #[.slice none 0 0, .slice none 0 0, .int .u64 0, .int .u64 0, .bool false] 74 (0, 0)) := (bA.block _ (by simp)).trans (heap_alloc_new wr.drew _); have hx := (bB.block _ (lt_of_block hx0)).trans hx0; have hq := zAk_cells hx; obtain ⟨⟨za0, za1, za2, za3, za4⟩, ⟨ya0, ya1, ya2, ya3, ya4⟩, la⟩ := hq))))
  · go_wp2_with fail
    refine hQ.out _ A1 c1 A2 c2 _ _ _ _ _ _ _ _ _ _ ?_
    exact Lib.hid (FrR.of (FrA.last rA rB bB (Nat.le_refl _) bA1.size bB1))
  · go_wp2_with fail
    have hx := (bB.block _ (by simp)).trans (heap_alloc_new vA (.cells #[.slice none 0 0, .slice none 0 0, .int .u64 0, .int .u64 0, .bool false] 74))
    refine hQ.out _ A1 c1 A2 c2 _ _ _ _ _ _ _ _ _ _ ?_
    exact Lib.hid (FrR.of (FrA.fill hx rfl rA rB ((box_below vA _).trans (bB.mono (by simp))) (Nat.le_refl _) (by simp) (.inr (Nat.le_refl _)) bA1.size bB1))
  · go_wp2_with fail
    have hx0 := (bA.block _ (by simp)).trans (heap_alloc_new wr.drew (.cells #[.slice none 0 0, .slice none 0 0, .int .u64 0, .int .u64 0, .bool false] 74))
    have hx := (bB.block _ (lt_of_block hx0)).trans hx0
    refine hQ.out _ A1 c1 A2 c2 _ _ _ _ _ _ _ _ _ _ ?_
    exact Lib.hid (FrR.of (FrA.fill hx rfl rA rB bB (by simp) (by have := bA.size; simp at this; show wr.heap.size < vA.heap.size; omega) (.inl (by simp)) (Nat.le_refl _) bB1))

noncomputable def playT32Code : Code := (Tryz.f19.body.bind (pickCode (isIf 130))).getD .skip
set_option maxHeartbeats 64000000 in
set_option maxRecDepth 1000000 in
theorem playT32 {u0 u1 u3 u4 u5 u6 u7 u8 u9 u11 u12 u13 u14 u15 u18 u19 u20 u21 u22 u23 u24 u25 u26 u27 u28 u29 u30 u31 u32 u33 u34 u35 u36 u37 u38 u39 u40 u41 u42 u43 u44 u45 u46 u47 u48 u49 u50 u51 u52 u53 u54 u55 u56 u57 u58 u59 u60 u61 u62 u63 u64 u65 u66 u67 u68 u69 u70 u71 u72 u73 u74 u75 u76 u77 u78 u79 u80 u81 u82 u83 u84 u85 u86 u87 u88 u89 u90 u91 u92 u93 u94 u95 u96 u97 u98 u99 u100 u101 u102 u103 u104 u105 u106 u107 u108 u109 u110 u111 u112 u113 u114 u115 u116 u117 u118 u119 u120 u121 u122 u123 u124 u125 u126 u127 u128 u129 u131 u132 u133 u134 u135 u136 u137 u138 u139 u140 u141 u142 u143 u144 u145 u146 u147 u148 u149 u150 u151 u152 u153 u154 u155 u156 u157 u158 u159 u160 u161 u162 u163 u164 u165 u166 u167 u168 u169 u170 u171 u172 u173 u174 u175 u176 u177 u178 u179 u180 u181 u182 u183 u184 u185 u186 u187 u188 u189 u190 u191 u192 u193 u194 u195 u196 u197 u198 u199 u200 u201 u202 u203 u204 u205 u206 u207 u208 u209 u210 u211 u212 u213 u214 u215 u216 u217 u218 u219 u220 u221 u222 u223 u224 u225 : Value} {m : Mv} {g : Gm} {A : Option Addr} {c Bm G ha t0 : Nat} {bx od : Bool} {vv : Int} {wa : World} {sp mm : List Sp} {A1 : Option Addr} {c1 : Nat} {A2 : Option Addr} {c2 : Nat} {Q : Exit → Act → World → Prop} {wr : World}
    (HN : Hid (MvAt wr Bm m)) (HG : Hid (GmAt wr G g A c)) (FR : Hid (FrR wa sp mm (t0 : Nat) 0 od ha A1 c1 A2 c2 wr)) (b1 : 1 ≤ g.b) (b6 : g.b ≤ 6)
    (hQ : Hid (∀  (x131 x132 x133 x134 x135 x136 x137 x138 x139 : Value) (wx : World), Hid (FrR wa sp mm ((if bx = true then lowN (mixZ (xor64 m.salt vv)) g.b else t0 : Nat) : Int) 0 od ha A1 c1 A2 c2 wx) → Q .normal ⟨#[u0, u1, .pointer (some ⟨G, 0, none⟩), u3, u4, u5, u6, u7, u8, u9, .int .u64 vv, u11, u12, u13, u14, u15, .pointer (some ⟨Bm, 0, none⟩), .pointer (some ⟨ha, 0, none⟩), u18, u19, u20, u21, u22, u23, u24, u25, u26, u27, u28, u29, u30, u31, u32, u33, u34, u35, u36, u37, u38, u39, u40, u41, u42, u43, u44, u45, u46, u47, u48, u49, u50, u51, u52, u53, u54, u55, u56, u57, u58, u59, u60, u61, u62, u63, u64, u65, u66, u67, u68, u69, u70, u71, u72, u73, u74, u75, u76, u77, u78, u79, u80, u81, u82, u83, u84, u85, u86, u87, u88, u89, u90, u91, u92, u93, u94, u95, u96, u97, u98, u99, u100, u101, u102, u103, u104, u105, u106, u107, u108, u109, u110, u111, u112, u113, u114, u115, u116, u117, u118, u119, u120, u121, u122, u123, u124, u125, u126, u127, u128, u129, .bool bx, x131, x132, x133, x134, x135, x136, x137, x138, x139, u140, u141, u142, u143, u144, u145, u146, u147, u148, u149, u150, u151, u152, u153, u154, u155, u156, u157, u158, u159, u160, u161, u162, u163, u164, u165, u166, u167, u168, u169, u170, u171, u172, u173, u174, u175, u176, u177, u178, u179, u180, u181, u182, u183, u184, u185, u186, u187, u188, u189, u190, u191, u192, u193, u194, u195, u196, u197, u198, u199, u200, u201, u202, u203, u204, u205, u206, u207, u208, u209, u210, u211, u212, u213, u214, u215, u216, u217, u218, u219, u220, u221, u222, u223, u224, u225], []⟩ wx)) :
    Code.wp Tryz.prog playT32Code Q ⟨#[u0, u1, .pointer (some ⟨G, 0, none⟩), u3, u4, u5, u6, u7, u8, u9, .int .u64 vv, u11, u12, u13, u14, u15, .pointer (some ⟨Bm, 0, none⟩), .pointer (some ⟨ha, 0, none⟩), u18, u19, u20, u21, u22, u23, u24, u25, u26, u27, u28, u29, u30, u31, u32, u33, u34, u35, u36, u37, u38, u39, u40, u41, u42, u43, u44, u45, u46, u47, u48, u49, u50, u51, u52, u53, u54, u55, u56, u57, u58, u59, u60, u61, u62, u63, u64, u65, u66, u67, u68, u69, u70, u71, u72, u73, u74, u75, u76, u77, u78, u79, u80, u81, u82, u83, u84, u85, u86, u87, u88, u89, u90, u91, u92, u93, u94, u95, u96, u97, u98, u99, u100, u101, u102, u103, u104, u105, u106, u107, u108, u109, u110, u111, u112, u113, u114, u115, u116, u117, u118, u119, u120, u121, u122, u123, u124, u125, u126, u127, u128, u129, .bool bx, u131, u132, u133, u134, u135, u136, u137, u138, u139, u140, u141, u142, u143, u144, u145, u146, u147, u148, u149, u150, u151, u152, u153, u154, u155, u156, u157, u158, u159, u160, u161, u162, u163, u164, u165, u166, u167, u168, u169, u170, u171, u172, u173, u174, u175, u176, u177, u178, u179, u180, u181, u182, u183, u184, u185, u186, u187, u188, u189, u190, u191, u192, u193, u194, u195, u196, u197, u198, u199, u200, u201, u202, u203, u204, u205, u206, u207, u208, u209, u210, u211, u212, u213, u214, u215, u216, u217, u218, u219, u220, u221, u222, u223, u224, u225], []⟩ wr := by
  conv => arg 2; whnf
  have ys : wr.cell? ⟨Bm, 5, none⟩ = some (.int .u64 m.salt) := cell_of_row wr Bm 5 _ _ _ HN.out
  have yb : wr.cell? ⟨G, 0, none⟩ = some (.int .i64 g.b) := cell_of_row wr G 0 _ _ _ HG.out
  have q1 := mixF_cell (F := fun _ => False) ys id
  have q2 := mixF_cell (F := fun _ => False) yb id
  have D0 := Lib.hid (FR.out.below (Below.refl _ _).drew)
  clear ys yb
  cases bx with
  | false =>
    go_wp2_with fail
    refine hQ.out  _ _ _ _ _ _ _ _ _ _ ?_
    simpa using FR
  | true =>
    have K5 := Lib.hid (grf_mix (xor64 m.salt vv) wr.drew (isU64_wrap _))
    have K6 := Lib.hid (grf_low (mixZ (xor64 m.salt vv)) g.b wr.drew (mixZ_u64 _) b1 b6)
    have LN : Hid (lowN (mixZ (xor64 m.salt vv)) g.b = (mixZ (xor64 m.salt vv)).toNat % 2 ^ g.b) := Lib.hid rfl
    generalize mixZ (xor64 m.salt vv) = zz at *
    obtain ⟨nn, hnn⟩ : ∃ nn, nn = zz.toNat % 2 ^ g.b := ⟨_, rfl⟩
    rw [← hnn] at K6 LN
    clear hnn
    unfold xor64 at K5
    go_upto_region 32 with fail
    refine wp_region_chgE (fun _ => False) (by kernel_rfl) (by kernel_rfl) ?_
    repeat (refine wpMixE_seg 1 _ _ rfl ?_; simp only [List.take_succ_cons, List.take_zero, List.drop_succ_cons, List.drop_zero]; go_big_quiet_step (fail); refine wpQuiet_nil ?_)
    generalize hwd : wr.drew = wd at *
    have Q0 : Hid (Chg (fun _ => False) wr wd) := Lib.hid (by rw [← hwd]; exact (Chg.refl _ _).drew)
    clear hwd
    refine wpMixE_bar rfl (by rfl) ?_
    go_wp2_with fail
    (with_reducible refine K5.out.mono ?_)
    rintro e w' ⟨rfl, rfl⟩
    go_wp2
    refine mixGo_in Q0.out ?_
    repeat (refine wpMixE_seg 1 _ _ rfl ?_; simp only [List.take_succ_cons, List.take_zero, List.drop_succ_cons, List.drop_zero]; go_big_quiet_step (fail); refine wpQuiet_nil ?_)
    refine wpMixE_bar rfl (by rfl) ?_
    go_wp2_with fail
    (with_reducible refine K6.out.mono ?_)
    rintro e w' ⟨rfl, rfl⟩
    go_wp2
    refine mixGo_in Q0.out ?_
    repeat (refine wpMixE_seg 1 _ _ rfl ?_; simp only [List.take_succ_cons, List.take_zero, List.drop_succ_cons, List.drop_zero]; go_big_quiet_step (fail); refine wpQuiet_nil ?_)
    have c2' := cell_of_row wd ha 2 _ _ _ D0.out.t
    have fc2 := frozen_of_row wd ha 2 _ _ D0.out.t
    refine wpMixE_bar rfl (by rfl) ?_
    go_wp2
    refine mixGo_fin ?_
    go_wp2_with fail
    refine hQ.out  _ _ _ _ _ _ _ _ _ _ ?_
    rw [if_pos trivial, LN.out]
    exact Lib.hid (D0.out.set2 (nn : Int))

noncomputable def playT34Code : Code := (Tryz.f19.body.bind (pickCode (isIf 149))).getD .skip
set_option maxHeartbeats 64000000 in
set_option maxRecDepth 1000000 in
theorem playT34 {u0 u1 u3 u4 u5 u6 u7 u8 u9 u11 u12 u13 u14 u15 u18 u19 u20 u21 u22 u23 u24 u25 u26 u27 u28 u29 u30 u31 u32 u33 u34 u35 u36 u37 u38 u39 u40 u41 u42 u43 u44 u45 u46 u47 u48 u49 u50 u51 u52 u53 u54 u55 u56 u57 u58 u59 u60 u61 u62 u63 u64 u65 u66 u67 u68 u69 u70 u71 u72 u73 u74 u75 u76 u77 u78 u79 u80 u81 u82 u83 u84 u85 u86 u87 u88 u89 u90 u91 u92 u93 u94 u95 u96 u97 u98 u99 u100 u101 u102 u103 u104 u105 u106 u107 u108 u109 u110 u111 u112 u113 u114 u115 u116 u117 u118 u119 u120 u121 u122 u123 u124 u125 u126 u127 u128 u129 u130 u131 u132 u133 u134 u135 u136 u137 u138 u139 u140 u141 u142 u143 u144 u145 u146 u147 u148 u150 u151 u152 u153 u154 u155 u156 u157 u158 u159 u160 u161 u162 u163 u164 u165 u166 u167 u168 u169 u170 u171 u172 u173 u174 u175 u176 u177 u178 u179 u180 u181 u182 u183 u184 u185 u186 u187 u188 u189 u190 u191 u192 u193 u194 u195 u196 u197 u198 u199 u200 u201 u202 u203 u204 u205 u206 u207 u208 u209 u210 u211 u212 u213 u214 u215 u216 u217 u218 u219 u220 u221 u222 u223 u224 u225 : Value} {m : Mv} {g : Gm} {A : Option Addr} {c Bm G ha t0 : Nat} {bx od : Bool} {vv : Int} {wa : World} {sp mm : List Sp} {A1 : Option Addr} {c1 : Nat} {A2 : Option Addr} {c2 : Nat} {Q : Exit → Act → World → Prop} {wr : World}
    (HN : Hid (MvAt wr Bm m)) (HG : Hid (GmAt wr G g A c)) (FR : Hid (FrR wa sp mm (t0 : Nat) 0 od ha A1 c1 A2 c2 wr)) (b1 : 1 ≤ g.b) (b6 : g.b ≤ 6)
    (hQ : Hid (∀  (x150 x151 x152 x153 x154 x155 x156 x157 x158 x159 : Value) (wx : World), Hid (FrR wa sp mm (t0 : Nat) ((if bx = true then lowN (mixZ (xor64 (IntKind.u64.wrap (m.salt + 1)) vv)) g.b else 0 : Nat) : Int) od ha A1 c1 A2 c2 wx) → Q .normal ⟨#[u0, u1, .pointer (some ⟨G, 0, none⟩), u3, u4, u5, u6, u7, u8, u9, .int .u64 vv, u11, u12, u13, u14, u15, .pointer (some ⟨Bm, 0, none⟩), .pointer (some ⟨ha, 0, none⟩), u18, u19, u20, u21, u22, u23, u24, u25, u26, u27, u28, u29, u30, u31, u32, u33, u34, u35, u36, u37, u38, u39, u40, u41, u42, u43, u44, u45, u46, u47, u48, u49, u50, u51, u52, u53, u54, u55, u56, u57, u58, u59, u60, u61, u62, u63, u64, u65, u66, u67, u68, u69, u70, u71, u72, u73, u74, u75, u76, u77, u78, u79, u80, u81, u82, u83, u84, u85, u86, u87, u88, u89, u90, u91, u92, u93, u94, u95, u96, u97, u98, u99, u100, u101, u102, u103, u104, u105, u106, u107, u108, u109, u110, u111, u112, u113, u114, u115, u116, u117, u118, u119, u120, u121, u122, u123, u124, u125, u126, u127, u128, u129, u130, u131, u132, u133, u134, u135, u136, u137, u138, u139, u140, u141, u142, u143, u144, u145, u146, u147, u148, .bool bx, x150, x151, x152, x153, x154, x155, x156, x157, x158, x159, u160, u161, u162, u163, u164, u165, u166, u167, u168, u169, u170, u171, u172, u173, u174, u175, u176, u177, u178, u179, u180, u181, u182, u183, u184, u185, u186, u187, u188, u189, u190, u191, u192, u193, u194, u195, u196, u197, u198, u199, u200, u201, u202, u203, u204, u205, u206, u207, u208, u209, u210, u211, u212, u213, u214, u215, u216, u217, u218, u219, u220, u221, u222, u223, u224, u225], []⟩ wx)) :
    Code.wp Tryz.prog playT34Code Q ⟨#[u0, u1, .pointer (some ⟨G, 0, none⟩), u3, u4, u5, u6, u7, u8, u9, .int .u64 vv, u11, u12, u13, u14, u15, .pointer (some ⟨Bm, 0, none⟩), .pointer (some ⟨ha, 0, none⟩), u18, u19, u20, u21, u22, u23, u24, u25, u26, u27, u28, u29, u30, u31, u32, u33, u34, u35, u36, u37, u38, u39, u40, u41, u42, u43, u44, u45, u46, u47, u48, u49, u50, u51, u52, u53, u54, u55, u56, u57, u58, u59, u60, u61, u62, u63, u64, u65, u66, u67, u68, u69, u70, u71, u72, u73, u74, u75, u76, u77, u78, u79, u80, u81, u82, u83, u84, u85, u86, u87, u88, u89, u90, u91, u92, u93, u94, u95, u96, u97, u98, u99, u100, u101, u102, u103, u104, u105, u106, u107, u108, u109, u110, u111, u112, u113, u114, u115, u116, u117, u118, u119, u120, u121, u122, u123, u124, u125, u126, u127, u128, u129, u130, u131, u132, u133, u134, u135, u136, u137, u138, u139, u140, u141, u142, u143, u144, u145, u146, u147, u148, .bool bx, u150, u151, u152, u153, u154, u155, u156, u157, u158, u159, u160, u161, u162, u163, u164, u165, u166, u167, u168, u169, u170, u171, u172, u173, u174, u175, u176, u177, u178, u179, u180, u181, u182, u183, u184, u185, u186, u187, u188, u189, u190, u191, u192, u193, u194, u195, u196, u197, u198, u199, u200, u201, u202, u203, u204, u205, u206, u207, u208, u209, u210, u211, u212, u213, u214, u215, u216, u217, u218, u219, u220, u221, u222, u223, u224, u225], []⟩ wr := by
  conv => arg 2; whnf
  have ys : wr.cell? ⟨Bm, 5, none⟩ = some (.int .u64 m.salt) := cell_of_row wr Bm 5 _ _ _ HN.out
  have yb : wr.cell? ⟨G, 0, none⟩ = some (.int .i64 g.b) := cell_of_row wr G 0 _ _ _ HG.out
  have q1 := mixF_cell (F := fun _ => False) ys id
  have q2 := mixF_cell (F := fun _ => False) yb id
  have D0 := Lib.hid (FR.out.below (Below.refl _ _).drew)
  clear ys yb
  cases bx with
  | false =>
    go_wp2_with fail
    refine hQ.out  _ _ _ _ _ _ _ _ _ _ _ ?_
    simpa using FR
  | true =>
    have K5 := Lib.hid (grf_mix (xor64 (IntKind.u64.wrap (m.salt + 1)) vv) wr.drew (isU64_wrap _))
    have K6 := Lib.hid (grf_low (mixZ (xor64 (IntKind.u64.wrap (m.salt + 1)) vv)) g.b wr.drew (mixZ_u64 _) b1 b6)
    have LN : Hid (lowN (mixZ (xor64 (IntKind.u64.wrap (m.salt + 1)) vv)) g.b = (mixZ (xor64 (IntKind.u64.wrap (m.salt + 1)) vv)).toNat % 2 ^ g.b) := Lib.hid rfl
    generalize mixZ (xor64 (IntKind.u64.wrap (m.salt + 1)) vv) = zz at *
    obtain ⟨nn, hnn⟩ : ∃ nn, nn = zz.toNat % 2 ^ g.b := ⟨_, rfl⟩
    rw [← hnn] at K6 LN
    clear hnn
    unfold xor64 at K5
    go_upto_region 34 with fail
    refine wp_region_chgE (fun _ => False) (by kernel_rfl) (by kernel_rfl) ?_
    repeat (refine wpMixE_seg 1 _ _ rfl ?_; simp only [List.take_succ_cons, List.take_zero, List.drop_succ_cons, List.drop_zero]; go_big_quiet_step (fail); refine wpQuiet_nil ?_)
    generalize hwd : wr.drew = wd at *
    have Q0 : Hid (Chg (fun _ => False) wr wd) := Lib.hid (by rw [← hwd]; exact (Chg.refl _ _).drew)
    clear hwd
    refine wpMixE_bar rfl (by rfl) ?_
    go_wp2_with fail
    (with_reducible refine K5.out.mono ?_)
    rintro e w' ⟨rfl, rfl⟩
    go_wp2
    refine mixGo_in Q0.out ?_
    repeat (refine wpMixE_seg 1 _ _ rfl ?_; simp only [List.take_succ_cons, List.take_zero, List.drop_succ_cons, List.drop_zero]; go_big_quiet_step (fail); refine wpQuiet_nil ?_)
    refine wpMixE_bar rfl (by rfl) ?_
    go_wp2_with fail
    (with_reducible refine K6.out.mono ?_)
    rintro e w' ⟨rfl, rfl⟩
    go_wp2
    refine mixGo_in Q0.out ?_
    repeat (refine wpMixE_seg 1 _ _ rfl ?_; simp only [List.take_succ_cons, List.take_zero, List.drop_succ_cons, List.drop_zero]; go_big_quiet_step (fail); refine wpQuiet_nil ?_)
    have c2' := cell_of_row wd ha 3 _ _ _ D0.out.t
    have fc2 := frozen_of_row wd ha 3 _ _ D0.out.t
    refine wpMixE_bar rfl (by rfl) ?_
    go_wp2
    refine mixGo_fin ?_
    go_wp2_with fail
    refine hQ.out  _ _ _ _ _ _ _ _ _ _ _ ?_
    rw [if_pos trivial, LN.out]
    exact Lib.hid (D0.out.set3 (nn : Int))

end Go.Proofs.YtpfmhkkglaghgaaGreat

namespace Go.Proofs.YtpfmhkkglaghgaaGreat
set_option linter.unusedSimpArgs false
set_option linter.unusedVariables false
set_option linter.unnecessarySimpa false
open Go.RowKit

theorem or_bit16 : ∀ a, a < 16 → ∀ b, b < 16 → ∀ i, i < 4 → (a ||| b).testBit i = (a.testBit i || b.testBit i) := fun a _ b _ i _ => Nat.testBit_or ..
noncomputable def playT4Code : Code := (Tryz.f19.body.bind (pickCode (isBlk 6))).getD .skip
set_option maxHeartbeats 64000000 in
set_option maxRecDepth 1000000 in
theorem playT4 {u0 u1 u3 u4 u5 u8 u9 u10 u11 u12 u13 u14 u15 u19 u20 u21 u22 u23 u24 u25 u26 u27 u28 u29 u30 u31 u32 u33 u34 u35 u36 u37 u38 u39 u40 u41 u42 u43 u44 u45 u46 u47 u48 u49 u50 u51 u52 u53 u54 u55 u56 u57 u58 u59 u60 u61 u62 u63 u64 u65 u66 u67 u68 u69 u70 u71 u72 u73 u74 u75 u76 u77 u78 u79 u80 u81 u82 u83 u84 u85 u86 u87 u88 u89 u90 u91 u92 u93 u94 u95 u96 u97 u98 u99 u100 u101 u102 u103 u104 u105 u106 u107 u108 u109 u110 u111 u112 u113 u114 u115 u116 u117 u118 u119 u120 u121 u122 u123 u124 u125 u126 u127 u128 u129 u130 u131 u132 u133 u134 u135 u136 u137 u138 u139 u140 u141 u142 u143 u144 u145 u146 u147 u148 u149 u150 u151 u152 u153 u154 u155 u156 u157 u158 u159 u160 u161 u162 u163 u164 u165 u166 u167 u168 u169 u170 u171 u172 u173 u174 u175 u176 u177 u178 u179 u180 u181 u182 u183 u184 u185 u186 u187 u188 u189 u190 u191 u192 u193 u194 u195 u196 u197 u198 u199 u200 u201 u202 u203 u204 u205 u206 u207 u208 u209 u210 u211 u212 u213 u214 u215 u216 u217 u218 u219 u220 u221 u222 u223 u224 u225 : Value} {m : Mv} {g : Gm} {A : Option Addr} {c k Bm G X ha tr gx : Nat} {wa : World} {A1 : Option Addr} {c1 : Nat} {A2 : Option Addr} {c2 : Nat} {Q : Exit → Act → World → Prop} {wr : World}
    (HN : Hid (MvAt wa Bm m)) (HG : Hid (GmAt wa G g A c)) (TN : Hid (wa.heap[X]? = some (.cells (nsRow g k g.n) 81 (0, 0)))) (TC : Hid (wa.heap[X + 1]? = some (.cells (csRow g k g.n) 82 (0, 0)))) (FR : Hid (FrR wa (rowS m.claim g.n) (rowS m.mark g.n) (tr : Nat) (gx : Nat) m.flip ha A1 c1 A2 c2 wr)) (GO : Hid g.ok) (hm : Hid (m.ok g.n)) (hgl : gx < 64)
    (hQ : Hid (∀  (x160 x161 x162 x163 x164 x165 x166 x167 x168 x169 x170 x171 x172 x173 x174 x175 x176 x177 x178 x179 x180 x181 x182 x183 x184 x185 x186 x187 x188 x189 x190 x191 x192 x193 x194 x195 x196 x18 : Value) (wx : World), Hid (FrR wa (rowS m.claim g.n) (rowS m.mark g.n) (tr : Nat) ((gx ^^^ xorTo g k m g.n : Nat) : Int) (odTo g k m g.n) ha A1 c1 A2 c2 wx) → Q .normal ⟨#[u0, u1, .pointer (some ⟨G, 0, none⟩), u3, u4, u5, .pointer (some ⟨X, 0, none⟩), .pointer (some ⟨X + 1, 0, none⟩), u8, u9, u10, u11, u12, u13, u14, u15, .pointer (some ⟨Bm, 0, none⟩), .pointer (some ⟨ha, 0, none⟩), x18, u19, u20, u21, u22, u23, u24, u25, u26, u27, u28, u29, u30, u31, u32, u33, u34, u35, u36, u37, u38, u39, u40, u41, u42, u43, u44, u45, u46, u47, u48, u49, u50, u51, u52, u53, u54, u55, u56, u57, u58, u59, u60, u61, u62, u63, u64, u65, u66, u67, u68, u69, u70, u71, u72, u73, u74, u75, u76, u77, u78, u79, u80, u81, u82, u83, u84, u85, u86, u87, u88, u89, u90, u91, u92, u93, u94, u95, u96, u97, u98, u99, u100, u101, u102, u103, u104, u105, u106, u107, u108, u109, u110, u111, u112, u113, u114, u115, u116, u117, u118, u119, u120, u121, u122, u123, u124, u125, u126, u127, u128, u129, u130, u131, u132, u133, u134, u135, u136, u137, u138, u139, u140, u141, u142, u143, u144, u145, u146, u147, u148, u149, u150, u151, u152, u153, u154, u155, u156, u157, u158, u159, x160, x161, x162, x163, x164, x165, x166, x167, x168, x169, x170, x171, x172, x173, x174, x175, x176, x177, x178, x179, x180, x181, x182, x183, x184, x185, x186, x187, x188, x189, x190, x191, x192, x193, x194, x195, x196, u197, u198, u199, u200, u201, u202, u203, u204, u205, u206, u207, u208, u209, u210, u211, u212, u213, u214, u215, u216, u217, u218, u219, u220, u221, u222, u223, u224, u225], []⟩ wx)) :
    Code.wp Tryz.prog playT4Code Q ⟨#[u0, u1, .pointer (some ⟨G, 0, none⟩), u3, u4, u5, .pointer (some ⟨X, 0, none⟩), .pointer (some ⟨X + 1, 0, none⟩), u8, u9, u10, u11, u12, u13, u14, u15, .pointer (some ⟨Bm, 0, none⟩), .pointer (some ⟨ha, 0, none⟩), .int .i64 0, u19, u20, u21, u22, u23, u24, u25, u26, u27, u28, u29, u30, u31, u32, u33, u34, u35, u36, u37, u38, u39, u40, u41, u42, u43, u44, u45, u46, u47, u48, u49, u50, u51, u52, u53, u54, u55, u56, u57, u58, u59, u60, u61, u62, u63, u64, u65, u66, u67, u68, u69, u70, u71, u72, u73, u74, u75, u76, u77, u78, u79, u80, u81, u82, u83, u84, u85, u86, u87, u88, u89, u90, u91, u92, u93, u94, u95, u96, u97, u98, u99, u100, u101, u102, u103, u104, u105, u106, u107, u108, u109, u110, u111, u112, u113, u114, u115, u116, u117, u118, u119, u120, u121, u122, u123, u124, u125, u126, u127, u128, u129, u130, u131, u132, u133, u134, u135, u136, u137, u138, u139, u140, u141, u142, u143, u144, u145, u146, u147, u148, u149, u150, u151, u152, u153, u154, u155, u156, u157, u158, u159, u160, u161, u162, u163, u164, u165, u166, u167, u168, u169, u170, u171, u172, u173, u174, u175, u176, u177, u178, u179, u180, u181, u182, u183, u184, u185, u186, u187, u188, u189, u190, u191, u192, u193, u194, u195, u196, u197, u198, u199, u200, u201, u202, u203, u204, u205, u206, u207, u208, u209, u210, u211, u212, u213, u214, u215, u216, u217, u218, u219, u220, u221, u222, u223, u224, u225], []⟩ wr := by
  conv => arg 2; whnf
  have n4 := GO.out.n4
  have b6 := GO.out.b6
  have p16 : 2 ^ g.n ≤ 16 := Nat.pow_le_pow_right (n := 2) (by decide) (j := 4) n4
  have hca : g.came < 16 := Nat.lt_of_lt_of_le GO.out.came p16
  have hma : g.marked < 16 := Nat.lt_of_le_of_lt (Nat.le_of_testBit GO.out.marked) hca
  have hcl := (hm.out.lt GO.out).1
  have hmk := (hm.out.lt GO.out).2
  clear p16
  have K0 := Lib.hid (fun (W : World) (b : Below wa.heap.size wa W) => (⟨(b.block _ (lt_of_block HN.out)).trans HN.out, (b.block _ (lt_of_block HG.out)).trans HG.out, (b.block _ (lt_of_block TN.out)).trans TN.out, (b.block _ (lt_of_block TC.out)).trans TC.out⟩ : MvAt W Bm m ∧ GmAt W G g A c ∧ W.heap[X]? = some (.cells (nsRow g k g.n) 81 (0, 0)) ∧ W.heap[X + 1]? = some (.cells (csRow g k g.n) 82 (0, 0))))
  clear HN HG TN TC
  go_wp2_with fail
  go_loopw [18] (fun iv wx => ∃ i : Nat, i ≤ g.n ∧ iv = .int .i64 i ∧ Hid (FrR wa (rowS m.claim g.n) (rowS m.mark g.n) (tr : Nat) ((gx ^^^ xorTo g k m i : Nat) : Int) (odTo g k m i) ha A1 c1 A2 c2 wx)) (fun iv _ => g.n - (intOf iv).toNat)
  case atStart => exact ⟨0, Nat.zero_le _, rfl, Lib.hid (by have h := FR.out; rw [show gx ^^^ xorTo g k m 0 = gx from Nat.xor_zero _]; exact h)⟩
  case round =>
    obtain ⟨i, hi, rfl, M⟩ := hrel
    generalize wr = wv at *
    obtain ⟨r1, r2, r3, r4⟩ := K0.out wv M.out.bel
    have hxl : gx ^^^ xorTo g k m i < 64 := Nat.xor_lt_two_pow (n := 6) hgl (xorTo_lt g k m b6 i)
    have XS : Hid (gx ^^^ xorTo g k m (i + 1) = if (m.claim &&& g.came).testBit i then (gx ^^^ xorTo g k m i) ^^^ nonN g.b k i else gx ^^^ xorTo g k m i) := Lib.hid (by have e : xorTo g k m (i + 1) = if (m.claim &&& g.came).testBit i then xorTo g k m i ^^^ nonN g.b k i else xorTo g k m i := rfl; rw [e]; split; exact (Nat.xor_assoc ..).symm; rfl)
    have OS : Hid (odTo g k m (i + 1) = if (m.claim &&& g.came).testBit i && (coinN g.b k i && !g.marked.testBit i && !m.mark.testBit i) then !odTo g k m i else odTo g k m i) := Lib.hid rfl
    have z1 : wv.cell? ⟨G, 1, none⟩ = some (.int .i64 g.n) := cell_of_row wv G 1 _ _ _ r2
    have z2 : wv.cell? ⟨G, 2, none⟩ = some (.int .i64 g.came) := cell_of_row wv G 2 _ _ _ r2
    have z0 : wv.cell? ⟨Bm, 0, none⟩ = some (.int .i64 m.claim) := cell_of_row wv Bm 0 _ _ _ r1
    have hand := and_i64 m.claim hcl g.came hca
    have hcc := and_lt16 m.claim hcl g.came hca
    generalize m.claim &&& g.came = cc0 at *
    by_cases hlt : i < g.n
    · have i4 : i < 4 := by omega
      have f1 : (0 : Int) ≤ i := by omega
      have f2 : (i : Int) < 4 := by omega
      have H1 := Lib.hid (grf_bit cc0 i wv hcc i4)
      obtain ⟨cb, hcb⟩ : ∃ cb, cb = cc0.testBit i := ⟨_, rfl⟩
      rw [← hcb] at XS OS H1
      clear hcb
      cases cb with
      | false =>
        have XS' : Hid (gx ^^^ xorTo g k m (i + 1) = gx ^^^ xorTo g k m i) := Lib.hid (by have h := XS.out; simpa using h)
        have OS' : Hid (odTo g k m (i + 1) = odTo g k m i) := Lib.hid (by have h := OS.out; simpa using h)
        clear XS OS
        go_wp2_with (go_at_call 33; (with_reducible refine H1.out.mono ?_); rintro e w' ⟨rfl, rfl⟩)
        go_roundw
        case rel => exact ⟨i + 1, by omega, by go_num, by rw [XS'.out, OS'.out]; exact M⟩
        case measure => simp [intOf]; omega
      | true =>
        have XS' : Hid (gx ^^^ xorTo g k m (i + 1) = (gx ^^^ xorTo g k m i) ^^^ nonN g.b k i) := Lib.hid (by have h := XS.out; simpa using h)
        have hn64 := nonN_64 b6 k i
        have hxor := xor_u64n hxl hn64
        rw [← XS'.out] at hxor
        clear XS XS'
        generalize hx0 : gx ^^^ xorTo g k m i = x0 at *
        obtain ⟨x1, hx1⟩ : ∃ x1, x1 = gx ^^^ xorTo g k m (i + 1) := ⟨_, rfl⟩
        rw [← hx1] at hxor
        have HX1 := Lib.hid hx1
        clear hx1 hx0
        have z3 : wv.cell? ⟨ha, 3, none⟩ = some (.int .u64 (x0 : Nat)) := cell_of_row wv ha 3 _ _ _ M.out.t
        have zn : wv.cell? ⟨X, i, none⟩ = some (.int .u64 (nonN g.b k i : Nat)) := (cell_of_row wv X i _ _ _ r3).trans (by rw [nsRow_get g k _ i4, nsV_at g k hlt])
        have m3 := mixF_cell (F := fun _ => False) z3 id
        have m5 := mixF_cell (F := fun _ => False) zn id
        have D0 := Lib.hid (M.out.below (Below.refl _ _).drew)
        clear z3 zn r1 r2 r3 r4
        go_upto_region 39 with (go_at_call 33; (with_reducible refine H1.out.mono ?_); rintro e w' ⟨rfl, rfl⟩)
        clear H1 z0 z1 z2 M
        refine wp_region_chgE (fun _ => False) (by kernel_rfl) (by kernel_rfl) ?_
        repeat (refine wpMixE_seg 1 _ _ rfl ?_; simp only [List.take_succ_cons, List.take_zero, List.drop_succ_cons, List.drop_zero]; go_big_quiet_step (fail); refine wpQuiet_nil ?_)
        generalize hwd : wv.drew = wd at *
        clear hwd
        have c3' := cell_of_row wd ha 3 _ _ _ D0.out.t
        have fc3 := frozen_of_row wd ha 3 _ _ D0.out.t
        refine wpMixE_bar rfl (by rfl) ?_
        go_wp2
        refine mixGo_fin ?_
        have D1 := Lib.hid (D0.out.set3 (x1 : Nat))
        clear m3 m5 c3' fc3 D0 hxor hand
        generalize (wd.setCell ⟨ha, 3, none⟩ (.int .u64 (x1 : Nat))) = w9 at *
        obtain ⟨r1, r2, r3, r4⟩ := K0.out w9 D1.out.bel
        have zc : w9.cell? ⟨X + 1, i, none⟩ = some (.bool (coinN g.b k i)) := (cell_of_row w9 (X + 1) i _ _ _ r4).trans (by rw [csRow_get g k _ i4, csV_at g k hlt])
        have y3 : w9.cell? ⟨G, 3, none⟩ = some (.int .i64 g.marked) := cell_of_row w9 G 3 _ _ _ r2
        have y1 : w9.cell? ⟨Bm, 1, none⟩ = some (.int .i64 m.mark) := cell_of_row w9 Bm 1 _ _ _ r1
        have y4 : w9.cell? ⟨ha, 4, none⟩ = some (.bool (odTo g k m i)) := cell_of_row w9 ha 4 _ _ _ D1.out.t
        have fy4 := frozen_of_row w9 ha 4 _ _ D1.out.t
        have hor := or_i64 g.marked hma m.mark hmk
        have G1 := Lib.hid (grf_bit (g.marked ||| m.mark) i w9 (or_lt16 _ hma _ hmk) i4)
        have OB : Hid ((g.marked ||| m.mark).testBit i = (g.marked.testBit i || m.mark.testBit i)) := Lib.hid (Nat.testBit_or ..)
        generalize g.marked ||| m.mark = mo at *
        clear r1 r2 r3 r4
        obtain ⟨ct, hct⟩ : ∃ ct, ct = coinN g.b k i := ⟨_, rfl⟩
        obtain ⟨ob, hob⟩ : ∃ ob, ob = mo.testBit i := ⟨_, rfl⟩
        rw [← hct] at zc
        rw [← hob] at G1
        have OS2 : Hid (odTo g k m (i + 1) = if ct && !ob then !odTo g k m i else odTo g k m i) := Lib.hid (by rw [OS.out, hob, OB.out, ← hct]; cases ct <;> cases g.marked.testBit i <;> cases m.mark.testBit i <;> rfl)
        clear hct hob OS OB
        generalize ho : odTo g k m i = o0 at *
        clear ho
        cases ct with
        | false =>
          have OS' : Hid (odTo g k m (i + 1) = o0) := Lib.hid (by have h := OS2.out; simpa using h)
          clear OS2
          go_wp2
          go_roundw
          case rel => exact ⟨i + 1, by omega, by go_num, by rw [OS'.out, ← HX1.out]; exact D1⟩
          case measure => simp [intOf]; omega
        | true =>
          cases ob with
          | true =>
            have OS' : Hid (odTo g k m (i + 1) = o0) := Lib.hid (by have h := OS2.out; simpa using h)
            clear OS2
            go_wp2_with (go_at_call 33; (with_reducible refine G1.out.mono ?_); rintro e w' ⟨rfl, rfl⟩)
            go_roundw
            case rel => exact ⟨i + 1, by omega, by go_num, by rw [OS'.out, ← HX1.out]; exact D1⟩
            case measure => simp [intOf]; omega
          | false =>
            have OS' : Hid (odTo g k m (i + 1) = !o0) := Lib.hid (by have h := OS2.out; simpa using h)
            have D2 := Lib.hid (D1.out.set4 (!o0))
            clear OS2
            go_wp2_with (go_at_call 33; (with_reducible refine G1.out.mono ?_); rintro e w' ⟨rfl, rfl⟩)
            go_roundw
            case rel => exact ⟨i + 1, by omega, by go_num, by rw [OS'.out, ← HX1.out]; exact D2⟩
            case measure => simp [intOf]; omega
    · obtain rfl : i = g.n := by omega
      go_wp2_with fail
      refine hQ.out  _ _ _ _ _ _ _ _ _ _ _ _ _ _ _ _ _ _ _ _ _ _ _ _ _ _ _ _ _ _ _ _ _ _ _ _ _ _ _ ?_
      exact M

end Go.Proofs.YtpfmhkkglaghgaaGreat

/-
  Walks of package peer: lay.
-/
import Derived.Test.YtkedfipeebjcjaaPee1
import Derived.Test.YtkedfipeebjcjaaSeqE
import Derived.Test.YtkedfipeebjcjaaQueN
namespace Go.Proofs.Ytkedfipeebjcjaa
open Go.Maps
set_option linter.unusedSimpArgs false
set_option linter.unusedVariables false
set_option linter.unnecessarySimpa false
open Go.RowKit

theorem gd_len {L : List Sp} (h : Gd L) : ∀ lo hi : Int, lo ≤ hi + 1 → (∀ s ∈ L, lo ≤ s.1 ∧ s.2 ≤ hi) → (L.length : Int) ≤ hi - lo + 1 := by
  induction L with
  | nil => intro lo hi h1 _; simp; omega
  | cons a r ih =>
    intro lo hi h1 h2
    have ha := h2 a (by simp)
    have hs := (h.1 a (by simp)).1
    have p := (List.pairwise_cons.1 h.2).1
    have := ih h.tail (lo + 1) hi (by omega) (fun s hs2 => by have := p s hs2; have := (h2 s (by simp [hs2])).2; omega)
    simp only [List.length_cons, Int.natCast_add, Int.natCast_one]
    omega
def cutHv (l hv : List Sp) : List Sp := hv.foldl cutP l
theorem cutHv_succ (l hv : List Sp) {k : Nat} (h : k < hv.length) : cutHv l (hv.take (k + 1)) = cutP (cutHv l (hv.take k)) hv[k] := by
  unfold cutHv
  rw [List.take_succ_eq_append_getElem h, List.foldl_append]
  rfl
theorem cutHv_spec (hv : List Sp) (hh : ∀ x ∈ hv, x.1 ≤ x.2) : ∀ l, Gd l → Gd (cutHv l hv) ∧ ∀ n, Mem n (cutHv l hv) ↔ Mem n l ∧ ¬ Mem n hv := by
  induction hv with
  | nil => exact fun l hl => ⟨hl, fun n => by simp [cutHv, Mem]⟩
  | cons x r ih =>
    intro l hl
    have h1 := cut_parts l x hl (hh x (by simp))
    have h2 := ih (fun y hy => hh y (by simp [hy])) (cutP l x) h1.1
    refine ⟨h2.1, fun n => ?_⟩
    show Mem n (cutHv (cutP l x) r) ↔ _
    rw [h2.2, h1.2]
    constructor
    · rintro ⟨⟨a, b⟩, c⟩
      refine ⟨a, ?_⟩
      rintro ⟨s, hs, e⟩
      rcases List.mem_cons.1 hs with hs | hs
      · subst hs; exact b e
      · exact c ⟨s, hs, e⟩
    · rintro ⟨a, b⟩
      exact ⟨⟨a, fun e => b ⟨x, by simp, e⟩⟩, fun ⟨s, hs, e⟩ => b ⟨s, by simp [hs], e⟩⟩
/-- All that a packet's span cut by the row may be. -/
structure CutOk (lo hi : Int) (L : List Sp) : Prop where
  gd : Gd L
  rng : ∀ s ∈ L, lo ≤ s.1 ∧ s.1 ≤ s.2 ∧ s.2 ≤ hi
theorem CutOk.of {lo hi : Int} {hv : List Sp} (h : IsSpan (lo, hi)) (hh : Gd hv) (k : Nat) : CutOk lo hi (cutHv [(lo, hi)] (hv.take k)) := by
  have g1 : Gd [(lo, hi)] := ⟨fun x hx => by rw [List.mem_singleton] at hx; subst hx; exact h, List.pairwise_singleton _ _⟩
  have s := cutHv_spec (hv.take k) (fun x hx => (hh.1 x (List.mem_of_mem_take hx)).1) [(lo, hi)] g1
  refine ⟨s.1, fun x hx => ?_⟩
  have m := Mem_lo s.1 hx
  obtain ⟨y, hy, e1, e2⟩ := ((s.2 x.1).1 m.1).1
  obtain ⟨z, hz, e3, e4⟩ := ((s.2 x.2).1 m.2).1
  rw [List.mem_singleton] at hy hz
  subst hy hz
  exact ⟨e1, (s.1.1 x hx).1, e4⟩
theorem CutOk.u2 {lo hi : Int} {L : List Sp} (h : CutOk lo hi L) (h0 : 0 ≤ lo) : U2s L := gd_u2 h.gd fun s hs => by have := h.rng s hs; omega
theorem CutOk.len {lo hi : Int} {L : List Sp} (h : CutOk lo hi L) (h1 : lo ≤ hi + 1) : (L.length : Int) ≤ hi - lo + 1 := gd_len h.gd lo hi h1 fun s hs => by have := h.rng s hs; omega

theorem infoPc : (Try.prog.info? 82).map (fun i => (i.zero, i.size, i.bytes)) = some (some (.agg #[.int .u64 0, .slice none 0 0]), 2, 32) := by kernel_rfl
/-- A piece more. -/
theorem PeR.grow {w w1 w5 : World} {F M : Nat → Prop} {p : Nat} {q : PQ} {m : PM} {v : Value} {x : Pc} (h : PeR w F M p q m) (hN : ∀ k, w.heap.size ≤ k → F k) (b : Below w.heap.size w w1)
    (hg : w1.grownBy w5 m.v.ownBlock) (ho : w5.ownsRow 0 82 2 v (q.pl.length + 1) (q.pl.flatMap Pc.cells ++ x.cells)) (hv : ∀ k, k < w1.heap.size → m.v.ownBlock ≠ some k → v.ownBlock ≠ some k)
    (hx : Rd w1 1 x.A x.b.length x.c (U8 x.b)) (nx : ∀ b off, x.A = some ⟨b, off, none⟩ → 0 < x.b.length → w.heap.size ≤ b) :
    PeR (w5.setCell ⟨p, 11, none⟩ v) F M p { q with pl := q.pl ++ [x] } { m with v := v } ∧ Chg (fun j => j = p ∨ m.v.ownBlock = some j) w (w5.setCell ⟨p, 11, none⟩ v) := by
  have h1 := h.below b
  have hp := h.lt
  have hs := b.size
  obtain ⟨D, hk1, hk2⟩ := h1.k
  have hkl := hk1.lt
  have hT : w5.heap[p]? = _ := (hg.block p (by omega) (fun e => (h.fo p e.symm).2.1 rfl)).trans h1.t
  have hC : Chg (fun j => j = p) w5 (w5.setCell ⟨p, 11, none⟩ v) := (Chg.refl (fun j => j = p) w5).setCell (p := ⟨p, 11, none⟩) (.inl rfl) _
  have hC5 : Chg (fun j => m.v.ownBlock = some j) w1 w5 := (Chg.refl _ _).grown hg (fun k e => .inl e)
  have hC2 : Chg (fun j => j = p ∨ m.v.ownBlock = some j) w1 (w5.setCell ⟨p, 11, none⟩ v) := (hC5.mono fun k _ e => .inr e).setCell (p := ⟨p, 11, none⟩) (.inl (.inl rfl)) _
  have hvn : ∀ k, k < w1.heap.size → k ≠ p → m.v.ownBlock ≠ some k → v.ownBlock ≠ some k := fun k hk _ h0 => hv k hk h0
  have out : ∀ {A : Option Addr} {n : Nat} {size c : Nat} {xs : List Value}, Outs F M p m A n → Rd w1 size A n c xs → 0 < size → Outs F M p { m with v := v } A n := fun {A n size c xs} g r h0 bb off e hn => by
    have g1 := g bb off e hn
    exact ⟨g1.1, g1.2.1, g1.2.2.1, hv bb (r.lt h0 hn bb off e) g1.2.2.2⟩
  have rd : ∀ {A : Option Addr} {n : Nat} {size c : Nat} {xs : List Value}, Outs F M p m A n → Rd w1 size A n c xs → Rd (w5.setCell ⟨p, 11, none⟩ v) size A n c xs := fun {A n size c xs} g r =>
    r.chg hC2 (fun bb off e hn hh => by have g1 := g bb off e hn; rcases hh with hh | hh; exact g1.2.1 hh; exact g1.2.2.2 hh)
  have ox : Outs F M p m x.A x.b.length := h.outs_new (Nat.le_refl _) hN nx
  refine ⟨⟨?_, rd h1.f1 h1.r1, rd h1.f2 h1.r2, rd h1.f3 h1.r3, ⟨D, map_chg hk1 hC2 (fun e => by rcases e with e | e; exact h.fk.2 e; exact (h.fo _ e).2.2 rfl), hk2⟩, ?_, ?_, h.fp, h.fk, ?_, out h1.f1 h1.r1 (by omega), out h1.f2 h1.r2 (by omega), out h1.f3 h1.r3 (by omega), ?_⟩, ?_⟩
  · simpa using heap_setCell_same w5 p 11 _ _ v hT
  · have e1 : (q.pl ++ [x]).length = q.pl.length + 1 := by simp
    have e2 : (q.pl ++ [x]).flatMap Pc.cells = q.pl.flatMap Pc.cells ++ x.cells := by simp
    show World.ownsRow _ _ _ _ v (q.pl ++ [x]).length ((q.pl ++ [x]).flatMap Pc.cells)
    rw [e1, e2]
    exact own_chg ho hC (fun k hk e => by subst e; exact hv k (by omega) (fun e' => (h.fo k e').2.1 rfl) hk)
  · intro y hy
    rcases List.mem_append.1 hy with hy | hy
    · exact rd (h1.fb y hy) (h1.bd y hy)
    · rw [List.mem_singleton] at hy
      subst hy
      exact rd ox hx
  · intro g hg2
    by_cases hlt : g < w1.heap.size
    · by_cases e : m.v.ownBlock = some g
      · exact h.fo g e
      · exact absurd hg2 (hv g hlt e)
    · exact ⟨hN g (by omega), by omega, by show g ≠ m.kb; omega⟩
  · intro y hy
    rcases List.mem_append.1 hy with hy | hy
    · exact out (h1.fb y hy) (h1.bd y hy) (by omega)
    · rw [List.mem_singleton] at hy
      subst hy
      exact out ox hx (by omega)
  · exact (chg_below b).step hC2 (fun i _ hi => hi)

/-- Where the walk of lay stands. -/
structure LaS (w : World) (d : DatD) (A : Option Addr) (c : Nat) (hi : Int) (W : World) : Prop where
  t0 : W.heap[w.heap.size]? = some (.cells #[.int .u64 d.pn, .int .u64 d.least, .int .u64 d.off, .int .u64 d.nonce, .int .i64 d.ecn, .slice A d.body.length c] 30 (0, 0))
  t1 : W.heap[w.heap.size + 1]? = some (.cells #[.int .u64 d.off, .int .u64 hi] 68 (0, 0))
  bel : Below w.heap.size w W
theorem LaS.size {w : World} {d : DatD} {A : Option Addr} {c : Nat} {hi : Int} {W : World} (h : LaS w d A c hi W) : w.heap.size + 2 ≤ W.heap.size := lt_of_block h.t1
theorem LaS.chg {w : World} {d : DatD} {A : Option Addr} {c : Nat} {hi : Int} {W W' : World} {G : Nat → Prop} (h : LaS w d A c hi W) (hc : Chg G W W') (hG : ∀ k, G k → k < w.heap.size) (hb : Below w.heap.size w W') : LaS w d A c hi W' :=
  ⟨hc.blk h.t0 (fun e => by have := hG _ e; omega), hc.blk h.t1 (fun e => by have := hG _ e; omega), hb⟩
theorem LaS.below {w : World} {d : DatD} {A : Option Addr} {c : Nat} {hi : Int} {W W' : World} (h : LaS w d A c hi W) (b : Below W.heap.size W W') : LaS w d A c hi W' :=
  ⟨(b.block _ (lt_of_block h.t0)).trans h.t0, (b.block _ (lt_of_block h.t1)).trans h.t1, h.bel.trans (b.mono h.bel.size)⟩
theorem LaS.made (w : World) (d : DatD) (A : Option Addr) (c : Nat) (hi : Int) : LaS w d A c hi (((w.alloc (.cells #[.int .u64 d.pn, .int .u64 d.least, .int .u64 d.off, .int .u64 d.nonce, .int .i64 d.ecn, .slice A d.body.length c] 30)).alloc (.cells #[.int .u64 d.off, .int .u64 hi] 68)).alloc (.cells #[.int .u64 d.off, .int .u64 hi] 68)) := by
  have e1 := box_below w (.cells #[.int .u64 d.pn, .int .u64 d.least, .int .u64 d.off, .int .u64 d.nonce, .int .i64 d.ecn, .slice A d.body.length c] 30)
  have e2 := box_below (w.alloc (.cells #[.int .u64 d.pn, .int .u64 d.least, .int .u64 d.off, .int .u64 d.nonce, .int .i64 d.ecn, .slice A d.body.length c] 30)) (.cells #[.int .u64 d.off, .int .u64 hi] 68)
  have n1 := heap_alloc_new w (.cells #[.int .u64 d.pn, .int .u64 d.least, .int .u64 d.off, .int .u64 d.nonce, .int .i64 d.ecn, .slice A d.body.length c] 30)
  have n2 := heap_alloc_new (w.alloc (.cells #[.int .u64 d.pn, .int .u64 d.least, .int .u64 d.off, .int .u64 d.nonce, .int .i64 d.ecn, .slice A d.body.length c] 30)) (.cells #[.int .u64 d.off, .int .u64 hi] 68)
  rw [World.size_alloc] at n2
  have h2 : LaS w d A c hi ((w.alloc (.cells #[.int .u64 d.pn, .int .u64 d.least, .int .u64 d.off, .int .u64 d.nonce, .int .i64 d.ecn, .slice A d.body.length c] 30)).alloc (.cells #[.int .u64 d.off, .int .u64 hi] 68)) :=
    ⟨(e2.block _ (lt_of_block n1)).trans n1, n2, e1.trans (e2.mono e1.size)⟩
  exact h2.below (box_below _ _)

set_option maxHeartbeats 4000000 in
set_option maxRecDepth 100000 in
theorem peer_lay (w : World) (F M : Nat → Prop) (p : Nat) (q : PQ) (m : PM) (d : DatD) (A : Option Addr) (c : Nat) (h : PeR w F M p q m) (hn : ∀ k, w.heap.size ≤ k → F k) (hd : d.Ok) (hr : Rd w 1 A d.body.length c (U8 d.body))
    (hA : ∀ b off, A = some ⟨b, off, none⟩ → 0 < d.body.length → b ≠ p ∧ m.v.ownBlock ≠ some b) (gh : Gd q.hv) (uh : U2s q.hv) (lh : q.hv.length ≤ 1000000) (lp : q.pl.length ≤ 1000000000) :
    Calls Try.prog 30 #[.pointer (some ⟨p, 0, none⟩), .agg (d.cells A d.body.length c)] w fun e w' => e = .returned (.tuple #[]) ∧
      (∃ m' np, PeR w' F M p { q with hv := addP q.hv (d.off, d.off + d.body.length - 1), pl := q.pl ++ np } m' ∧ np.map Pc.pure = (cutHv [(d.off, d.off + d.body.length - 1)] q.hv).map (PS.pieceOf d.off d.body)) ∧ Chg F w w' := by
  obtain ⟨i0, hi0, hz0, hz1, hz2⟩ := info_parts infoPc
  obtain ⟨iB, hiB, bz0, bz1, bz2⟩ := info_parts infoByte
  have o1 := hd.off.1
  have o2 := hd.off.2
  have n1 := hd.len.1
  have n2 := hd.len.2
  have IS : Hid (IsSpan (d.off, d.off + d.body.length - 1)) := Lib.hid ⟨by show d.off ≤ d.off + (d.body.length : Int) - 1; omega, by rw [maxPn_eq]; show d.off + (d.body.length : Int) - 1 ≤ _; omega⟩
  have CO := Lib.hid (CutOk.of IS.out gh)
  have H := Lib.hid h
  have HN := Lib.hid hn
  have HR := Lib.hid hr
  have HA := Lib.hid hA
  have UH := Lib.hid uh
  have GH := Lib.hid gh
  have hcp := hr.cap
  obtain ⟨hi, hhi⟩ : ∃ hi, hi = d.off + (d.body.length : Int) - 1 := ⟨_, rfl⟩
  have w1 : IntKind.u64.wrap (d.body.length : Int) = d.body.length := IntWalk.u64_in _ (by omega)
  have w2 : IntKind.u64.wrap (d.off + (d.body.length : Int)) = d.off + d.body.length := IntWalk.u64_in _ (by omega)
  have w3 : IntKind.u64.wrap (d.off + (d.body.length : Int) - 1) = hi := by rw [hhi]; exact IntWalk.u64_in _ (by omega)
  rw [← hhi] at IS CO ⊢
  have HI := Lib.hid hhi
  have EX : d.cells A d.body.length c = #[.int .u64 d.pn, .int .u64 d.least, .int .u64 d.off, .int .u64 d.nonce, .int .i64 d.ecn, .slice A d.body.length c] := rfl
  rw [EX]
  clear EX h hn hr hA uh gh hd hhi
  go_enter Try.func30, Try.ntmps30
  go_upto_region 3 with fail
  have E1 := box_below w (.cells #[.int .u64 d.pn, .int .u64 d.least, .int .u64 d.off, .int .u64 d.nonce, .int .i64 d.ecn, .slice A d.body.length c] 30)
  have S3 : Hid (LaS w d A c hi (((w.alloc (.cells #[.int .u64 d.pn, .int .u64 d.least, .int .u64 d.off, .int .u64 d.nonce, .int .i64 d.ecn, .slice A d.body.length c] 30)).alloc (.cells #[.int .u64 d.off, .int .u64 hi] 68)).alloc (.cells #[.int .u64 d.off, .int .u64 hi] 68))) := Lib.hid (LaS.made w d A c hi)
  have R3 : Hid (RdN (((w.alloc (.cells #[.int .u64 d.pn, .int .u64 d.least, .int .u64 d.off, .int .u64 d.nonce, .int .i64 d.ecn, .slice A d.body.length c] 30)).alloc (.cells #[.int .u64 d.off, .int .u64 hi] 68)).alloc (.cells #[.int .u64 d.off, .int .u64 hi] 68)) (w.heap.size + 2) (some ⟨w.heap.size + 1 + 1, 0, none⟩) 1 1 (Ss [(d.off, hi)])) := Lib.hid (by
    have := Rd.lit ((w.alloc (.cells #[.int .u64 d.pn, .int .u64 d.least, .int .u64 d.off, .int .u64 d.nonce, .int .i64 d.ecn, .slice A d.body.length c] 30)).alloc (.cells #[.int .u64 d.off, .int .u64 hi] 68)) 2 #[.int .u64 d.off, .int .u64 hi] 68 1 (Ss [(d.off, hi)]) rfl rfl (by unfold maxLen; omega)
    simp only [World.size_alloc] at this
    exact ⟨this, fun b off e hn => by injection e with e; injection e with e1 e2; omega⟩)
  clear E1 w1 w2 w3
  generalize (((w.alloc (.cells #[.int .u64 d.pn, .int .u64 d.least, .int .u64 d.off, .int .u64 d.nonce, .int .i64 d.ecn, .slice A d.body.length c] 30)).alloc (.cells #[.int .u64 d.off, .int .u64 hi] 68)).alloc (.cells #[.int .u64 d.off, .int .u64 hi] 68)) = v3 at *
  obtain ⟨A1, c1, A2, c2, kb, A3, c3, pv⟩ := m
  have H3 := Lib.hid (H.out.below S3.out.bel)
  have t10 := cell_of_row v3 p 10 _ _ _ H3.out.t
  go_wp2_with fail
  clear t10
  go_loopw [5, 28] (fun s5 s28 wr => ∃ (k : Nat) (A5 : Option Addr) (c5 : Nat), k ≤ q.hv.length ∧ s5 = .slice A5 (cutHv [(d.off, hi)] (q.hv.take k)).length c5 ∧ s28 = .int .i64 k ∧ Hid (RdN wr (w.heap.size + 2) A5 (cutHv [(d.off, hi)] (q.hv.take k)).length c5 (Ss (cutHv [(d.off, hi)] (q.hv.take k)))) ∧ Hid (Below v3.heap.size v3 wr))
    (fun _ s28 _ => q.hv.length - (intOf s28).toNat)
  case atStart => exact ⟨0, _, _, Nat.zero_le _, rfl, rfl, R3, Lib.hid (Below.refl _ _)⟩
  case round =>
    obtain ⟨k, A5, c5, hk, rfl, rfl, hR, hB⟩ := hrel
    have hlen : (cutHv [(d.off, hi)] (q.hv.take k)).length ≤ 1500 := by have := (CO.out k).len (by have := HI.out; omega); have := HI.out; omega
    by_cases hlt : k < q.hv.length
    · obtain ⟨b, off, x, y, rfl, He, hc1, hc2, u1, u2, u3, u4⟩ := (H3.out.r3.below hB.out).sp UH.out hlt
      have HE := Lib.hid He
      have hxy := GH.out.1 _ (List.getElem_mem hlt)
      have ISx : Hid (IsSpan (x, y)) := Lib.hid (by rw [← He]; exact hxy)
      have CK := Lib.hid (cut_yes A5 (cutHv [(d.off, hi)] (q.hv.take k)).length c5 (cutHv [(d.off, hi)] (q.hv.take k)) x y (wr.alloc (.cells #[.int .u64 x, .int .u64 y] 68)) (hR.out.rd.below (box_below _ _)) (CO.out k).gd.good ISx.out u1 ((CO.out k).u2 o1) (by omega))
      have Hn : Hid (cutHv [(d.off, hi)] (q.hv.take (k + 1)) = cutP (cutHv [(d.off, hi)] (q.hv.take k)) (x, y)) := Lib.hid (by rw [cutHv_succ _ _ hlt, HE.out])
      have hsz := hR.out.nw
      have hB1 := hB.out.trans ((box_below wr (.cells #[.int .u64 x, .int .u64 y] 68)).mono hB.out.size)
      have HB1 := Lib.hid hB1
      have HS1 : Hid (w.heap.size + 2 ≤ (wr.alloc (.cells #[.int .u64 x, .int .u64 y] 68)).heap.size) := Lib.hid (by have h1 := hB.out.size; have h2 := S3.out.size; rw [World.size_alloc]; omega)
      have hs3 := S3.out.size
      clear He hxy hsz hB1
      go_wp2_with fail
      (with_reducible refine CK.out.mono ?_)
      rintro e w5 ⟨A', c', rfl, hR5, hb5⟩
      go_wp2
      go_roundw
      case rel =>
        refine ⟨k + 1, A', c', by omega, by rw [Hn.out], by go_num, Lib.hid ?_, Lib.hid (HB1.out.trans (hb5.mono HB1.out.size))⟩
        rw [Hn.out]
        exact ⟨hR5.rd, fun b off e hn => Nat.le_trans HS1.out (hR5.nw b off e hn)⟩
      case measure => simp [intOf]; omega
    · obtain rfl : k = q.hv.length := by omega
      rw [List.take_length] at hR hlen ⊢
      have hC := CO.out q.hv.length
      rw [List.take_length] at hC
      have HC := Lib.hid hC
      clear hC
      generalize hL : cutHv [(d.off, hi)] q.hv = L at *
      have HL := Lib.hid hL
      clear hL CO R3
      go_wp2_with fail
      have S5 := Lib.hid (S3.out.below hB.out)
      have H5 := Lib.hid (H3.out.below hB.out)
      have B5 : Hid (Below w.heap.size w wr) := Lib.hid S5.out.bel
      have hs5 := S5.out.size
      have R5 := hR
      have hpw := H.out.lt
      have hpvw : Hid (∀ k, pv.ownBlock = some k → k < w.heap.size) := Lib.hid (fun k e => (H.out.o.lt k e).2)
      clear H3 S3 hR hB
      generalize wr = v5 at *
      go_loopw [41] (fun s41 wr => ∃ (i : Nat) (np : List Pc) (v' : Value), i ≤ L.length ∧ s41 = .int .i64 i ∧ Hid (np.map Pc.pure = (L.take i).map (PS.pieceOf d.off d.body)) ∧ Hid (PeR wr F M p { q with pl := q.pl ++ np } ⟨A1, c1, A2, c2, kb, A3, c3, v'⟩) ∧
          Hid (Chg (fun j => j = p ∨ pv.ownBlock = some j) v5 wr) ∧ Hid (∀ k, k < v5.heap.size → pv.ownBlock ≠ some k → v'.ownBlock ≠ some k))
        (fun s41 _ => L.length - (intOf s41).toNat)
      case atStart => exact ⟨0, [], pv, Nat.zero_le _, rfl, Lib.hid rfl, Lib.hid (by simpa using H5.out), Lib.hid (Chg.refl _ _), Lib.hid (fun k _ e => e)⟩
      case round =>
        obtain ⟨i, np, v', hi', rfl, hnp, hP, hC, hv'⟩ := hrel
        have hnl : np.length = i := by have := congrArg List.length hnp.out; simpa [Nat.min_eq_left hi'] using this
        have NL := Lib.hid hnl
        have hpl : q.pl.length + np.length ≤ 1000001500 := by omega
        clear hnl
        by_cases hlt2 : i < L.length
        · have hG : ∀ k, (k = p ∨ pv.ownBlock = some k) → k < w.heap.size := fun k e => by
            rcases e with e | e
            · omega
            · exact hpvw.out k e
          have T0 := Lib.hid (hC.out.blk S5.out.t0 (fun e => by have := hG _ e; omega))
          have T1 := Lib.hid (hC.out.blk S5.out.t1 (fun e => by have := hG _ e; omega))
          have R6 := Lib.hid (R5.out.rd.chg hC.out (fun b off e hn hh => by have := R5.out.nw b off e hn; have := hG b hh; omega))
          have RB6 := Lib.hid ((HR.out.below B5.out).chg hC.out (fun b off e hn hh => by
            have := HA.out b off e (by omega)
            rcases hh with hh | hh
            · exact this.1 hh
            · exact this.2 hh))
          have hsC := hC.out.size
          obtain ⟨bL, offL, x, y, eA5, He, hc1, hc2, u1, u2, u3, u4⟩ := R6.out.sp (HC.out.u2 o1) hlt2
          subst eA5
          have HE := Lib.hid He
          have hrg := HC.out.rng _ (List.getElem_mem hlt2)
          rw [He] at hrg
          obtain ⟨g1, g2, g3⟩ := hrg
          simp only at g1 g2 g3
          have g4 : y ≤ d.off + (d.body.length : Int) - 1 := by have := HI.out; omega
          clear He
          obtain ⟨a, ha⟩ : ∃ a : Nat, x - d.off = (a : Int) := ⟨(x - d.off).toNat, by omega⟩
          obtain ⟨b, hb⟩ : ∃ b : Nat, y - d.off = (b : Int) := ⟨(y - d.off).toNat, by omega⟩
          obtain ⟨e, he⟩ : ∃ e : Nat, (b : Int) + 1 = (e : Int) := ⟨b + 1, by omega⟩
          have wa : IntKind.u64.wrap (x - d.off) = (a : Int) := by rw [ha]; exact IntWalk.u64_in _ (by omega)
          have wb : IntKind.u64.wrap (y - d.off) = (b : Int) := by rw [hb]; exact IntWalk.u64_in _ (by omega)
          have we : IntKind.u64.wrap ((b : Int) + 1) = (e : Int) := by rw [he]; exact IntWalk.u64_in _ (by omega)
          have hae : a ≤ e := by omega
          have hel : e ≤ d.body.length := by omega
          have HAE : Hid ((a : Int) = x - d.off ∧ (e : Int) = y - d.off + 1) := Lib.hid ⟨by omega, by omega⟩
          obtain ⟨A9, hrunS, hA9⟩ := piece_run (P := Try.prog) (t := 22) Try.underlying22 hiB bz1 A d.body.length c a e hae hel hcp
          have E6 := box_below wr (.cells #[.int .u64 x, .int .u64 y] 68)
          have X6 := Lib.hid (heap_alloc_new wr (.cells #[.int .u64 x, .int .u64 y] 68))
          have T0b := Lib.hid ((E6.block _ (lt_of_block T0.out)).trans T0.out)
          have T1b := Lib.hid ((E6.block _ (lt_of_block T1.out)).trans T1.out)
          have H6 := Lib.hid (hP.out.below E6)
          have RS := Lib.hid (hA9 _ _ (RB6.out.below E6))
          have E6h := Lib.hid E6
          have hlx : wr.heap.size ≠ p := by have := hP.out.lt; omega
          have hvl : Hid (∀ k, v'.ownBlock = some k → k < wr.heap.size) := Lib.hid (fun k e => (hP.out.o.lt k e).2)
          have hfo := Lib.hid hP.out.fo
          clear ha hb he hA9 E6 T0 T1 R6 g1 g2 g3 g4 hG
          go_upto_region 11 with fail
          clear hc1 hc2
          generalize hW6 : (wr.alloc (.cells #[.int .u64 x, .int .u64 y] 68)) = w6 at *
          clear hW6
          have n11 : ¬ v'.ownBlock = some p := fun e => (hfo.out p e).2.1 rfl
          have h0l : w.heap.size < wr.heap.size := by omega
          have h1l : w.heap.size + 1 < wr.heap.size := by omega
          have nh0 : ¬ v'.ownBlock = some w.heap.size := fun e => by
            have h1 := hv'.out w.heap.size (by omega) (fun e => by have := hpvw.out _ e; omega)
            exact h1 e
          have nh1 : ¬ v'.ownBlock = some (w.heap.size + 1) := fun e => by
            have h1 := hv'.out (w.heap.size + 1) (by omega) (fun e => by have := hpvw.out _ e; omega)
            exact h1 e
          have nhx : ¬ v'.ownBlock = some wr.heap.size := fun e => by have := hvl.out _ e; omega
          have m11 := mixF_cell (F := fun j => v'.ownBlock = some j) (show w6.cell? ⟨p, 11, none⟩ = some v' from cell_of_row w6 p 11 _ _ _ H6.out.t) n11
          have m05 := mixF_cell (F := fun j => v'.ownBlock = some j) (show w6.cell? ⟨w.heap.size, 5, none⟩ = some (.slice A d.body.length c) from cell_of_row w6 w.heap.size 5 _ _ _ T0b.out) nh0
          have m10 := mixF_cell (F := fun j => v'.ownBlock = some j) (show w6.cell? ⟨w.heap.size + 1, 0, none⟩ = some (.int .u64 d.off) from cell_of_row w6 (w.heap.size + 1) 0 _ _ _ T1b.out) nh1
          have mx0 := mixF_cell (F := fun j => v'.ownBlock = some j) (show w6.cell? ⟨wr.heap.size, 0, none⟩ = some (.int .u64 x) from cell_of_row w6 wr.heap.size 0 _ _ _ X6.out) nhx
          have mx1 := mixF_cell (F := fun j => v'.ownBlock = some j) (show w6.cell? ⟨wr.heap.size, 1, none⟩ = some (.int .u64 y) from cell_of_row w6 wr.heap.size 1 _ _ _ X6.out) nhx
          have Hcp2 : e - a ≤ c - a := by omega
          have RSd := Lib.hid (RS.out.drew)
          refine wp_region_chgE (fun j => v'.ownBlock = some j) (by kernel_rfl) (by kernel_rfl) ?_
          repeat (refine wpMixE_seg 1 _ _ rfl ?_; simp only [List.take_succ_cons, List.take_zero, List.drop_succ_cons, List.drop_zero]; go_big_quiet_step (fail); refine wpQuiet_nil ?_)
          generalize hwd : w6.drew = wd at *
          have Q0 : Hid (Below w6.heap.size w6 wd) := Lib.hid (by rw [← hwd]; exact (Below.refl _ _).drew)
          clear hwd
          refine wpMixE_bar rfl (by rfl) ?_
          go_wp2_with (
            at_builtin
            refine wpList_append_rd _ rfl (.const (.slice none 0 0)) (.tmp 65) 22 rfl w6.heap.size 5 iB _ 1 1 Try.underlying22 hiB bz0 bz1 bz2 rfl (by decide) (.slice none 0 0) 0 [] rfl (World.ownsRow_nil _ _ _ _) A9 (e - a) (c - a) (((U8 d.body).drop (a * 1)).take ((e - a) * 1)) rfl RSd.out (fun u hu => U8_one d.body u (List.mem_of_mem_drop (List.mem_of_mem_take hu))) (by unfold maxLen; omega) (by omega) Q0.out.size ?_
            intro v2 w2 hown2 hg2 hloc
            rw [Nat.zero_add, List.nil_append] at hown2
            obtain ⟨A7, c7, hv7, hA7⟩ := own_slice hown2
            subst hv7
            have HO7 := Lib.hid hown2
            have HN7 := Lib.hid hA7
            have Q2 : Hid (Below w6.heap.size w6 w2) := Lib.hid (Q0.out.grown hg2 Q0.out.size (fun g hg => by simp [Value.ownBlock] at hg))
            clear hown2 hg2 hloc hA7)
          refine mixGo_in (chg_below Q2.out) ?_
          repeat (refine wpMixE_seg 1 _ _ rfl ?_; simp only [List.take_succ_cons, List.take_zero, List.drop_succ_cons, List.drop_zero]; go_big_quiet_step (fail); refine wpQuiet_nil ?_)
          refine wpMixE_bar rfl (by rfl) ?_
          go_wp2
          refine mixGo_in ((chg_below Q2.out).alloc _) ?_
          repeat (refine wpMixE_seg 1 _ _ rfl ?_; simp only [List.take_succ_cons, List.take_zero, List.drop_succ_cons, List.drop_zero]; go_big_quiet_step (fail); refine wpQuiet_nil ?_)
          have OW := Lib.hid (own_above H6.out.o Q2.out)
          obtain ⟨tail, htl⟩ : ∃ t, t = (d.body.drop a).take (e - a) := ⟨_, rfl⟩
          have htu : ((U8 d.body).drop (a * 1)).take ((e - a) * 1) = U8 tail := by rw [htl]; simp [U8, List.map_drop, List.map_take]
          have htn : tail.length = e - a := by rw [htl, List.length_take, List.length_drop]; omega
          rw [htu] at HO7
          have TL := Lib.hid (And.intro htl htn)
          have hpl2 : (q.pl ++ np).length ≤ 1000001500 := by rw [List.length_append]; exact hpl
          clear htl htu htn hrunS hae hel RSd RS
          refine wpMixE_bar rfl (by rfl) ?_
          go_wp2_with (
            at_builtin
            refine wpList_app1 w2 rfl (.tmp 49) (.tmp 68) 63 rfl 0 82 i0 (.agg #[.int .u64 0, .slice none 0 0]) 2 32 Try.underlying63 hi0 hz0 hz1 hz2 rfl (by decide) v' (q.pl ++ np).length ((q.pl ++ np).flatMap Pc.cells) rfl OW.out #[.int .u64 x, .slice A7 (e - a) c7] _ rfl (by simp) rfl (by simp [Value.oneCell']) (by unfold maxLen; omega) (by omega) (Nat.zero_le _) ?_
            intro v8 w8 ho8 hg8 hk8
            obtain ⟨A8, c8, hv8, -⟩ := own_slice ho8
            subst hv8
            have Q8 : Hid (Chg (fun j => v'.ownBlock = some j) w6 w8) := Lib.hid ((chg_below Q2.out).grown hg8 (fun k e => .inl e))
            have GR := Lib.hid (PeR.grow (x := ⟨x, A7, c7, tail⟩) hP.out (fun k hk => HN.out k (by omega)) (E6h.out.trans (Q2.out.mono E6h.out.size)) hg8 (by show World.ownsRow _ _ _ _ _ _ (_ ++ [.int .u64 x, .slice A7 tail.length c7]); rw [TL.out.2]; exact ho8) hk8 (by show Rd w2 1 A7 tail.length c7 (U8 tail); rw [TL.out.2]; exact Rd.of_own HO7.out)
              (fun b off e hn => by obtain ⟨g, hg, hge⟩ := HN7.out (by rw [← TL.out.2]; exact hn); have e' : A7 = some ⟨b, off, none⟩ := e; rw [hg] at e'; injection e' with e'; injection e' with e1 e2; have := E6h.out.size; omega))
            have HK8 := Lib.hid hk8
            clear ho8 hg8 hk8
            generalize hnn : (q.pl ++ np).length + 1 = nn at *
            clear hnn)
          refine mixGo_in Q8.out ?_
          repeat (refine wpMixE_seg 1 _ _ rfl ?_; simp only [List.take_succ_cons, List.take_zero, List.drop_succ_cons, List.drop_zero]; go_big_quiet_step (fail); refine wpQuiet_nil ?_)
          have t8 := Q8.out.blk H6.out.t n11
          have z11 := cell_of_row w8 p 11 _ _ _ t8
          have fz11 := frozen_of_row w8 p 11 _ _ t8
          clear t8
          refine wpMixE_bar rfl (by rfl) ?_
          go_wp2
          refine mixGo_fin ?_
          clear m11 m05 m10 mx0 mx1 z11 fz11
          go_wp2
          go_roundw
          case rel =>
            refine ⟨i + 1, np ++ [⟨x, A7, c7, tail⟩], .slice A8 nn c8, by omega, by go_num, Lib.hid ?_, Lib.hid ?_, Lib.hid ?_, Lib.hid ?_⟩
            · rw [List.map_append, hnp.out, List.take_succ_eq_append_getElem hlt2, List.map_append]
              congr 1
              show [(x, tail)] = [PS.pieceOf d.off d.body L[i]]
              rw [HE.out.out]
              unfold PS.pieceOf
              have h1 := HAE.out
              rw [TL.out.1, show (x - d.off).toNat = a by omega, show (y - x + 1).toNat = e - a by omega]
            · have := GR.out.1
              simpa [List.append_assoc] using this
            · refine hC.out.step GR.out.2 (fun k hk hg => ?_)
              rcases hg with hg | hg
              · exact .inl hg
              · refine .inr ?_
                apply Classical.byContradiction
                intro h0
                exact hv'.out k hk h0 hg
            · exact fun k hk h0 => HK8.out k (by have := E6h.out.size; have := Q2.out.size; omega) (hv'.out k hk h0)
          case measure => simp [intOf]; omega
        · obtain rfl : i = L.length := by omega
          rw [List.take_length] at hnp
          have C9 : Hid (Chg F w wr) := Lib.hid ((chg_below B5.out).step hC.out (fun k hk e => by
            rcases e with e | e
            · subst e; exact H.out.fp
            · exact (H.out.fo k e).1))
          have ADD := Lib.hid (add_yes A3 q.hv.length c3 q.hv d.off hi wr.drew (hP.out.r3.below (Below.refl _ _).drew) GH.out.good IS.out o1 UH.out (by omega))
          have T1 := Lib.hid (hC.out.blk S5.out.t1 (fun e => by
            rcases e with e | e
            · omega
            · have := hpvw.out _ e; omega))
          have y0 := cell_of_row wr (w.heap.size + 1) 0 _ _ _ T1.out
          have y1 := cell_of_row wr (w.heap.size + 1) 1 _ _ _ T1.out
          have y10 := cell_of_row wr p 10 _ _ _ hP.out.t
          go_upto_region 13 with fail
          go_region_with ((go_at_call 31; refine ADD.out.mono ?_; rintro e w2 ⟨A', c', rfl, hr, b⟩; have B2 : Hid (Below wr.heap.size wr w2) := Lib.hid (((Below.refl _ _).drew).trans b); have R2 : Hid (RdN w2 wr.heap.size A' _ c' _) := Lib.hid hr; have S2 := Lib.hid (hP.out.below B2.out); clear hr b; have z10 := cell_of_row w2 p 10 _ _ _ S2.out.t; have fz10 := frozen_of_row w2 p 10 _ _ S2.out.t))
          all_goals go_wp2_with fail
          all_goals go_end0
          all_goals
            have OU := hP.out.outs_new (B := wr.heap.size) (Nat.le_refl _) (fun k hk => HN.out k (by have := C9.out.size; omega)) R2.out.nw
            have hhi := HI.out
            subst hhi
            refine ⟨rfl, ⟨⟨A1, c1, A2, c2, kb, A', c', v'⟩, np, ?_, by rw [HL.out]; exact hnp.out⟩, (C9.out.thenBelow B2.out C9.out.size).setCell (.inl H.out.fp) _⟩
            exact S2.out.put _ rfl rfl rfl rfl rfl rfl S2.out.r1 S2.out.r2 R2.out.rd S2.out.f1 S2.out.f2 OU

end Go.Proofs.Ytkedfipeebjcjaa

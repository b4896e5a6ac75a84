/-
  Part of the proof of EngineNumbers.
-/
import Derived.Test.YtpkbimmhimgamaaGreatPAU
import Derived.Deep.DeepCutAuto
import Derived.Deep.RegionHeld3
namespace Go.Proofs.YtpkbimmhimgamaaGreat
set_option linter.unusedSimpArgs false
set_option linter.unusedVariables false
set_option linter.unnecessarySimpa false
open Go.RowKit
theorem AkE.zero (w : World) (E : Nat → Prop) : AkE w E ⟨none, 0, none, 0, [], [], 0, 0, false⟩ := AkE.nil _ _ _ rfl rfl rfl rfl rfl rfl ⟨by decide, by decide⟩ ⟨by decide, by decide⟩
/-- The budget has been asked; its answer stands in a new variable. -/
structure DropS (W3 wx : World) (F E F' E' : Nat → Prop) (b qb h : Nat) (g : GS) (a0 : Ak) (s : BS) (y : Int) (ch : Bool) : Prop where
  gua : GuaC wx F' E' b { g with b := s } qb a0
  t : wx.heap[h]? = some (.cells #[.int .i64 1, .int .i64 y, .int .u64 0, .bool ch] 96 (0, 0))
  h0 : W3.heap.size ≤ h
  chg : Chg F W3 wx
  gF : ∀ k, F' k → (F k ∨ W3.heap.size ≤ k) ∧ k ≠ h
  gE : ∀ k, E' k → E k ∧ k < W3.heap.size
theorem DropS.last {W3 W vA : World} {F E : Nat → Prop} {b qb : Nat} {g : GS} {a0 : Ak} {s : BS} {y : Int} {ch : Bool} (hG : GuaC W3 F E b g qb a0) (b1 : Below W3.heap.size W3 W) (hB : BudP vA (Grow (fun k => F k ∧ k ≠ b) W) qb s) (hc : Chg (fun k => F k ∧ k ≠ b) W vA) (hF : ∀ k, F k → k < W3.heap.size) (hE : ∀ k, E k → k < W3.heap.size) :
    ∃ F' E', DropS W3 (vA.alloc (.cells #[.int .i64 1, .int .i64 y, .int .u64 0, .bool ch] 96)) F E F' E' b qb vA.heap.size g a0 s y ch := by
  have h1 := (hG.below b1).asked hB hc
  have s1 := b1.size
  have s2 := hc.size
  refine ⟨fun k => Grow F W k ∧ k < vA.heap.size, fun k => E k ∧ k < W3.heap.size, ?_, heap_alloc_new vA _, by omega, ?_, fun k hk => ⟨hk.1.elim .inl (fun h => .inr (by omega)), by have := hk.2; omega⟩, fun k hk => hk⟩
  · exact h1.chg (chg_below (box_below vA _) (F := fun _ => False)) (fun _ _ _ h => h) (fun k hk h => ⟨h, hk⟩) (fun k hk h => ⟨h.1, hE k h.1⟩) (fun k hk hf => hf.1.elim (hG.dj k hk.1) (fun e => by have := hk.2; omega))
  · exact ((chg_below b1).step (hc.mono (fun k _ h => h.1)) (fun _ _ h => h)).thenBelow (box_below vA _) (by omega)
theorem DropS.first {W3 W vA : World} {F E : Nat → Prop} {b qb h : Nat} {g : GS} {a0 : Ak} {s : BS} {y : Int} {ch : Bool} {cs : Array Value} (hG : GuaC W3 F E b g qb a0) (b1 : Below W3.heap.size W3 W) (ht : W.heap[h]? = some (.cells cs 96 (0, 0))) (hcs : cs.size = 4) (hh : W3.heap.size ≤ h) (hB : BudP vA (Grow (fun k => F k ∧ k ≠ b) W) qb s) (hc : Chg (fun k => F k ∧ k ≠ b) W vA) (hF : ∀ k, F k → k < W3.heap.size) (hE : ∀ k, E k → k < W3.heap.size) :
    ∃ F' E', DropS W3 (fillFrom vA h 0 [.int .i64 1, .int .i64 y, .int .u64 0, .bool ch]) F E F' E' b qb h g a0 s y ch := by
  have h1 := (hG.below b1).asked hB hc
  have s1 := b1.size
  have s2 := hc.size
  have hl := lt_of_block ht
  have t2 := hc.blk ht (fun e => by have := hF h e.1; omega)
  have f1 := fill_all [.int .i64 1, .int .i64 y, .int .u64 0, .bool ch] t2 hcs.symm
  have c1 := fill_chg h [.int .i64 1, .int .i64 y, .int .u64 0, .bool ch] vA 0
  refine ⟨fun k => Grow F W k ∧ k ≠ h, fun k => E k ∧ k < W3.heap.size, ?_, f1, hh, ?_, fun k hk => ⟨hk.1.elim .inl (fun h => .inr (by omega)), hk.2⟩, fun k hk => hk⟩
  · have hno : ∀ k, Grow F W k → k ≠ h := fun k hk e => hk.elim (fun hf => by have := hF k hf; omega) (fun e' => by omega)
    exact h1.chg c1 (fun k _ hk e => hk.elim (fun hf => hno k hf e) (fun he => by have := hE k he.1; omega)) (fun k _ hf => ⟨hf, hno k hf⟩) (fun k _ h => ⟨h.1, hE k h.1⟩) (fun k hk hf => hf.1.elim (hG.dj k hk.1) (fun e => by have := hk.2; omega))
  · exact ((chg_below b1).step (hc.mono (fun k _ h => h.1)) (fun _ _ h => h)).trans (c1.mono fun k _ e => .inr (by omega))

theorem TkM.dropped {w W wx : World} {T F E F' E' : Nat → Prop} {p b qb h : Nat} {now : Int} {s : LS} {g : GS} {a0 : Ak} {bs : BS} {y : Int} {ch : Bool} (M : TkM w T F E F E p b qb now s g a0 W) (D : DropS W wx F E F' E' b qb h g a0 bs y ch) (hg : ({ g with b := bs } : GS).Good) :
    TkM w T F E F' E' p b qb now s { g with b := bs } a0 wx := by
  have hsz := M.sz
  refine ⟨M.led.chg D.chg (fun k _ hk hf => (M.tT k hk).2.1 hf) (fun _ _ h => h), D.gua, hg, M.tb.chg D.chg (fun k hk => (M.gF k hk).2), M.chg.trans (D.chg.mono fun k _ hk => .inl (.inr hk)), Nat.le_trans hsz D.chg.size, fun k hk => ⟨(M.tT k hk).1, fun hf => ?_, fun he => (M.tT k hk).2.2 (D.gE k he).1⟩, fun k hk => ?_, fun k hk => M.gE k (D.gE k hk).1⟩
  · have := (M.tT k hk).1
    exact (D.gF k hf).1.elim (M.tT k hk).2.1 (fun e => by omega)
  · exact (D.gF k hk).1.elim (fun hf => M.gF k hf) (fun e => ⟨.inr (by omega), .inr (by omega)⟩)

theorem TkM.ended {w W W' : World} {T F E : Nat → Prop} {p b qb : Nat} {now : Int} {s : LS} {g : GS} {a0 : Ak} {ev : Ev} (M : TkM w T F E F E p b qb now s g a0 W) (hG : GuaP W' (fun k => F k ∧ k < W.heap.size) (fun k => W.heap.size ≤ k) b (g.ended ev)) (hC : Chg (fun j => j = b) W W') (hb : ∀ k, k = b → F k ∧ k < w.heap.size) (hlt : ∀ k, T k ∨ F k ∨ E k → k < w.heap.size) :
    ∃ qb' a', TkM w T F E (fun k => F k ∧ k < W.heap.size) (fun k => W.heap.size ≤ k) p b qb' now s (g.ended ev) a' W' := by
  obtain ⟨good, qb', a', hC'⟩ := hG
  have hsz := M.sz
  refine ⟨qb', a', M.led.chg hC (fun k _ hk e => (M.tT k hk).2.1 (hb k e).1) (fun _ _ h => h), hC', good, M.tb.chg hC (fun k e => .inl (hb k e).2), M.chg.trans (hC.mono fun k _ e => .inl (.inr (hb k e).1)), Nat.le_trans hsz hC.size, fun k hk => ⟨(M.tT k hk).1, fun h => (M.tT k hk).2.1 h.1, fun h => by have := (M.tT k hk).1; omega⟩, fun k hk => M.gF k hk.1, fun k hk => ⟨.inr (by omega), .inr (by omega)⟩⟩

end Go.Proofs.YtpkbimmhimgamaaGreat

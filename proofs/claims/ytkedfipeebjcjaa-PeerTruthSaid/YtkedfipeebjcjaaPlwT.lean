/-
  The law of truth, plainly: what came, row by row; what an acknowledgment tells of it.
-/
import Derived.Test.YtkedfipeebjcjaaPlwP
import Derived.Test.YtkedfipeebjcjaaOct7
import Derived.Test.YtkedfipeebjcjaaTri
import Derived.Test.YtkedfipeebjcjaaHdr
namespace Go.Proofs.Ytkedfipeebjcjaa
set_option linter.unusedSimpArgs false
set_option linter.unusedVariables false
set_option linter.unnecessarySimpa false
open Go.RowKit

theorem rowGo_u8 : ∀ (l : List Sp) (low : Int), 0 ≤ low → Gd l → (∀ s ∈ l, low ≤ s.1) → ∀ x ∈ rowGo low l, 0 ≤ x ∧ x ≤ 255
  | [], _, _, _, _ => fun x hx => by simp [rowGo] at hx
  | s :: l, low, h0, hg, hl => fun x hx => by
    have hs := hg.1 s (List.mem_cons_self ..)
    have h1 := hs.1
    have h2 : s.2 ≤ 4611686018427387903 := hs.2
    have h3 := hl s (List.mem_cons_self ..)
    simp only [rowGo, List.mem_append] at hx
    rcases hx with hx | hx | hx
    · exact putN_u8 _ (by omega) (by omega) x hx
    · exact putN_u8 _ (by omega) (by omega) x hx
    · exact rowGo_u8 l (s.2 + 2) (by omega) hg.tail (fun y hy => by have := (List.pairwise_cons.1 hg.2).1 y hy; omega) x hx
theorem rowBytes_u8 {l : List Sp} (hg : Gd l) (h0 : ∀ s ∈ l, 0 ≤ s.1) (hl : l.length ≤ 32) : ∀ x ∈ rowBytes l, 0 ≤ x ∧ x ≤ 255 := by
  intro x hx
  rcases List.mem_cons.1 hx with rfl | hx
  · omega
  · exact rowGo_u8 l 0 (Int.le_refl _) hg h0 x hx
theorem putAck_u8 {a : AckD} (h1 : Gd a.sp) (h2 : Gd a.mm) (p1 : ∀ s ∈ a.sp, 0 ≤ s.1) (p2 : ∀ s ∈ a.mm, 0 ≤ s.1) (l2 : a.sp.length ≤ 32) (l3 : a.mm.length ≤ 32) : (∀ x ∈ putAckP a, 0 ≤ x ∧ x ≤ 255) ∧ (putAckP a).length ≤ 2000 := by
  refine ⟨fun x hx => ?_, ?_⟩
  · simp only [putAckP, List.mem_cons, List.mem_append, eightN] at hx
    rcases hx with rfl | hx | hx | hx | hx | hx
    · omega
    · exact rowBytes_u8 h1 p1 l2 x hx
    · exact rowBytes_u8 h2 p2 l3 x hx
    · exact bytesN_u8 _ _ x hx
    · exact bytesN_u8 _ _ x hx
    · rcases hx with rfl | hx
      · split <;> omega
      · cases hx
  · have e1 := rowBytes_le h1 p1 l2
    have e2 := rowBytes_le h2 p2 l3
    simp [putAckP, eightN]
    omega
/-- An acknowledgment that reads back. -/
structure AckOk (a : AckD) : Prop where
  back : ackP (putAckP a) = .ok a
  u8 : ∀ x ∈ putAckP a, 0 ≤ x ∧ x ≤ 255
  len : (putAckP a).length ≤ 2000
namespace PS
theorem told_ok {s : PS} (h : s.Mid 32 32) (hne : s.l ≠ []) (ht : isU64 s.trigger) : AckOk s.told := by
  have hm := of_decide_eq_true (h.may hne)
  have lo := h.lo
  have few := h.few
  have l1 : 1 ≤ s.got.length := gotL_pos h.le hne
  have u := putAck_u8 (a := s.told) h.gd h.gm lo.1 lo.2 few.1 few.2
  exact ⟨ackP_put s.told h.gd h.gm lo.1 lo.2 l1 few.1 few.2 (by rw [insideB_eq]; exact decide_eq_true hm.2.2.2) ht (xor_u64 h), u.1, u.2⟩

/-- What Decode yields, in one form. -/
def zD : DatD := ⟨0, 0, 0, 0, 0, []⟩
def decD (l : List Int) : DatD := match datP l with
  | .error _ => zD
  | .ok d => d
def decE (l : List Int) : Int := match datP l with
  | .error e => e
  | .ok _ => 0
theorem decE_pos {l : List Int} {e : Int} (h : datP l = .error e) : decE l = e := by unfold decE; rw [h]
/-- Has one of these numbers come? -/
def hadPn (came : List DatD) (pn : Int) : Bool := came.any fun c => decide (c.pn = pn)
def oldB (came : List DatD) (l : List Int) : Bool := decide (decE l = 0) && hadPn came (decD l).pn

theorem takeB_truth {p : PS} {came : List DatD} {n : Nat} (h : p.Truth came n) (hg : p.Good) (hw : p.Waits) {l : List Int} (hb : ∀ x ∈ l, 0 ≤ x ∧ x ≤ 255) (now : Int) (hnow : 0 ≤ now) :
    (¬ p.bytes < (p.takeB l now).1.bytes ∧ p.takeB l now = (p, none)) ∨
    (p.bytes < (p.takeB l now).1.bytes ∧ oldB came l = false ∧ (decD l).Ok ∧ 0 ≤ (decD l).pn ∧
      (p.takeB l now).1.Truth (came ++ [decD l]) (n + if (p.takeB l now).2.isSome then 1 else 0) ∧ ∀ a, (p.takeB l now).2 = some a → IsTrue (came ++ [decD l]) a ∧ AckOk a) := by
  cases hd : datP l with
  | error e =>
    have e1 : p.takeB l now = (p, none) := by unfold takeB; rw [hd]
    exact .inl ⟨by rw [e1]; exact Int.lt_irrefl _, e1⟩
  | ok d =>
    have e1 : p.takeB l now = p.take d now := by unfold takeB; rw [hd]
    have e2 : decD l = d := by unfold decD; rw [hd]
    have ok := datP_ok hd hb
    have h0 : 0 ≤ d.pn := by have := ok.le; omega
    have hm := hg.mid
    rw [e1, e2]
    by_cases hf : p.Fresh d
    · right
      have hbytes : (p.take d now).1.bytes = p.bytes + d.body.length := by
        have U := kept_up p d
        have eb : (p.kept d).bytes = p.bytes + d.body.length := U.b
        have f1 : ∀ q : PS, ((q.newest' d).still).bytes = q.bytes := fun _ => rfl
        have f2 : ∀ q : PS, (q.silent d now).bytes = q.bytes := fun _ => rfl
        rcases take_ways p d now with ⟨h1, h2⟩ | ⟨h1, h2, h3⟩ | ⟨h1, h2, h3⟩ | ⟨h1, h2, h4, h3⟩
        · exact absurd hf h1
        · rw [h3]; exact eb
        · rw [h3]; dsimp only; rw [f1]; exact eb
        · rw [h3]; dsimp only; rw [f2]; exact eb
      have hold : oldB came l = false := by
        unfold oldB hadPn
        rw [e2]
        have : (came.any fun c => decide (c.pn = d.pn)) = false := by
          rw [List.any_eq_false]
          intro c hc
          simpa using h.stale hm hf c hc
        rw [this, Bool.and_false]
      refine ⟨by rw [hbytes]; have := ok.len; omega, hold, ok, h0, ?_⟩
      rcases h.take hg hw ok h0 now with ⟨h1, _⟩ | ⟨_, h2, h3⟩ | ⟨_, a, h2, h3, h4⟩
      · exact absurd hf h1
      · refine ⟨by rw [h2]; exact h3, fun a ha => by rw [h2] at ha; cases ha⟩
      · refine ⟨by rw [h2]; exact h4, fun a' ha => ?_⟩
        rw [h2] at ha
        injection ha with ha
        subst ha
        refine ⟨h3, ?_⟩
        have hkm : (p.kept d).Mid 32 32 := hm.kept ok h0 (fun e => hf (.inl e)) (fun e => hf (.inr e))
        have hkn := hm.kept_ne ok h0 (fun e => hf (.inl e)) (fun e => hf (.inr e))
        have hn : ((p.kept d).newest' d).Mid 32 32 := ⟨hkm.pn, hkm.own, hkm.few, hkm.fl⟩
        have key := told_ok hn hkn ok.nonce
        rcases take_ways p d now with ⟨h1, h5⟩ | ⟨h1, _, h5⟩ | ⟨h1, _, h5⟩ | ⟨h1, _, _, h5⟩
        · exact absurd hf h1
        · rw [h5] at h2; cases h2
        · rw [h5] at h2
          injection h2 with h2
          rw [← h2]
          exact key
        · rw [h5] at h2; cases h2
    · left
      have e3 : p.take d now = (p, none) := by
        unfold take
        rw [if_pos (Decidable.not_not.1 hf)]
      exact ⟨by rw [e3]; exact Int.lt_irrefl _, e3⟩
theorem tick_truth {p : PS} {came : List DatD} {n : Nat} (h : p.Truth came n) (hg : p.Good) (hw : p.Waits) (now : Int) :
    (p.tick now).1.Truth came (n + if (p.tick now).2.isSome then 1 else 0) ∧ ∀ a, (p.tick now).2 = some a → IsTrue came a ∧ AckOk a := by
  unfold tick
  split
  · rename_i hd
    have hw1 : p.waits = 1 := by
      rcases hg.wt with e | e
      · exact absurd e.2 hd.1
      · exact e
    have hs := h.still hw1
    refine ⟨hs.1, fun a ha => ?_⟩
    injection ha with ha
    subst ha
    exact ⟨hs.2, told_ok hg.mid (hw hw1) hg.num.2.1⟩
  · exact ⟨h, fun a ha => by cases ha⟩

/-- The packets that an acknowledgment claims. -/
def clm (f : Int) (came : List DatD) : List Hp := (came.filter fun d => decide (f ≤ d.pn)).map hpOf
theorem clm_snoc (f : Int) (came : List DatD) (d : DatD) : clm f (came ++ [d]) = if f ≤ d.pn then clm f came ++ [hpOf d] else clm f came := by
  unfold clm
  rw [List.filter_append, List.map_append]
  split
  · rename_i h; simp [h]
  · rename_i h; simp [h]
theorem clm_take (f : Int) (came : List DatD) {k : Nat} (h : k < came.length) : clm f (came.take (k + 1)) = if f ≤ came[k].pn then clm f (came.take k) ++ [hpOf came[k]] else clm f (came.take k) := by
  rw [List.take_succ_eq_append_getElem h, clm_snoc]
theorem clm_le {f : Int} {came : List DatD} (ok : ∀ d ∈ came, d.Ok ∧ 0 ≤ d.pn) : ∀ h ∈ clm f came, h.pn ≤ maxPn ∧ 0 ≤ h.pn ∧ isU64 h.nonce := fun h hh => by
  obtain ⟨d, hd, rfl⟩ := List.mem_map.1 hh
  have := ok d (List.mem_filter.1 hd).1
  exact ⟨by rw [maxPn_eq]; exact this.1.pn, this.2, this.1.nonce⟩
theorem pn_inj {came : List DatD} (nod : (came.map (·.pn)).Nodup) {c d : DatD} (hc : c ∈ came) (hd : d ∈ came) (e : c.pn = d.pn) : c = d := by
  induction came with
  | nil => cases hc
  | cons x l ih =>
    rw [List.map_cons, List.nodup_cons] at nod
    rcases List.mem_cons.1 hc with h1 | h1
    · rcases List.mem_cons.1 hd with h2 | h2
      · rw [h1, h2]
      · exact absurd (List.mem_map.2 ⟨d, h2, by rw [← e, h1]⟩) nod.1
    · rcases List.mem_cons.1 hd with h2 | h2
      · exact absurd (List.mem_map.2 ⟨c, h1, by rw [e, h2]⟩) nod.1
      · exact ih nod.2 h1 h2
theorem clm_has {f : Int} {came : List DatD} (ok : ∀ d ∈ came, d.Ok ∧ 0 ≤ d.pn) (nod : (came.map (·.pn)).Nodup) {d : DatD} (hd : d ∈ came) :
    hasP (gotL (clm f came)) d.pn = decide (f ≤ d.pn) ∧ (f ≤ d.pn → hasP (markL (clm f came)) d.pn = decide (d.ecn = 3)) := by
  have hl : ∀ h ∈ clm f came, h.pn ≤ maxPn := fun h hh => (clm_le ok h hh).1
  refine ⟨?_, fun hf => ?_⟩
  · rw [Bool.eq_iff_iff, hasP_iff, decide_eq_true_eq, (gotL_spec _ hl).2]
    constructor
    · rintro ⟨h, hh, e⟩
      obtain ⟨c, hc, rfl⟩ := List.mem_map.1 hh
      have := of_decide_eq_true (List.mem_filter.1 hc).2
      have e' : c.pn = d.pn := e
      omega
    · intro h
      exact ⟨hpOf d, List.mem_map.2 ⟨d, List.mem_filter.2 ⟨hd, decide_eq_true h⟩, rfl⟩, rfl⟩
  · rw [Bool.eq_iff_iff, hasP_iff, decide_eq_true_eq]
    show Mem d.pn (gotL ((clm f came).filter (·.marked))) ↔ _
    rw [(gotL_spec _ (fun h hh => hl h (List.mem_filter.1 hh).1)).2]
    constructor
    · rintro ⟨h, hh, e⟩
      obtain ⟨h1, h2⟩ := List.mem_filter.1 hh
      obtain ⟨c, hc, rfl⟩ := List.mem_map.1 h1
      have : c = d := pn_inj nod (List.mem_filter.1 hc).1 hd e
      subst this
      exact of_decide_eq_true h2
    · intro h
      exact ⟨hpOf d, List.mem_filter.2 ⟨List.mem_map.2 ⟨d, List.mem_filter.2 ⟨hd, decide_eq_true hf⟩, rfl⟩, decide_eq_true h⟩, rfl⟩
theorem clm_count {f : Int} {came : List DatD} (ok : ∀ d ∈ came, d.Ok ∧ 0 ≤ d.pn) (nod : (came.map (·.pn)).Nodup) : sz (gotL (clm f came)) = (clm f came).length := by
  refine gotL_sz _ (fun h hh => (clm_le ok h hh).1) ?_
  have e : (clm f came).map (·.pn) = (came.filter fun d => decide (f ≤ d.pn)).map (·.pn) := by
    unfold clm
    rw [List.map_map]
    rfl
  rw [e]
  exact nod.sublist (List.filter_sublist.map _)
theorem clm_len (f : Int) (came : List DatD) : (clm f came).length ≤ came.length := by
  unfold clm
  rw [List.length_map]
  exact List.length_filter_le _ _
theorem odd_step (a c m : Bool) : (a != (c && !m)) = if c && !m then !a else a := by cases a <;> cases c <;> cases m <;> rfl
def trg (t : Int) (l : List Hp) : Bool := l.any fun h => decide (h.nonce = t)
theorem trg_snoc (t : Int) (l : List Hp) (h : Hp) : trg t (l ++ [h]) = (trg t l || decide (h.nonce = t)) := by simp [trg]
theorem clm_trg {f t : Int} {came : List DatD} {d : DatD} (hd : d ∈ came) (hf : f ≤ d.pn) (ht : d.nonce = t) : trg t (clm f came) = true := by
  unfold trg
  rw [List.any_eq_true]
  exact ⟨hpOf d, List.mem_map.2 ⟨d, List.mem_filter.2 ⟨hd, decide_eq_true hf⟩, rfl⟩, decide_eq_true ht⟩
theorem hadPn_take (came : List DatD) (pn : Int) {k : Nat} (h : k < came.length) : hadPn (came.take (k + 1)) pn = (hadPn (came.take k) pn || decide (came[k].pn = pn)) := by
  unfold hadPn
  rw [List.take_succ_eq_append_getElem h, List.any_append]
  simp only [List.any_cons, List.any_nil, Bool.or_false]
end PS
end Go.Proofs.Ytkedfipeebjcjaa

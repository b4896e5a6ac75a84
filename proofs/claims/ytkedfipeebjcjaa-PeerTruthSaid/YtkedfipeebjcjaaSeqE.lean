/-
  A region that draws its order and ends in one operation that waits for all the others: the last one may turn what the others read.
-/
import Derived.Test.YtkedfipeebjcjaaSeq
namespace Go.Proofs.Ytkedfipeebjcjaa
set_option linter.unusedSimpArgs false
set_option linter.unusedVariables false
set_option linter.unnecessarySimpa false
open Go.RowKit

section
variable {P : Program} {ops : Array Oper} {md : Region.Mode} {C : World → Prop} {z : Nat}

def bOpE (P : Program) (ops : Array Oper) (C : World → Prop) (z i : Nat) (K : Act → World → Prop) (a : Act) (w : World) : Prop :=
  match ops[i]? with
  | none => K a w
  | some o => if Region.wanted o (yielded ops a.tmps) then (if calm o then o.quiet P a C (fun a' => K a' w) else o.wp P a w (fun a' w' => (C w' ∨ i = z) ∧ K a' w') QF) else K (a.put o.dst undef) w
def wpBE (P : Program) (md : Region.Mode) (ops : Array Oper) (C : World → Prop) (z : Nat) (Q : Act → World → Prop) : Nat → Array Bool → Act → World → Prop
  | 0, listed, a, w => Region.ready md ops listed = [] ∧ Q a w
  | f + 1, listed, a, w => (Region.ready md ops listed = [] → Q a w) ∧ ∀ i ∈ Region.ready md ops listed, bOpE P ops C z i (wpBE P md ops C z Q f (listed.setIfInBounds i true)) a w

theorem bOpE_mono {i : Nat} {a : Act} {w : World} {K K' : Act → World → Prop} (hC : C w) (h : ∀ a w, C w ∨ i = z → K a w → K' a w) (hh : bOpE P ops C z i K a w) : bOpE P ops C z i K' a w := by
  unfold bOpE at *
  split
  · rename_i ho; simp only [ho] at hh; exact h _ _ (.inl hC) hh
  · rename_i o ho
    simp only [ho] at hh
    split
    · rename_i hw
      simp only [hw, if_true] at hh
      split
      · rename_i hc; simp only [hc, if_true] at hh; exact Oper.quiet_mono (fun a' => h a' w (.inl hC)) hh
      · rename_i hc; simp only [hc] at hh; exact wp_qf (fun a' w' ⟨h1, h2⟩ => ⟨h1, h _ _ h1 h2⟩) hh
    · rename_i hw; simp only [hw] at hh; exact h _ _ (.inl hC) hh

/-- When the last one may come up, all the others have. -/
theorem last_done (hz : z + 1 = ops.size) (hL : ∀ i, i < z → Blk md ops i z) {listed : Array Bool} (hcl : Closed md ops listed) (hr : z ∈ Region.ready md ops listed) : Region.ready md ops (listed.setIfInBounds z true) = [] := by
  have hall : ∀ i, i < z → listed.getD i false = true := fun i hi => by
    cases h : listed.getD i false with
    | true => rfl
    | false => exact absurd hr (hL i hi listed hcl h).2
  refine List.eq_nil_iff_forall_not_mem.2 fun j hj => ?_
  obtain ⟨hjun, oj, hoj, -⟩ := mem_ready.1 hj
  have hjs : j < ops.size := (Array.getElem?_eq_some_iff.1 hoj).1
  have hjf := getD_both hjun
  rcases Decidable.em (z = j) with rfl | hne
  · have hs := hcl.1
    rw [show (listed.setIfInBounds z true).getD z false = true by simp [hs, hjs]] at hjf
    cases hjf
  · rw [getD_set_ne false hne, hall j (by omega)] at hjf
    cases hjf
theorem not_last (hz : z + 1 = ops.size) (hL : ∀ i, i < z → Blk md ops i z) {listed : Array Bool} (hcl : Closed md ops listed) {i j : Nat} (hi : i ∈ Region.ready md ops listed) (hj : j ∈ Region.ready md ops listed) (hij : j ≠ i) : j ≠ z := by
  rintro rfl
  obtain ⟨hiun, oi, hoi, -⟩ := mem_ready.1 hi
  have his : i < ops.size := (Array.getElem?_eq_some_iff.1 hoi).1
  exact (hL i (by omega) listed hcl (getD_both hiun)).2 hj

theorem wpAny_of_bE {Q : Act → World → Prop} {Q' : Exit → Act → World → Prop} (hz : z + 1 = ops.size) (hL : ∀ i, i < z → Blk md ops i z) (hQ : ∀ a w, Q a w → Q' .normal a w) : ∀ (f : Nat) (listed : Array Bool) (a : Act) (w : World), C w → Closed md ops listed → wpBE P md ops C z Q f listed a w → wpAny P md ops Q' f listed a w := by
  intro f
  induction f with
  | zero => intro listed a w hC _ h; exact ⟨h.1, hQ _ _ h.2⟩
  | succ f ih =>
    intro listed a w hC hcl h
    refine ⟨fun h0 => hQ _ _ (h.1 h0), fun i hi => ?_⟩
    have h1 := h.2 i hi
    have hcl' := hcl.set hi
    have go : ∀ a' w', C w' ∨ i = z → wpBE P md ops C z Q f (listed.setIfInBounds i true) a' w' → wpAny P md ops Q' f (listed.setIfInBounds i true) a' w' := by
      intro a' w' hc h'
      rcases hc with hc | rfl
      · exact ih _ _ _ hc hcl' h'
      · have hd := last_done hz hL hcl hi
        cases f with
        | zero => exact ⟨h'.1, hQ _ _ h'.2⟩
        | succ f => exact ⟨fun h0 => hQ _ _ (h'.1 h0), fun j hj => by rw [hd] at hj; cases hj⟩
    unfold bOpE at h1
    unfold wpOp
    split
    · rename_i ho; simp only [ho] at h1; exact go _ _ (.inl hC) h1
    · rename_i o ho
      simp only [ho] at h1
      split
      · rename_i hw
        simp only [hw, if_true] at h1
        split at h1
        · rename_i hc
          exact .inl (Oper.wp_mono (fun a' w' ⟨e, h'⟩ => by subst e; exact go _ _ (.inl hC) h') (wp_of_calm hc hC h1))
        · exact .inl (wp_qf (fun a' w' ⟨h2, h3⟩ => go _ _ h2 h3) h1)
      · rename_i hw; simp only [hw] at h1; exact go _ _ (.inl hC) h1

theorem bOpE_of_yc {i : Nat} {o : Oper} {v : Value} {a : Act} {w : World} {K : Act → World → Prop} (hi : ops[i]? = some o) (hy : YC P ops C o v a) (h : K (a.put o.dst v) w) : bOpE P ops C z i K a w := by
  unfold bOpE
  simp only [hi]
  obtain ⟨hc, ⟨hw, hv⟩ | ⟨hw, rfl⟩⟩ := hy
  · simp only [hw, hc, if_true]; exact ⟨v, hv, h⟩
  · simp only [hw, Bool.false_eq_true, if_false]; exact h
theorem yc_of_bOpE {i : Nat} {o : Oper} {a : Act} {w : World} {K : Act → World → Prop} (hi : ops[i]? = some o) (hc : calm o = true) (h : bOpE P ops C z i K a w) : ∃ v, YC P ops C o v a ∧ K (a.put o.dst v) w := by
  unfold bOpE at h
  simp only [hi] at h
  by_cases hw : Region.wanted o (yielded ops a.tmps) = true
  · simp only [hw, hc, if_true] at h
    obtain ⟨v, h1, h2⟩ := h
    exact ⟨v, ⟨hc, .inl ⟨hw, h1⟩⟩, h2⟩
  · simp only [hw] at h
    exact ⟨undef, ⟨hc, .inr ⟨by simpa using hw, rfl⟩⟩, h⟩
theorem bOpE_put {j : Nat} {oi oj : Oper} {v : Value} (hj : ops[j]? = some oj) (hap : oi.apart ops oj = true) (hsi : ∀ cs b, oi.op ≠ .select cs b) (hsj : ∀ cs b, oj.op ≠ .select cs b)
    {K : Act → World → Prop} {a : Act} {w : World} (hC : C w) (hy : YC P ops C oi v a) (h : bOpE P ops C z j K (a.put oi.dst v) w) :
    bOpE P ops C z j (fun a' w' => YC P ops C oi v a' ∧ K (a'.put oi.dst v) w') a w := by
  obtain ⟨h1, h2, h3⟩ := Oper.apart_spec hap
  unfold bOpE at *
  simp only [hj] at *
  rw [wanted_put oj a oi.dst v h1] at h
  split
  · rename_i hw
    simp only [hw, if_true] at h
    split
    · rename_i hc
      simp only [hc, if_true] at h
      obtain ⟨u, hu, hn⟩ := h
      refine ⟨u, fun w hw' => ?_, hy.moved hsi h3, by rw [← Act.put_comm a v u h2]; exact hn⟩
      have := hu w hw'
      unfold Oper.quietAt at *
      rwa [execOp_put oj hsj a oi.dst v h1] at this
    · rename_i hc
      rw [if_neg hc] at h
      unfold Oper.wp at *
      rw [execOp_put oj hsj a oi.dst v h1] at h
      exact upon_put h2 _ (fun a' u w' e ⟨k1, k2⟩ => ⟨k1, (hy.moved hsi h3 (u := u)).tmps e, k2⟩) h
  · rename_i hw
    simp only [hw] at h
    exact ⟨hy.moved hsi h3, by rw [← Act.put_comm a v undef h2]; exact h⟩

theorem still_firstE {Q : Act → World → Prop} {i : Nat} {oi : Oper} {v : Value} (hz : z + 1 = ops.size) (hL : ∀ i, i < z → Blk md ops i z) (hi : ops[i]? = some oi) (hsel : ∀ (j : Nat) (o : Oper) cs b, ops[j]? = some o → o.op ≠ .select cs b) :
    ∀ (fuel : Nat) (listed : Array Bool) (a : Act) (w : World), C w → Closed md ops listed →
      (∀ j oj, ops[j]? = some oj → j ≠ i → listed.getD j true = false → (∀ e ∈ oj.after, Region.binds md e = true → e.on ≠ i) → oi.apart ops oj = true) →
      i ∈ Region.ready md ops listed → YC P ops C oi v a → wpBE P md ops C z Q fuel (listed.setIfInBounds i true) (a.put oi.dst v) w → wpBE P md ops C z Q (fuel + 1) listed a w := by
  intro fuel
  induction fuel with
  | zero =>
    intro listed a w hC _ _ hr hy H
    refine ⟨fun h => (by rw [h] at hr; cases hr), fun j hj => ?_⟩
    rcases Decidable.em (j = i) with rfl | hji
    · exact bOpE_of_yc hi hy H
    · have := ready_mono hj hji
      rw [H.1] at this
      cases this
  | succ fuel ih =>
    intro listed a w hC hcl hfree hr hy H
    refine ⟨fun h => (by rw [h] at hr; cases hr), fun j hj => ?_⟩
    rcases Decidable.em (j = i) with rfl | hji
    · exact bOpE_of_yc hi hy H
    · obtain ⟨hjun, oj, hoj, hall⟩ := mem_ready.1 hj
      have hjz := not_last hz hL hcl hr hj hji
      have hnot : ∀ e ∈ oj.after, Region.binds md e = true → e.on ≠ i := fun e he hb heq => by
        have h1 := hall e he hb
        rw [heq, getD_both (mem_ready.1 hr).1] at h1
        cases h1
      refine bOpE_mono hC (fun a' w' hC' h3 => ?_) (bOpE_put hoj (hfree j oj hoj hji hjun hnot) (fun cs b => hsel i oi cs b hi) (fun cs b => hsel j oj cs b hoj) hC hy (H.2 j (ready_mono hj hji)))
      refine ih (listed.setIfInBounds j true) a' w' (hC'.resolve_right hjz) (hcl.set hj) (fun k ok hk hki hu hno => hfree k ok hk hki ?_ hno) (ready_mono hr (Ne.symm hji)) h3.1 ?_
      · rcases Decidable.em (j = k) with rfl | hjk
        · exact hjun
        · rwa [getD_set_ne true hjk] at hu
      · rw [Array.setIfInBounds_comm _ _ hji]
        exact h3.2

theorem bOpE_some {k : Nat} {o : Oper} {K : Act → World → Prop} {a : Act} {w : World} (hk : ops[k]? = some o) (hC : C w) (h : bOpE P ops C z k K a w) : ∃ a' u w', a'.tmps = (a.put o.dst u).tmps ∧ (C w' ∨ k = z) ∧ K a' w' := by
  unfold bOpE at h
  simp only [hk] at h
  split at h
  · split at h
    · obtain ⟨v, _, h2⟩ := h
      exact ⟨_, v, w, rfl, .inl hC, h2⟩
    · unfold Oper.wp at h
      generalize (execOp a.eval o).run P w = r at h
      cases r with
      | ok n w' =>
        cases n <;> simp only [Oper.upon] at h
        case value u => exact ⟨_, u, _, rfl, h.1, h.2⟩
        case skip => exact ⟨_, undef, _, rfl, h.1, h.2⟩
        case defer x => exact ⟨_, undef, _, (by cases o.dst <;> rfl), h.1, h.2⟩
        case enter f args =>
          obtain ⟨e, w'', fr, he, _⟩ := h []
          cases e
          · exact ⟨_, _, _, rfl, he.1, he.2⟩
          · exact absurd he id
          · exact absurd he not_lets
        case row row args =>
          obtain ⟨v, w'', he, _⟩ := h (Frame.ofRow P row args .normal) []
          exact ⟨_, _, _, rfl, he.1, he.2⟩
      | halt x w' => cases x <;> simp only [Oper.upon, QF] at h
  · exact ⟨_, undef, w, rfl, .inl hC, h⟩

theorem bar_firstE {Q : Act → World → Prop} {k : Nat} {ok : Oper} (hz : z + 1 = ops.size) (hL : ∀ i, i < z → Blk md ops i z) (hk : ops[k]? = some ok) (hkc : calm ok = false) (hB : barB md ops = true) (hsel : ∀ (j : Nat) (o : Oper) cs b, ops[j]? = some o → o.op ≠ .select cs b) :
    ∀ (fuel : Nat) (listed : Array Bool) (a : Act) (w : World), C w →
      (∀ j oj, ops[j]? = some oj → j ≠ k → listed.getD j true = false → (∀ e ∈ oj.after, Region.binds md e = true → e.on ≠ k) → ok.apart ops oj = true) →
      (∀ m, k ≤ m → calmAt ops m = false → listed.getD m false = false) → (∀ m, m < k → calmAt ops m = false → listed.getD m true = true) → Closed md ops listed →
      k ∈ Region.ready md ops listed → bOpE P ops C z k (wpBE P md ops C z Q fuel (listed.setIfInBounds k true)) a w → wpBE P md ops C z Q (fuel + 1) listed a w := by
  have hkA : calmAt ops k = false := by unfold calmAt; rw [hk]; exact hkc
  intro fuel
  induction fuel with
  | zero =>
    intro listed a w hC hfree hun hbe hcl hr H
    refine ⟨fun h => (by rw [h] at hr; cases hr), fun j hj => ?_⟩
    rcases Decidable.em (j = k) with rfl | hjk
    · exact H
    · obtain ⟨a', u, w', _, _, h3⟩ := bOpE_some hk hC H
      have := ready_mono hj hjk
      rw [h3.1] at this
      cases this
  | succ fuel ih =>
    intro listed a w hC hfree hun hbe hcl hr H
    refine ⟨fun h => (by rw [h] at hr; cases hr), fun j hj => ?_⟩
    rcases Decidable.em (j = k) with rfl | hjk
    · exact H
    · obtain ⟨hjun, oj, hoj, hall⟩ := mem_ready.1 hj
      have hkz : k ≠ z := not_last hz hL hcl hj hr (Ne.symm hjk)
      have hjc := calm_ready hB hcl hkA hun hbe hj hjk
      have hjc' : calm oj = true := by unfold calmAt at hjc; rw [hoj] at hjc; exact hjc
      have hnot : ∀ e ∈ oj.after, Region.binds md e = true → e.on ≠ k := fun e he hb heq => by
        have h1 := hall e he hb
        rw [heq, getD_both (mem_ready.1 hr).1] at h1
        cases h1
      obtain ⟨p1, p2, p3⟩ := Oper.apart_spec (hfree j oj hoj hjk hjun hnot)
      have q2 : ∀ d, oj.dst = some d → ok.dst ≠ some d := fun d hd he => p2 d he hd
      have hv : ∃ v, YC P ops C oj v a := by
        obtain ⟨a', u, w', e, _, h3⟩ := bOpE_some hk hC H
        obtain ⟨v, hy, _⟩ := yc_of_bOpE hoj hjc' (h3.2 j (ready_mono hj hjk))
        exact ⟨v, (hy.tmps e.symm).back (fun cs b => hsel j oj cs b hoj) p1⟩
      obtain ⟨v, hy⟩ := hv
      refine bOpE_of_yc hoj hy (ih (listed.setIfInBounds j true) (a.put oj.dst v) w hC (fun m om hm hmk hu hno => hfree m om hm hmk ?_ hno) (fun m hm hc => ?_) (fun m hm hc => by rw [getD_set_ne true (fun e => by subst e; rw [hjc] at hc; cases hc)]; exact hbe m hm hc) (hcl.set hj) (ready_mono hr (Ne.symm hjk)) ?_)
      · rcases Decidable.em (j = m) with rfl | hjm
        · exact hjun
        · rwa [getD_set_ne true hjm] at hu
      · rcases Decidable.em (j = m) with rfl | hjm
        · rw [hjc] at hc; cases hc
        · rw [getD_set_ne false hjm]; exact hun m hm hc
      · rw [Array.setIfInBounds_comm _ _ hjk]
        unfold bOpE at H ⊢
        simp only [hk] at H ⊢
        rw [wanted_put ok a oj.dst v p3]
        have step : ∀ a' u w', a'.tmps = (a.put ok.dst u).tmps → C w' ∨ k = z → wpBE P md ops C z Q (fuel + 1) (listed.setIfInBounds k true) a' w' → wpBE P md ops C z Q fuel ((listed.setIfInBounds k true).setIfInBounds j true) (a'.put oj.dst v) w' := by
          intro a' u w' e hC' h'
          obtain ⟨v', hy', h4⟩ := yc_of_bOpE hoj hjc' (h'.2 j (ready_mono hj hjk))
          have hy2 : YC P ops C oj v a' := (hy.moved (fun cs b => hsel j oj cs b hoj) p1).tmps e
          have := yc_same (hC'.resolve_right hkz) hy2 hy'
          subst this
          exact h4
        split
        · rename_i hw
          simp only [hw, if_true] at H
          simp only [hkc, Bool.false_eq_true, if_false] at H ⊢
          unfold Oper.wp at H ⊢
          rw [execOp_put ok (fun cs b => hsel k ok cs b hk) a oj.dst v p3]
          exact upon_back q2 _ (fun a' u w' e ⟨k1, k2⟩ => ⟨k1, step a' u w' e k1 k2⟩) H
        · rename_i hw
          simp only [hw] at H
          have := step _ undef w rfl (.inl hC) H
          rw [Act.put_comm a v undef q2]
          exact this

/-- The walk in the order of the text; behind the last one nothing more is read. -/
def wpMixE (P : Program) (ops : Array Oper) (C : World → Prop) (Q : Act → World → Prop) : List Oper → Act → World → Prop
  | [], a, w => Q a w
  | o :: rest, a, w => if Region.wanted o (yielded ops a.tmps) then (if calm o then o.quiet P a C (fun a' => wpMixE P ops C Q rest a' w) else o.wp P a w (fun a' w' => (C w' ∨ rest = []) ∧ wpMixE P ops C Q rest a' w') QF) else wpMixE P ops C Q rest (a.put o.dst undef) w

theorem wpBE_lex {Q : Act → World → Prop} (hz : z + 1 = ops.size) (hL : ∀ i, i < z → Blk md ops i z) (hs : Region.noSelect ops = true) (hB : barB md ops = true) : ∀ (l : List Oper) (k : Nat) (listed : Array Bool) (a : Act) (w : World), (∀ j, l[j]? = ops[k + j]?) →
    (∀ m, k ≤ m → listed.getD m false = false) → (∀ m, m < k → listed.getD m true = true) → k + l.length = ops.size → Closed md ops listed →
    Region.lexFrom md ops l.length k listed = true → C w ∨ l = [] → wpMixE P ops C Q l a w → wpBE P md ops C z Q l.length listed a w := by
  intro l
  induction l with
  | nil => intro k listed a w _ _ _ _ _ hL _ h; exact ⟨by simpa [Region.lexFrom] using hL, h⟩
  | cons o l ih =>
    intro k listed a w hl hun hbe hlen hcl hLx hC h
    have hC : C w := hC.resolve_right (by simp)
    have hsz := hcl.1
    have h0 : ops[k]? = some o := by simpa using (hl 0).symm
    have hks : k < ops.size := (Array.getElem?_eq_some_iff.1 h0).1
    simp only [List.length_cons, Region.lexFrom, Bool.and_eq_true] at hLx
    obtain ⟨⟨hr, hf⟩, hL'⟩ := hLx
    have hr' : k ∈ Region.ready md ops listed := by simpa using hr
    have next : ∀ a' w', C w' ∨ l = [] → wpMixE P ops C Q l a' w' → wpBE P md ops C z Q l.length (listed.setIfInBounds k true) a' w' := fun a' w' hC' h' =>
      ih (k + 1) _ a' w' (fun j => by have := hl (j + 1); simpa [Nat.add_assoc, Nat.add_comm 1 j] using this) (fun m hm => by rw [getD_set_ne false (by omega)]; exact hun m (by omega))
        (fun m hm => by
          rcases Decidable.em (k = m) with rfl | hkm
          · simp [hsz, hks]
          · rw [getD_set_ne true hkm]; exact hbe m (by omega)) (by simp only [List.length_cons] at hlen; omega) (hcl.set hr') hL' hC' h'
    by_cases hc : calm o = true
    · have hq : bOpE P ops C z k (wpBE P md ops C z Q l.length (listed.setIfInBounds k true)) a w := by
        unfold wpMixE at h
        unfold bOpE
        simp only [h0, hc, if_true] at h ⊢
        split
        · rename_i hw
          simp only [hw, if_true] at h
          exact Oper.quiet_mono (fun a' h' => next a' w (.inl hC) h') h
        · rename_i hw
          simp only [hw] at h
          exact next _ _ (.inl hC) h
      obtain ⟨v, hy, hK⟩ := yc_of_bOpE h0 hc hq
      exact still_firstE hz hL h0 (Region.noSelect_spec hs) l.length listed a w hC hcl (Region.free_spec h0 hf) hr' hy hK
    · have hc' : calm o = false := by simpa using hc
      refine bar_firstE hz hL h0 hc' hB (Region.noSelect_spec hs) l.length listed a w hC (Region.free_spec h0 hf) (fun m hm _ => hun m hm) (fun m hm _ => hbe m hm) hcl hr' ?_
      unfold wpMixE at h
      unfold bOpE
      simp only [h0, hc', Bool.false_eq_true, if_false] at h ⊢
      split
      · rename_i hw
        simp only [hw, if_true] at h
        have hzk : l = [] → k = z := fun e => by rw [e] at hlen; simp at hlen; omega
        exact wp_qf (fun a' w' ⟨k1, k2⟩ => ⟨k1.elim .inl (fun e => .inr (hzk e)), next a' w' k1 k2⟩) h
      · rename_i hw
        simp only [hw] at h
        exact next _ _ (.inl hC) h

def lastB (md : Region.Mode) (ops : Array Oper) : Bool := decide (0 < ops.size) && (List.range (ops.size - 1)).all fun i => (downOf md ops i).getD (ops.size - 1) false
def mixEB (ops : Array Oper) : Bool := Region.lexB .any ops && barB .any ops && lastB .any ops

theorem wp_region_mixE {id : Nat} {Q : Exit → Act → World → Prop} {a : Act} {w : World} {l : List Oper} (hm : P.follows .mixedOrders = true) (hB : mixEB l.toArray = true) (hC : C w.drew)
    (h : wpMixE P l.toArray C (Q .normal) l a w.drew) : (Code.region id l.toArray true).wp P Q a w := by
  simp only [mixEB, Region.lexB, lastB, Bool.and_eq_true, decide_eq_true_eq] at hB
  obtain ⟨⟨⟨hb1, hb2⟩, hb3⟩, hb4, hb5⟩ := hB
  have hz : (l.toArray.size - 1) + 1 = l.toArray.size := by omega
  have hL : ∀ i, i < l.toArray.size - 1 → Blk .any l.toArray i (l.toArray.size - 1) := fun i hi => downOf_spec _ (List.all_eq_true.1 hb5 i (List.mem_range.2 hi))
  have hcl0 : Closed .any l.toArray (Array.replicate l.toArray.size false) := ⟨by simp, fun j oj _ hl => (by rw [getD_replicate_false] at hl; cases hl)⟩
  refine wp_region_any hm (wpAny_of_bE (C := C) (Q := Q .normal) hz hL (fun _ _ h => h) _ _ _ _ hC hcl0 ?_)
  have := wpBE_lex (C := C) (md := .any) hz hL hb1 hb3 l 0 (Array.replicate l.toArray.size false) a w.drew (by simp) (fun m _ => getD_replicate_false _ _) (fun m hm => absurd hm (by omega)) (by simp) hcl0 (by simpa using hb2) (.inl hC) h
  simpa using this

theorem wpMixE_seg {Q : Act → World → Prop} {w : World} : ∀ (n : Nat) (l : List Oper) (a : Act), (l.take n).all calm = true → wpQuiet P ops C (fun a' => wpMixE P ops C Q (l.drop n) a' w) (l.take n) a → wpMixE P ops C Q l a w := by
  intro n
  induction n with
  | zero => intro l a _ h; simpa [wpQuiet] using h
  | succ n ih =>
    intro l a hc h
    cases l with
    | nil => simpa [wpQuiet] using h
    | cons o l =>
      simp only [List.take_succ_cons, List.all_cons, Bool.and_eq_true] at hc
      simp only [List.take_succ_cons, List.drop_succ_cons, wpQuiet] at h
      unfold wpMixE
      simp only [hc.1, if_true]
      split
      · rename_i hw
        simp only [hw, if_true] at h
        exact Oper.quiet_mono (fun a' h' => ih l a' hc.2 h') h
      · rename_i hw
        simp only [hw] at h
        exact ih l _ hc.2 h
def MixGoE (P : Program) (ops : Array Oper) (C : World → Prop) (Q : Act → World → Prop) (rest : List Oper) (a : Act) (w : World) : Prop := (C w ∨ rest = []) ∧ wpMixE P ops C Q rest a w
theorem wpMixE_bar {Q : Act → World → Prop} {w : World} {o : Oper} {rest : List Oper} {a : Act} (hc : calm o = false) (hw : Region.wanted o (yielded ops a.tmps) = true)
    (h : wpList P ops (OnlyNormal (MixGoE P ops C Q rest)) [o] a w) : wpMixE P ops C Q (o :: rest) a w := by
  unfold wpMixE
  simp only [hc, hw, if_true, Bool.false_eq_true, if_false]
  simp only [wpList, hw, if_true, onlyNormal_normal] at h
  rcases h with h | ⟨_, a', w', h⟩
  · unfold Oper.wp at *
    generalize (execOp a.eval o).run P w = r at *
    cases r with
    | ok n w' =>
      cases n <;> simp only [Oper.upon] at h ⊢ <;>
        first
          | exact h
          | exact Calls.mono h (fun e w'' he => by cases e <;> first | exact he | exact absurd he id | (obtain ⟨_, _, hf⟩ := he; exact absurd hf id))
          | exact Rows.mono h (fun _ _ he => he)
    | halt x w' => cases x <;> simp only [Oper.upon, OnlyNormal] at h
  · exact absurd h id
theorem wpMixE_skip {Q : Act → World → Prop} {w : World} {o : Oper} {rest : List Oper} {a : Act} (hw : Region.wanted o (yielded ops a.tmps) = false) (h : wpMixE P ops C Q rest (a.put o.dst undef) w) : wpMixE P ops C Q (o :: rest) a w := by
  unfold wpMixE
  simp only [hw, Bool.false_eq_true, if_false]
  exact h
theorem wpMixE_nil {Q : Act → World → Prop} {a : Act} {w : World} (h : Q a w) : wpMixE P ops C Q [] a w := h
end

/-- All but the last operation turn blocks of F alone. -/
theorem wp_region_chgE {P : Program} (F : Nat → Prop) {id : Nat} {Q : Exit → Act → World → Prop} {a : Act} {w : World} {l : List Oper} (hm : P.follows .mixedOrders = true) (hB : mixEB l.toArray = true)
    (h : wpMixE P l.toArray (fun w' => ∃ u, w' = mixF F w u) (Q .normal) l a w.drew) : (Code.region id l.toArray true).wp P Q a w :=
  wp_region_mixE hm hB (C := fun w' => ∃ u, w' = mixF F w u) (chg_mixF (Chg.refl F w).drew) h
theorem mixGo_in {P : Program} {ops : Array Oper} {F : Nat → Prop} {w0 w : World} {Q : Act → World → Prop} {rest : List Oper} {a : Act} (hC : Chg F w0 w) (h : wpMixE P ops (fun w' => ∃ u, w' = mixF F w0 u) Q rest a w) : MixGoE P ops (fun w' => ∃ u, w' = mixF F w0 u) Q rest a w := ⟨.inl (chg_mixF hC), h⟩
theorem mixGo_fin {P : Program} {ops : Array Oper} {C : World → Prop} {w : World} {Q : Act → World → Prop} {a : Act} (h : Q a w) : OnlyNormal (MixGoE P ops C Q []) Exit.normal a w := ⟨.inr rfl, h⟩
theorem mixGo_end {P : Program} {ops : Array Oper} {C : World → Prop} {w : World} {Q : Act → World → Prop} {a : Act} (h : Q a w) : MixGoE P ops C Q [] a w := ⟨.inr rfl, h⟩

end Go.Proofs.Ytkedfipeebjcjaa

/-
  Part of the proof of EngineRanges.
-/
import Derived.Test.YtpkbimmhimgamaaPAD
import Derived.Test.YtpkbimmhimgamaaPAL
import Derived.Test.YtpkbimmhimgamaaPAH
import Derived.Test.YtpkbimmhimgamaaPAE
namespace Go.Proofs.Ytpkbimmhimgamaa
set_option linter.unusedSimpArgs false
set_option linter.unusedVariables false
set_option linter.unnecessarySimpa false
open Go.RowKit
section
variable {P : Program} {ops : Array Oper} {md : Region.Mode} {C : World → Prop}
def calmX (ops : Array Oper) (i q : Nat) : Bool := calmAt ops q || q == i
def barX (md : Region.Mode) (ops : Array Oper) (i : Nat) : Bool :=
  (List.range ops.size).all fun m => calmX ops i m || (List.range m).all (calmX ops i) || (List.range m).any fun p => !calmX ops i p && (List.range m).all (fun q => decide (q ≤ p) || calmX ops i q) && (downOf md ops p).getD m false
theorem barX_spec {i : Nat} (h : barX md ops i = true) {k m : Nat} (hk : calmX ops i k = false) (hkm : k < m) (hm : calmX ops i m = false) (hms : m < ops.size) :
    ∃ p, k ≤ p ∧ p < m ∧ calmX ops i p = false ∧ Blk md ops p m := by
  have h1 := List.all_eq_true.1 h m (List.mem_range.2 hms)
  simp only [hm, Bool.false_or, Bool.or_eq_true] at h1
  rcases h1 with h1 | h1
  · have := List.all_eq_true.1 h1 k (List.mem_range.2 hkm)
    rw [hk] at this
    cases this
  · obtain ⟨p, hp, h2⟩ := List.any_eq_true.1 h1
    simp only [Bool.and_eq_true, Bool.not_eq_true'] at h2
    have := List.all_eq_true.1 h2.1.2 k (List.mem_range.2 hkm)
    rw [hk] at this
    simp only [Bool.or_false, decide_eq_true_eq] at this
    exact ⟨p, this, List.mem_range.1 hp, h2.1.1, downOf_spec m h2.2⟩
theorem calm_readyX {i : Nat} (hB : barX md ops i = true) {k j : Nat} {listed : Array Bool} (hcl : Closed md ops listed) (hk : calmX ops i k = false) (hun : ∀ m, k ≤ m → calmX ops i m = false → listed.getD m false = false)
    (hbe : ∀ m, m < k → calmX ops i m = false → listed.getD m true = true) (hj : j ∈ Region.ready md ops listed) (hjk : j ≠ k) : calmX ops i j = true := by
  cases hc : calmX ops i j with
  | true => rfl
  | false =>
    exfalso
    obtain ⟨hjun, oj, hoj, hall⟩ := mem_ready.1 hj
    have hjs : j < ops.size := (Array.getElem?_eq_some_iff.1 hoj).1
    rcases Nat.lt_or_gt_of_ne hjk with h | h
    · rw [hbe j h hc] at hjun; cases hjun
    · obtain ⟨p, hp1, hp2, hp3, hp4⟩ := barX_spec hB hk h hc hjs
      exact (hp4 listed hcl (hun p hp1 hp3)).2 hj
/-- A calm operation j comes up ahead of a barrier k that might have come up. -/
theorem bar_past {Q : Act → World → Prop} {k j : Nat} {ok oj : Oper} (hk : ops[k]? = some ok) (hkc : calm ok = false) (hsel : ∀ (j : Nat) (o : Oper) cs b, ops[j]? = some o → o.op ≠ .select cs b) (hoj : ops[j]? = some oj) (hjc : calm oj = true) (hjk : j ≠ k)
    {fuel : Nat} {listed : Array Bool} {a : Act} {w : World} {v : Value} (hC : C w) (hap : ok.apart ops oj = true) (hj : j ∈ Region.ready md ops listed) (hy : YC P ops C oj v a)
    (H : bOp P ops C k (wpB P md ops C Q (fuel + 1) (listed.setIfInBounds k true)) a w) : bOp P ops C k (wpB P md ops C Q fuel ((listed.setIfInBounds j true).setIfInBounds k true)) (a.put oj.dst v) w := by
  obtain ⟨p1, p2, p3⟩ := Oper.apart_spec hap
  have q2 : ∀ d, oj.dst = some d → ok.dst ≠ some d := fun d hd he => p2 d he hd
  rw [Array.setIfInBounds_comm _ _ hjk]
  unfold bOp at H ⊢
  simp only [hk] at H ⊢
  rw [wanted_put ok a oj.dst v p3]
  have step : ∀ a' u w', a'.tmps = (a.put ok.dst u).tmps → C w' → wpB P md ops C Q (fuel + 1) (listed.setIfInBounds k true) a' w' → wpB P md ops C Q fuel ((listed.setIfInBounds k true).setIfInBounds j true) (a'.put oj.dst v) w' := by
    intro a' u w' e hC' h'
    obtain ⟨v', hy', h4⟩ := yc_of_bOp hoj hjc (h'.2 j (ready_mono hj hjk))
    have hy2 : YC P ops C oj v a' := (hy.moved (fun cs b => hsel j oj cs b hoj) p1).tmps e
    have := yc_same hC' hy2 hy'
    subst this
    exact h4
  split
  · rename_i hw
    simp only [hw, if_true] at H
    simp only [hkc, Bool.false_eq_true, if_false] at H ⊢
    unfold Oper.wp at H ⊢
    rw [execOp_put ok (fun cs b => hsel k ok cs b hk) a oj.dst v p3]
    exact upon_back q2 _ (fun a' u w' e ⟨k1, k2⟩ => ⟨k1, step a' u w' e k1 k2⟩) H
  · rename_i hw
    simp only [hw] at H
    have := step _ undef w rfl hC H
    rw [Act.put_comm a v undef q2]
    exact this
/-- Two barriers that may come up: either may be taken first. -/
theorem bar_firstX {Q : Act → World → Prop} {k i : Nat} {ok oi : Oper} (hk : ops[k]? = some ok) (hkc : calm ok = false) (hki : k ≠ i) (hi : ops[i]? = some oi) (hic : calm oi = false) (hB : barX md ops i = true) (hsel : ∀ (j : Nat) (o : Oper) cs b, ops[j]? = some o → o.op ≠ .select cs b) :
    ∀ (fuel : Nat) (listed : Array Bool) (a : Act) (w : World), C w →
      (∀ j oj, ops[j]? = some oj → j ≠ k → listed.getD j true = false → (∀ e ∈ oj.after, Region.binds md e = true → e.on ≠ k) → ok.apart ops oj = true) →
      (listed.getD i true = false → ∀ j oj, ops[j]? = some oj → j ≠ i → listed.getD j true = false → (∀ e ∈ oj.after, Region.binds md e = true → e.on ≠ i) → oi.apart ops oj = true) →
      (∀ m, k ≤ m → calmX ops i m = false → listed.getD m false = false) → (∀ m, m < k → calmX ops i m = false → listed.getD m true = true) → Closed md ops listed →
      k ∈ Region.ready md ops listed → bOp P ops C k (wpB P md ops C Q fuel (listed.setIfInBounds k true)) a w →
      (listed.getD i true = false → i ∈ Region.ready md ops listed ∧ bOp P ops C i (wpB P md ops C Q fuel (listed.setIfInBounds i true)) a w) → wpB P md ops C Q (fuel + 1) listed a w := by
  have hkA : calmX ops i k = false := by unfold calmX calmAt; rw [hk]; simp [hkc, hki]
  intro fuel
  induction fuel with
  | zero =>
    intro listed a w hC hfree hfrei hun hbe hcl hr H Hi
    refine ⟨fun h => (by rw [h] at hr; cases hr), fun j hj => ?_⟩
    rcases Decidable.em (j = k) with rfl | hjk
    · exact H
    · obtain ⟨a', u, w', _, _, h3⟩ := bOp_some hk hC H
      have := ready_mono hj hjk
      rw [h3.1] at this
      cases this
  | succ fuel ih =>
    intro listed a w hC hfree hfrei hun hbe hcl hr H Hi
    refine ⟨fun h => (by rw [h] at hr; cases hr), fun j hj => ?_⟩
    rcases Decidable.em (j = k) with rfl | hjk
    · exact H
    · obtain ⟨hjun, oj, hoj, hall⟩ := mem_ready.1 hj
      rcases Decidable.em (j = i) with rfl | hji
      · exact (Hi hjun).2
      · have hjc := calm_readyX hB hcl hkA hun hbe hj hjk
        have hjc' : calm oj = true := by unfold calmX calmAt at hjc; rw [hoj] at hjc; simpa [hji] using hjc
        have hnot : ∀ b, listed.getD b true = false → ∀ e ∈ oj.after, Region.binds md e = true → e.on ≠ b := fun b hb' e he hb heq => by
          have h1 := hall e he hb
          rw [heq, getD_both hb'] at h1
          cases h1
        have hap := hfree j oj hoj hjk hjun (hnot k (mem_ready.1 hr).1)
        obtain ⟨p1, p2, p3⟩ := Oper.apart_spec hap
        have hv : ∃ v, YC P ops C oj v a := by
          obtain ⟨a', u, w', e, _, h3⟩ := bOp_some hk hC H
          obtain ⟨v, hy, _⟩ := yc_of_bOp hoj hjc' (h3.2 j (ready_mono hj hjk))
          exact ⟨v, (hy.tmps e.symm).back (fun cs b => hsel j oj cs b hoj) p1⟩
        obtain ⟨v, hy⟩ := hv
        have hun1 : ∀ m, listed.getD m true = false ∨ (listed.setIfInBounds j true).getD m true = true ∨ True := fun _ => .inr (.inr trivial)
        refine bOp_of_yc hoj hy (ih (listed.setIfInBounds j true) (a.put oj.dst v) w hC (fun m om hm hmk hu hno => hfree m om hm hmk ?_ hno) (fun hl m om hm hmk hu hno => hfrei ?_ m om hm hmk ?_ hno) (fun m hm hc => ?_) (fun m hm hc => by rw [getD_set_ne true (fun e => by subst e; rw [hjc] at hc; cases hc)]; exact hbe m hm hc) (hcl.set hj) (ready_mono hr (Ne.symm hjk)) ?_ ?_)
        · rcases Decidable.em (j = m) with rfl | hjm
          · exact hjun
          · rwa [getD_set_ne true hjm] at hu
        · rwa [getD_set_ne true hji] at hl
        · rcases Decidable.em (j = m) with rfl | hjm
          · exact hjun
          · rwa [getD_set_ne true hjm] at hu
        · rcases Decidable.em (j = m) with rfl | hjm
          · rw [hjc] at hc; cases hc
          · rw [getD_set_ne false hjm]; exact hun m hm hc
        · exact bar_past hk hkc hsel hoj hjc' hjk hC hap hj hy H
        · intro hl
          rw [getD_set_ne true hji] at hl
          exact ⟨ready_mono (Hi hl).1 (Ne.symm hji), bar_past hi hic hsel hoj hjc' hji hC (hfrei hl j oj hoj hji hjun (hnot i hl)) hj hy (Hi hl).2⟩
/-- The walk while i has not come up: n operations stand ahead of it; at each barrier both ways. -/
def wpFl (P : Program) (ops : Array Oper) (C : World → Prop) (Q : Act → World → Prop) (oi : Oper) : Nat → List Oper → Act → World → Prop
  | 0, l, a, w => wpMix P ops C Q l a w
  | _ + 1, [], a, w => Q a w
  | n + 1, o :: rest, a, w => if Region.wanted o (yielded ops a.tmps) then (if calm o then o.quiet P a C (fun a' => wpFl P ops C Q oi n rest a' w) else o.wp P a w (fun a' w' => C w' ∧ wpFl P ops C Q oi n rest a' w') QF ∧ oi.wp P a w (fun a' w' => C w' ∧ wpMix P ops C Q ((o :: rest).eraseIdx (n + 1)) a' w') QF) else wpFl P ops C Q oi n rest (a.put o.dst undef) w
/-- Nothing waits for what comes behind it. -/
def Back (md : Region.Mode) (ops : Array Oper) : Prop := ∀ k o, ops[k]? = some o → ∀ e ∈ o.after, Region.binds md e = true → e.on < k
/-- What does not wait for another operation ahead of it stands apart from it. -/
def Apart (md : Region.Mode) (ops : Array Oper) : Prop := ∀ k ok j oj, ops[k]? = some ok → ops[j]? = some oj → k < j → (∀ e ∈ oj.after, Region.binds md e = true → e.on ≠ k) → ok.apart ops oj = true
theorem wpB_one {Q : Act → World → Prop} {k : Nat} {fuel : Nat} {listed : Array Bool} {a : Act} {w : World} (hk : k ∈ Region.ready md ops listed) (hr : ∀ j ∈ Region.ready md ops listed, j = k) (H : bOp P ops C k (wpB P md ops C Q fuel (listed.setIfInBounds k true)) a w) : wpB P md ops C Q (fuel + 1) listed a w :=
  ⟨fun h => (by rw [h] at hk; cases hk), fun j hj => (hr j hj) ▸ H⟩
theorem bOp_of_mix {Q : Act → World → Prop} {k : Nat} {o : Oper} {rest : List Oper} {K : Act → World → Prop} {a : Act} {w : World} (hC : C w) (hk : ops[k]? = some o) (h : wpMix P ops C Q (o :: rest) a w) (hK : ∀ a' w', C w' → wpMix P ops C Q rest a' w' → K a' w') : bOp P ops C k K a w := by
  unfold wpMix at h
  unfold bOp
  simp only [hk]
  split
  · rename_i hw
    simp only [hw, if_true] at h
    split
    · rename_i hc
      simp only [hc, if_true] at h
      exact Oper.quiet_mono (fun a' h' => hK a' w hC h') h
    · rename_i hc
      simp only [hc] at h
      exact wp_qf (fun a' w' ⟨k1, k2⟩ => ⟨k1, hK a' w' k1 k2⟩) h
  · rename_i hw
    simp only [hw] at h
    exact hK _ _ hC h
theorem getD_tf {l : Array Bool} {i : Nat} (h : l.getD i true = true) (hi : i < l.size) : l.getD i false = true := by
  simp [hi] at h ⊢
  exact h
theorem ready_of {k : Nat} {o : Oper} {listed : Array Bool} (hk : ops[k]? = some o) (hb : Back md ops) (hun : listed.getD k true = false) (hsz : listed.size = ops.size) (hbe : ∀ m, m < k → listed.getD m true = true) : k ∈ Region.ready md ops listed := by
  have hks : k < ops.size := (Array.getElem?_eq_some_iff.1 hk).1
  exact mem_ready.2 ⟨hun, o, hk, fun e he hbd => getD_tf (hbe _ (hb k o hk e he hbd)) (by have := hb k o hk e he hbd; omega)⟩
theorem ready_nil {listed : Array Bool} (hz : listed.size = ops.size) (h : ∀ m, m < ops.size → listed.getD m true = true) : Region.ready md ops listed = [] := by
  apply List.eq_nil_iff_forall_not_mem.2
  intro j hj
  obtain ⟨hun, o, ho, _⟩ := mem_ready.1 hj
  rw [h j (Array.getElem?_eq_some_iff.1 ho).1] at hun
  cases hun
theorem Apart.free {k : Nat} {ok : Oper} {listed : Array Bool} (hA : Apart md ops) (hk : ops[k]? = some ok) (hbe : ∀ m, m < k → listed.getD m true = true) : ∀ j oj, ops[j]? = some oj → j ≠ k → listed.getD j true = false → (∀ e ∈ oj.after, Region.binds md e = true → e.on ≠ k) → ok.apart ops oj = true := by
  intro j oj hj hjk hun hno
  rcases Nat.lt_or_ge j k with h | h
  · rw [hbe j h] at hun; cases hun
  · exact hA k ok j oj hk hj (by omega) hno
theorem set_get {listed : Array Bool} {k : Nat} (hk : k < listed.size) (m : Nat) : (listed.setIfInBounds k true).getD m true = if m = k then true else listed.getD m true := by
  split
  · rename_i h
    subst h
    simp [hk]
  · rename_i h
    rw [getD_set_ne true (fun e => h e.symm)]
theorem wpB_done {Q : Act → World → Prop} {i : Nat} {oi ot : Oper} (hs : Region.noSelect ops = true) (hB : barX md ops i = true) (hb : Back md ops) (hA : Apart md ops) (hz : ops.size = i + 2) (hi : ops[i]? = some oi) (hic : calm oi = false) (ht : ops[i + 1]? = some ot) :
    ∀ (l : List Oper) (k : Nat) (listed : Array Bool) (a : Act) (w : World), (∀ j, j < l.length → l[j]? = ops[k + j]?) → k + l.length = i → (∀ m, k ≤ m → m ≠ i → listed.getD m false = false) → (∀ m, m < k → listed.getD m true = true) → listed.getD i true = true → Closed md ops listed →
    C w → wpMix P ops C Q (l ++ [ot]) a w → wpB P md ops C Q (l.length + 1) listed a w := by
  intro l
  induction l with
  | nil =>
    intro k listed a w _ hlen hun hbe hli hcl hC h
    have hsz := hcl.1
    have hki : k = i := by simpa using hlen
    have hall : ∀ m, m < i + 1 → listed.getD m true = true := fun m hm => by
      rcases Decidable.em (m = i) with rfl | hmi
      · exact hli
      · exact hbe m (by omega)
    have ht' : listed.getD (i + 1) true = false := getD_in (by omega) (hun (i + 1) (by omega) (by omega))
    refine wpB_one (ready_of ht hb ht' hsz hall) (fun j hj => ?_) (bOp_of_mix hC ht h fun a' w' hC' h' => ⟨ready_nil (by simpa using hsz) (fun m hm => ?_), by simpa [wpMix] using h'⟩)
    · obtain ⟨hu, o, ho, _⟩ := mem_ready.1 hj
      have := (Array.getElem?_eq_some_iff.1 ho).1
      rcases Nat.lt_or_ge j (i + 1) with hlt | hge
      · rw [hall j hlt] at hu; cases hu
      · omega
    · rw [set_get (by omega)]
      split
      · rfl
      · exact hall m (by omega)
  | cons o l ih =>
    intro k listed a w hl hlen hun hbe hli hcl hC h
    have hsz := hcl.1
    have h0 : ops[k]? = some o := by simpa using (hl 0 (by simp)).symm
    have hks : k < ops.size := (Array.getElem?_eq_some_iff.1 h0).1
    simp only [List.length_cons] at hlen
    have hr' : k ∈ Region.ready md ops listed := ready_of h0 hb (getD_in (by omega) (hun k (Nat.le_refl _) (by omega))) hsz hbe
    have next : ∀ a' w', C w' → wpMix P ops C Q (l ++ [ot]) a' w' → wpB P md ops C Q (l.length + 1) (listed.setIfInBounds k true) a' w' := fun a' w' hC' h' =>
      ih (k + 1) _ a' w' (fun j hj => by have := hl (j + 1) (by simp; omega); simpa [Nat.add_assoc, Nat.add_comm 1 j] using this) (by omega) (fun m hm hmi => by rw [getD_set_ne false (by omega)]; exact hun m (by omega) hmi)
        (fun m hm => by
          rw [set_get (by omega)]
          split
          · rfl
          · exact hbe m (by omega)) (by rw [getD_set_ne true (by omega)]; exact hli) (hcl.set hr') hC' h'
    by_cases hc : calm o = true
    · obtain ⟨v, hy, hK⟩ := yc_of_bOp h0 hc (bOp_of_mix hC h0 h next)
      exact still_first h0 (Region.noSelect_spec hs) _ listed a w hC (hA.free h0 hbe) hr' hy hK
    · have hc' : calm o = false := by simpa using hc
      exact bar_firstX h0 hc' (by omega) hi hic hB (Region.noSelect_spec hs) _ listed a w hC (hA.free h0 hbe) (fun hl => by rw [hli] at hl; cases hl) (fun m hm hx => hun m hm (fun e => by subst e; simp [calmX] at hx)) (fun m hm _ => hbe m hm) hcl hr' (bOp_of_mix hC h0 h next) (fun hl => by rw [hli] at hl; cases hl)
theorem wpB_fl {Q : Act → World → Prop} {i : Nat} {oi ot : Oper} (hs : Region.noSelect ops = true) (hB : barX md ops i = true) (hb : Back md ops) (hA : Apart md ops) (hz : ops.size = i + 2) (hi : ops[i]? = some oi) (hic : calm oi = false) (hig : oi.guard = none) (hie : ∀ e ∈ oi.after, Region.binds md e = false)
    (hif : ∀ (j : Nat) (oj : Oper), ops[j]? = some oj → j ≠ i → (∀ e ∈ oj.after, Region.binds md e = true → e.on ≠ i) → oi.apart ops oj = true) (hg : ∀ (k : Nat) (o : Oper), ops[k]? = some o → calm o = false → o.guard = none) (ht : ops[i + 1]? = some ot) (hte : ∃ e ∈ ot.after, Region.binds md e = true ∧ e.on = i) :
    ∀ (l : List Oper) (k : Nat) (listed : Array Bool) (a : Act) (w : World), (∀ j, j < l.length → l[j]? = ops[k + j]?) → k + l.length = i → (∀ m, k ≤ m → listed.getD m false = false) → (∀ m, m < k → listed.getD m true = true) → Closed md ops listed →
    C w → wpFl P ops C Q oi l.length (l ++ [oi, ot]) a w → wpB P md ops C Q (l.length + 2) listed a w := by
  have hri : ∀ listed : Array Bool, listed.getD i true = false → i ∈ Region.ready md ops listed := fun listed h => mem_ready.2 ⟨h, oi, hi, fun e he hbd => by rw [hie e he] at hbd; cases hbd⟩
  intro l
  induction l with
  | nil =>
    intro k listed a w _ hlen hun hbe hcl hC h
    have hsz := hcl.1
    have hki : k = i := by simpa using hlen
    subst hki
    have hi' : listed.getD k true = false := getD_in (by omega) (hun k (Nat.le_refl _))
    have ht' : listed.getD (k + 1) true = false := getD_in (by omega) (hun (k + 1) (by omega))
    refine wpB_one (hri _ hi') (fun j hj => ?_) (bOp_of_mix hC hi (by simpa [wpFl] using h) fun a' w' hC' h' => ?_)
    · obtain ⟨hu, o, ho, hall⟩ := mem_ready.1 hj
      have := (Array.getElem?_eq_some_iff.1 ho).1
      rcases Nat.lt_trichotomy j k with hlt | rfl | hgt
      · rw [hbe j hlt] at hu; cases hu
      · rfl
      · have e : j = k + 1 := by omega
        subst e
        obtain ⟨e, he, hb1, hb2⟩ := hte
        have : o = ot := Option.some.inj (ho.symm.trans ht)
        subst this
        have := hall e he hb1
        rw [hb2, getD_both hi'] at this
        cases this
    · have hcl' := hcl.set (hri _ hi')
      exact wpB_done (l := []) hs hB hb hA hz hi hic ht k _ a' w' (fun j hj => by simp at hj) (by simp) (fun m hm hmi => by rw [getD_set_ne false (Ne.symm hmi)]; exact hun m hm) (fun m hm => by rw [getD_set_ne true (by omega)]; exact hbe m hm) (by rw [set_get (by omega)]; simp) hcl' hC' h'
  | cons o l ih =>
    intro k listed a w hl hlen hun hbe hcl hC h
    have hsz := hcl.1
    have h0 : ops[k]? = some o := by simpa using (hl 0 (by simp)).symm
    have hks : k < ops.size := (Array.getElem?_eq_some_iff.1 h0).1
    have hl0 := hl
    have hlen0 := hlen
    simp only [List.length_cons] at hlen
    have hr' : k ∈ Region.ready md ops listed := ready_of h0 hb (getD_in (by omega) (hun k (Nat.le_refl _))) hsz hbe
    have hi' : listed.getD i true = false := getD_in (by omega) (hun i (by omega))
    have next : ∀ a' w', C w' → wpFl P ops C Q oi l.length (l ++ [oi, ot]) a' w' → wpB P md ops C Q (l.length + 2) (listed.setIfInBounds k true) a' w' := fun a' w' hC' h' =>
      ih (k + 1) _ a' w' (fun j hj => by have := hl (j + 1) (by simp; omega); simpa [Nat.add_assoc, Nat.add_comm 1 j] using this) (by omega) (fun m hm => by rw [getD_set_ne false (by omega)]; exact hun m (by omega))
        (fun m hm => by
          rw [set_get (by omega)]
          split
          · rfl
          · exact hbe m (by omega)) (hcl.set hr') hC' h'
    simp only [List.length_cons, List.cons_append, wpFl] at h
    by_cases hc : calm o = true
    · have hq : bOp P ops C k (wpB P md ops C Q (l.length + 2) (listed.setIfInBounds k true)) a w := by
        unfold bOp
        simp only [h0, hc, if_true] at h ⊢
        split
        · rename_i hw
          simp only [hw, if_true] at h
          exact Oper.quiet_mono (fun a' h' => next a' w hC h') h
        · rename_i hw
          simp only [hw] at h
          exact next _ _ hC h
      obtain ⟨v, hy, hK⟩ := yc_of_bOp h0 hc hq
      exact still_first h0 (Region.noSelect_spec hs) _ listed a w hC (hA.free h0 hbe) hr' hy hK
    · have hc' : calm o = false := by simpa using hc
      have hgo : o.guard = none := hg k o h0 hc'
      have hw : Region.wanted o (yielded ops a.tmps) = true := by simp [Region.wanted, hgo]
      simp only [hw, if_true, hc', Bool.false_eq_true, if_false] at h
      have hwi : Region.wanted oi (yielded ops a.tmps) = true := by simp [Region.wanted, hig]
      refine bar_firstX h0 hc' (by omega) hi hic hB (Region.noSelect_spec hs) _ listed a w hC (hA.free h0 hbe) (fun _ j oj hj hji _ hno => hif j oj hj hji hno) (fun m hm _ => hun m hm) (fun m hm _ => hbe m hm) hcl hr' ?_ (fun _ => ⟨hri _ hi', ?_⟩)
      · unfold bOp
        simp only [h0, hw, hc', if_true, Bool.false_eq_true, if_false]
        exact wp_qf (fun a' w' ⟨k1, k2⟩ => ⟨k1, next a' w' k1 k2⟩) h.1
      · unfold bOp
        simp only [hi, hwi, hic, if_true, Bool.false_eq_true, if_false]
        refine wp_qf (fun a' w' ⟨k1, k2⟩ => ⟨k1, ?_⟩) h.2
        have e : (o :: (l ++ [oi, ot])).eraseIdx (l.length + 1) = (o :: l) ++ [ot] := by
          rw [List.eraseIdx_cons_succ, List.eraseIdx_append_of_length_le (Nat.le_refl _)]
          simp
        rw [e] at k2
        exact wpB_done hs hB hb hA hz hi hic ht (o :: l) k _ a' w' hl0 hlen0 (fun m hm hmi => by rw [getD_set_ne false (Ne.symm hmi)]; exact hun m hm) (fun m hm => by rw [getD_set_ne true (by omega)]; exact hbe m hm) (by rw [set_get (by omega)]; simp) (hcl.set (hri _ hi')) k1 k2
def edgesB (md : Region.Mode) : Nat → List Oper → Bool
  | _, [] => true
  | k, o :: l => o.after.toList.all (fun e => !Region.binds md e || Nat.blt e.on k) && edgesB md (k + 1) l
def hasEdge (md : Region.Mode) (o : Oper) (k : Nat) : Bool := o.after.toList.any fun e => Region.binds md e && Nat.beq e.on k
def apartB (md : Region.Mode) (ops : Array Oper) : Nat → List Oper → Bool
  | _, [] => true
  | k, o :: l => l.all (fun oj => hasEdge md oj k || o.apart ops oj) && apartB md ops (k + 1) l
theorem edgesB_spec {md : Region.Mode} : ∀ (l : List Oper) (k : Nat), edgesB md k l = true → ∀ j o, l[j]? = some o → ∀ e ∈ o.after, Region.binds md e = true → e.on < k + j := by
  intro l
  induction l with
  | nil => intro k _ j o h; simp at h
  | cons x l ih =>
    intro k h j o hj e he hb
    simp only [edgesB, Bool.and_eq_true] at h
    cases j with
    | zero =>
      simp at hj
      subst hj
      have := List.all_eq_true.1 h.1 e (by simpa using he)
      simp only [hb, Bool.not_true, Bool.false_or, Nat.blt_eq] at this
      simpa using this
    | succ j =>
      have := ih (k + 1) h.2 j o (by simpa using hj) e he hb
      omega
theorem apartB_spec {md : Region.Mode} {ops : Array Oper} : ∀ (l : List Oper) (k : Nat), apartB md ops k l = true → ∀ a b oa ob, l[a]? = some oa → l[b]? = some ob → a < b → (∀ e ∈ ob.after, Region.binds md e = true → e.on ≠ k + a) → oa.apart ops ob = true := by
  intro l
  induction l with
  | nil => intro k _ a b oa ob h; simp at h
  | cons x l ih =>
    intro k h a b oa ob ha hb hab hno
    simp only [apartB, Bool.and_eq_true] at h
    cases b with
    | zero => omega
    | succ b =>
      cases a with
      | zero =>
        simp at ha
        subst ha
        have := List.all_eq_true.1 h.1 ob (List.mem_of_getElem? (by simpa using hb))
        simp only [Bool.or_eq_true, hasEdge] at this
        rcases this with this | this
        · obtain ⟨e, he, h2⟩ := List.any_eq_true.1 this
          simp only [Bool.and_eq_true] at h2
          exact absurd (by simpa using h2.2) (hno e (by simpa using he) h2.1)
        · exact this
      | succ a => exact ih (k + 1) h.2 a b oa ob (by simpa using ha) (by simpa using hb) (by omega) (fun e he hbd h => hno e he hbd (by omega))
def floatB (l : List Oper) (i : Nat) (oi : Oper) : Bool := Region.noSelect l.toArray && barX .any l.toArray i && edgesB .any 0 l && apartB .any l.toArray 0 l && Nat.beq l.length (i + 2) && oi.after.isEmpty && oi.guard.isNone && !calm oi &&
  (l.take i).all (fun oj => oi.apart l.toArray oj) && l.all (fun o => calm o || o.guard.isNone) && ((l.getLast?).map (fun o => hasEdge .any o i)).getD false
theorem noAfter {o : Oper} (h : o.after.isEmpty = true) (e : Edge) (he : e ∈ o.after) : Region.binds .any e = false := by
  have h2 : o.after = #[] := by simpa using h
  rw [h2] at he
  simp at he
/-- Operation i, the last but one, may come up at any time. -/
theorem wp_region_float {id : Nat} {Q : Exit → Act → World → Prop} {a : Act} {w : World} {l : List Oper} (i : Nat) (oi : Oper) (hm : P.follows .mixedOrders = true) (hoi : l[i]? = some oi) (hB : floatB l i oi = true) (hC : C w.drew)
    (h : wpFl P l.toArray C (Q .normal) oi i l a w.drew) : (Code.region id l.toArray true).wp P Q a w := by
  simp only [floatB, Bool.and_eq_true, Bool.not_eq_true'] at hB
  obtain ⟨⟨⟨⟨⟨⟨⟨⟨⟨⟨hs, hb⟩, he⟩, hap⟩, hz'⟩, hie⟩, hig⟩, hic⟩, hif⟩, hg⟩, hte⟩ := hB
  replace hz' : l.length = i + 2 := Nat.eq_of_beq_eq_true hz'
  have hi : l.toArray[i]? = some oi := by simpa using hoi
  obtain ⟨ot, ht⟩ : ∃ ot, l[i + 1]? = some ot := ⟨l[i + 1], List.getElem?_eq_getElem (by omega)⟩
  have el : l = l.take i ++ [oi, ot] := by
    obtain ⟨h1, h2⟩ := List.getElem?_eq_some_iff.1 hoi
    obtain ⟨h3, h4⟩ := List.getElem?_eq_some_iff.1 ht
    conv => lhs; rw [← List.take_append_drop i l, List.drop_eq_getElem_cons h1, List.drop_eq_getElem_cons h3, h2, h4, List.drop_of_length_le (by omega)]
  have hlast : l.getLast? = some ot := by rw [el]; simp
  rw [hlast] at hte
  simp only [Option.map_some, Option.getD_some, hasEdge] at hte
  obtain ⟨e, hee, he2⟩ := List.any_eq_true.1 hte
  simp only [Bool.and_eq_true] at he2
  have hlen : (l.take i).length = i := by simp; omega
  have hz : l.toArray.size = i + 2 := by simpa using hz'
  refine wp_region_any hm (wpAny_of_b (C := C) (Q := Q .normal) (fun _ _ _ h => h) _ _ _ _ hC ?_)
  have := wpB_fl (C := C) (md := .any) (Q := Q .normal) (ot := ot) hs hb (fun k o hk e he' hbd => by have := edgesB_spec l 0 he k o (by simpa using hk) e he' hbd; simpa using this)
    (fun k ok j oj hk hj hkj hno => apartB_spec l 0 hap k j ok oj (by simpa using hk) (by simpa using hj) hkj (by simpa using hno)) hz hi hic (by simpa using hig) (fun e he' => noAfter hie e he')
    (fun j oj hj hji hno => by
      have hj' : l[j]? = some oj := by simpa using hj
      rcases Nat.lt_or_gt_of_ne hji with hlt | hgt
      · exact List.all_eq_true.1 hif oj (List.mem_of_getElem? (i := j) (by rw [List.getElem?_take]; simp [hlt, hj']))
      · exact apartB_spec l 0 hap i j oi oj hoi hj' hgt (by simpa using hno))
    (fun k o hk hc => by
      have := List.all_eq_true.1 hg o (List.mem_of_getElem? (i := k) (by simpa using hk))
      simpa [hc] using this) (by simpa using ht) ⟨e, by simpa using hee, he2.1, by simpa using he2.2⟩ (l.take i) 0 (Array.replicate l.toArray.size false) a w.drew
    (fun j hj => by rw [hlen] at hj; simp [hj]) (by simpa using hlen) (fun m _ => getD_replicate_false _ _) (fun m hm => absurd hm (by omega)) ⟨by simp, fun j oj _ hl => (by rw [getD_replicate_false] at hl; cases hl)⟩ hC (by rw [hlen, ← el]; exact h)
  rw [hlen] at this
  rw [show l.toArray.size = i + 2 from hz]
  rw [show l.toArray.size = i + 2 from hz] at this
  exact this
theorem wpFl_zero {Q : Act → World → Prop} {oi : Oper} {l : List Oper} {a : Act} {w : World} (h : wpMix P ops C Q l a w) : wpFl P ops C Q oi 0 l a w := h
/-- A stretch of calm operations. -/
theorem wpFl_seg {Q : Act → World → Prop} {oi : Oper} {w : World} {n : Nat} {o : Oper} {rest : List Oper} {a : Act} (hc : calm o = true) (h : wpQuiet P ops C (fun a' => wpFl P ops C Q oi n rest a' w) [o] a) : wpFl P ops C Q oi (n + 1) (o :: rest) a w := by
  simp only [wpQuiet] at h
  unfold wpFl
  simp only [hc, if_true]
  exact h
theorem wpFl_bar {Q : Act → World → Prop} {oi : Oper} {w : World} {n : Nat} {o : Oper} {rest : List Oper} {a : Act} (hc : calm o = false) (hg : o.guard = none) (hig : oi.guard = none)
    (h1 : wpList P ops (OnlyNormal (fun a' w' => C w' ∧ wpFl P ops C Q oi n rest a' w')) [o] a w) (h2 : wpList P ops (OnlyNormal (MixGo P ops C Q ((o :: rest).eraseIdx (n + 1)))) [oi] a w) : wpFl P ops C Q oi (n + 1) (o :: rest) a w := by
  have hw : Region.wanted o (yielded ops a.tmps) = true := by simp [Region.wanted, hg]
  have hwi : Region.wanted oi (yielded ops a.tmps) = true := by simp [Region.wanted, hig]
  have key : ∀ (x : Oper) (N : Act → World → Prop), Region.wanted x (yielded ops a.tmps) = true → wpList P ops (OnlyNormal N) [x] a w → x.wp P a w N QF := by
    intro x N hx h
    simp only [wpList, hx, if_true, onlyNormal_normal] at h
    rcases h with h | ⟨_, a', w', h⟩
    · unfold Oper.wp at *
      generalize (execOp a.eval x).run P w = r at *
      cases r with
      | ok n w' =>
        cases n <;> simp only [Oper.upon] at h ⊢ <;>
          first
            | exact h
            | exact Calls.mono h (fun e w'' he => by cases e <;> first | exact he | exact absurd he id | (obtain ⟨_, _, hf⟩ := he; exact absurd hf id))
            | exact Rows.mono h (fun _ _ he => he)
      | halt x w' => cases x <;> simp only [Oper.upon, OnlyNormal] at h
    · exact absurd h id
  unfold wpFl
  simp only [hw, if_true, hc, Bool.false_eq_true, if_false]
  exact ⟨key o _ hw h1, key oi _ hwi h2⟩
end
end Go.Proofs.Ytpkbimmhimgamaa
namespace Go.Proofs.Ytpkbimmhimgamaa
set_option linter.unusedSimpArgs false
set_option linter.unusedVariables false
set_option linter.unnecessarySimpa false
open Go.RowKit
theorem cells_ofF (F : Nat → Prop) {W : World} {g : Nat} {cs : Array Value} {T : TypeId} (h : W.heap[g]? = some (.cells cs T (0, 0))) (hF : ¬ F g) : (∀ u i, (mixF F W u).cell? ⟨g, i, none⟩ = cs[i]?) ∧ ∀ u i, (mixF F W u).frozen? ⟨g, i, none⟩ = false :=
  ⟨fun u i => cell_of_row _ g i _ _ _ ((mixF_chg F W u).blk h hF), fun u i => frozen_of_row _ g i _ _ ((mixF_chg F W u).blk h hF)⟩
end Go.Proofs.Ytpkbimmhimgamaa
namespace Go.Proofs.Ytpkbimmhimgamaa
set_option linter.unusedSimpArgs false
set_option linter.unusedVariables false
set_option linter.unnecessarySimpa false
open Go.RowKit
end Go.Proofs.Ytpkbimmhimgamaa
namespace Go.Proofs.Ytpkbimmhimgamaa
set_option linter.unusedSimpArgs false
set_option linter.unusedVariables false
set_option linter.unnecessarySimpa false
open Go.RowKit
attribute [local go_sem ↓] run_min_int run_max_int
set_option maxHeartbeats 4000000 in
set_option maxRecDepth 100000 in
theorem ctl_start (c : Cfg) (w : World) (h : c.Ok) :
    Calls Try.prog 14 #[c.val] w fun e w' => e = .returned (ccv ⟨c.ini, 18446744073709551615, 0, 0, 18446744073709551615, 0, 0⟩ 0 0) ∧ Below w.heap.size w w' := by
  obtain ⟨C, hC, hi, cs⟩ := c.open_
  have S := Bx.two w C #[.int .u64 0, .int .u64 0, .int .u64 0, .int .u64 0, .int .u64 0, .int .u64 0, .int .u64 0, .int .u64 0, .int .u64 0] 24 53
  have KM := Lib.hid (fun w => conf_may c w h)
  rw [hC]
  rw [hC] at KM
  dsimp only [ccv]
  clear hC h
  go_enter Try.func14, Try.ntmps14
  go_upto_region 1 with fail
  generalize (w.alloc (.cells C 24)).alloc (.cells #[.int .u64 0, .int .u64 0, .int .u64 0, .int .u64 0, .int .u64 0, .int .u64 0, .int .u64 0, .int .u64 0, .int .u64 0] 53) = w0 at *
  have a := And.intro (cells_of (S.get 0 rfl)) (cells_of (S.get 1 rfl))
  go_wp2_with (refine wpList_load_row rfl 24 _ rfl _ rfl _ _ _ _ (S.get 0 rfl) Try.underlying24 rfl hi ?_)
  refine (KM.out _).mono ?_
  rintro e wm ⟨rfl, q⟩
  replace S := S.step q
  clear q a
  have a := And.intro (cells_of (S.get 0 rfl)) (cells_of (S.get 1 rfl))
  replace S := S.fill 1 0 [.int .u64 c.ini, .int .u64 18446744073709551615, .int .u64 0, .int .u64 0, .int .u64 18446744073709551615, .int .u64 0, .int .u64 0, .int .u64 0, .int .u64 0] rfl
  simp only [putAll, setAll, Nat.reduceAdd, List.setIfInBounds_toArray, List.set_cons_succ, List.set_cons_zero] at S
  have E := Lib.hid S
  clear S
  go_wp2
  (try simp only [Exit.inBlock, Exit.then])
  exact bodyPost_ret (results_cell_row rfl _ _ (w.heap.size + 1) _ _ _ _ rfl (E.out.get 1 rfl) Try.underlying53 rfl infoCc) rfl ⟨rfl, E.out.bel⟩
end Go.Proofs.Ytpkbimmhimgamaa
namespace Go.Proofs.Ytpkbimmhimgamaa
set_option linter.unusedSimpArgs false
set_option linter.unusedVariables false
set_option linter.unnecessarySimpa false
open Go.RowKit
def wordOf (ws : List Int) (k : Nat) : Int := if k < ws.length then ws.getD k 0 else mixW k
set_option maxHeartbeats 1000000 in
theorem src_next (b o : Nat) (A : Option Addr) (c k : Nat) (ws : List Int) (w : World) (h0 : w.cell? ⟨b, o, none⟩ = some (.slice A ws.length c)) (h1 : w.cell? ⟨b, o + 1, none⟩ = some (.int .i64 k)) (hf : w.frozen? ⟨b, o + 1, none⟩ = false) (hr : Rd w 1 A ws.length c (Us ws)) (hA : ∀ g off, A = some ⟨g, off, none⟩ → 0 < ws.length → g ≠ b) (hk : k < 1000000000) :
    Calls Try.prog 64 #[.pointer (some ⟨b, o, none⟩)] w fun e w' => e = .returned (.int .u64 (wordOf ws k)) ∧ Qt (w.setCell ⟨b, o + 1, none⟩ (.int .i64 ((k + 1 : Nat) : Int))) w' := by
  have hm := hr.max
  have hc := hr.cap
  unfold maxLen at hm
  have wk : IntKind.i64.wrap ((k : Int) + 1) = ((k + 1 : Nat) : Int) := by rw [IntWalk.i64_in _ (by omega)]; simp
  have wu : IntKind.u64.wrap (k : Int) = (k : Int) := IntWalk.u64_in _ (by omega)
  obtain ⟨k1, hk1⟩ : ∃ k1 : Int, k1 = ((k + 1 : Nat) : Int) := ⟨_, rfl⟩
  rw [← hk1] at wk
  rw [← hk1]
  have HW : Hid (wordOf ws k = if k < ws.length then ws.getD k 0 else mixW k) := Lib.hid rfl
  by_cases hl : k < ws.length
  · obtain ⟨g, off, rfl, hx⟩ := hr.u64 hl
    have hg := hA g off rfl (by omega)
    have z0 : (w.setCell ⟨b, o + 1, none⟩ (.int .i64 k1)).cell? ⟨b, o, none⟩ = some (.slice (some ⟨g, off, none⟩) ws.length c) := by rw [World.cell?_setCell_other _ _ _ _ (by simp)]; exact h0
    have z1 : (w.setCell ⟨b, o + 1, none⟩ (.int .i64 k1)).cell? ⟨g, off + k, none⟩ = some (.int .u64 (ws.getD k 0)) := by rw [World.cell?_setCell_other _ _ _ _ (by simp [hg])]; exact hx
    rw [HW.out, if_pos hl]
    have d1 : decide ((k : Int) < (ws.length : Int)) = true := decide_eq_true (by omega)
    have d2 : decide (k < ws.length) = true := decide_eq_true hl
    have HR := Lib.hid (Qt.refl (w.setCell ⟨b, o + 1, none⟩ (.int .i64 k1)))
    generalize ws.getD k 0 = v at *
    clear hr hA hk1 HW hx
    go_enter Try.func64, Try.ntmps64
    go_upto_region 5 with fail
    generalize hw1 : w.setCell ⟨b, o + 1, none⟩ (.int .i64 k1) = w1 at *
    have HW1 := Lib.hid hw1
    clear hw1
    clear h0 h1 hf
    go_wp2
    go_ret
    exact ⟨rfl, by rw [HW1.out]; exact HR.out⟩
  · have z0 : (w.setCell ⟨b, o + 1, none⟩ (.int .i64 k1)).cell? ⟨b, o, none⟩ = some (.slice A ws.length c) := by rw [World.cell?_setCell_other _ _ _ _ (by simp)]; exact h0
    rw [HW.out, if_neg hl]
    have d1 : decide ((k : Int) < (ws.length : Int)) = false := decide_eq_false (by omega)
    have d2 : decide (k < ws.length) = false := decide_eq_false hl
    have K := Lib.hid (fun w => draw_mix (k : Int) w)
    clear hr hA hk1 HW
    go_enter Try.func64, Try.ntmps64
    go_upto_region 5 with fail
    generalize hw1 : w.setCell ⟨b, o + 1, none⟩ (.int .i64 k1) = w1 at *
    have HW1 := Lib.hid hw1
    clear hw1
    clear h0 h1 hf
    go_wp2_with fail
    refine (K.out _).mono ?_
    rintro e w2 ⟨rfl, q⟩
    go_wp2
    go_ret
    exact ⟨rfl, by rw [HW1.out]; exact q⟩
end Go.Proofs.Ytpkbimmhimgamaa
namespace Go.Proofs.Ytpkbimmhimgamaa
set_option linter.unusedSimpArgs false
set_option linter.unusedVariables false
set_option linter.unnecessarySimpa false
open Go.RowKit
/-- A source in block g: its words, how many of them were taken. -/
structure SrcC (w : World) (g : Nat) (A : Option Addr) (c : Nat) (ws : List Int) (k : Nat) : Prop where
  t : w.heap[g]? = some (.cells #[.slice A ws.length c, .int .i64 k] 82 (0, 0))
  r : Rd w 1 A ws.length c (Us ws)
  a : ∀ b off, A = some ⟨b, off, none⟩ → 0 < ws.length → b ≠ g
def NewAt (w : World) (g : Nat) (A : Option Addr) (n : Nat) : Prop := w.heap.size ≤ g ∧ ∀ b off, A = some ⟨b, off, none⟩ → 0 < n → w.heap.size ≤ b
set_option maxHeartbeats 1000000 in
set_option maxRecDepth 100000 in
theorem src_new (A : Option Addr) (c : Nat) (ws : List Int) (w : World) (hr : Rd w 1 A ws.length c (Us ws)) (hn : ws.length ≤ 17592186044000) :
    Calls Try.prog 10 #[.slice A ws.length c] w fun e w' => ∃ g A' c', e = .returned (.pointer (some ⟨g, 0, none⟩)) ∧ SrcC w' g A' c' ws 0 ∧ NewAt w g A' ws.length ∧ Below w.heap.size w w' := by
  obtain ⟨i0, hi0, hz0, hz1, hz2⟩ := info_parts infoU64
  have HM := Lib.hid hn
  have HR := Lib.hid hr
  clear hr hn
  go_enter Try.func10, Try.ntmps10
  go_wp2_with (
    at_builtin
    refine wpList_append_rd _ rfl (.const (.slice none 0 0)) (.tmp 3) 25 rfl w.heap.size 22 i0 _ 1 8 Try.underlying25 hi0 hz0 hz1 hz2 rfl (by decide) (.slice none 0 0) 0 [] rfl (World.ownsRow_nil _ _ _ _) A ws.length c (Us ws) rfl HR.out (Us_one _) (by have := HM.out; unfold maxLen; omega) (by have := HM.out; omega) (Nat.le_refl _) ?_
    intro v2 w2 hown2 hg2 _
    have hb2 : Below w.heap.size w w2 := (Below.refl _ _).grown hg2 (Nat.le_refl _) (fun g hg => by simp [Value.ownBlock] at hg)
    rw [Nat.zero_add, List.nil_append] at hown2
    obtain ⟨A2, cc, hv, hA2⟩ := own_slice hown2
    subst hv)
  go_ret
  have hr2 := Rd.of_own hown2
  have hb3 := box_below w2 (.cells #[.slice A2 ws.length cc, .int .i64 0] 82)
  have hlt := hr2.lt (by omega)
  refine ⟨w2.heap.size, A2, cc, rfl, ⟨heap_alloc_new w2 _, hr2.below hb3, fun b off e h0 => ?_⟩, ⟨hb2.size, fun b off e h0 => own_base2 hown2 b off e h0⟩, hb2.trans (hb3.mono hb2.size)⟩
  have := hlt h0 b off e
  omega
end Go.Proofs.Ytpkbimmhimgamaa

/-
  A region that draws its order, where some operations that only read wait for a call and read what it made. One walk in the order of the text serves every order: such an operation is met in the worlds behind that call.
-/
import Derived.Test.YtkedfipeebjcjaaSeq
namespace Go.Proofs.Ytkedfipeebjcjaa
set_option linter.unusedSimpArgs false
set_option linter.unusedVariables false
set_option linter.unnecessarySimpa false
open Go.RowKit

section
variable {P : Program} {ops : Array Oper} {md : Region.Mode} {C : World → Prop} {D : World → World → Prop} {L : Nat → Bool}

/-- The worlds in which operation i may come up, from w on. -/
def cls (C : World → Prop) (D : World → World → Prop) (L : Nat → Bool) (i : Nat) (w : World) : World → Prop := if L i then D w else C
/-- The classes hang together. -/
structure Hangs (C : World → Prop) (D : World → World → Prop) : Prop where
  refl : ∀ w, D w w
  trans : ∀ a b c, D a b → D b c → D a c
  sub : ∀ w W, C w → D w W → C W
theorem cls_in (H : Hangs C D) {i : Nat} {w : World} (hC : C w) : cls C D L i w w := by
  unfold cls
  split
  · exact H.refl w
  · exact hC
theorem cls_mono (H : Hangs C D) {i : Nat} {w w' : World} (hD : D w w') : ∀ W, cls C D L i w' W → cls C D L i w W := by
  intro W h
  unfold cls at *
  split
  · rename_i hl; rw [if_pos hl] at h; exact H.trans _ _ _ hD h
  · rename_i hl; rwa [if_neg hl] at h
theorem quietAt_calm {C C' : World → Prop} {o : Oper} {v : Value} {a : Act} {w : World} (hc : calm o = true) (h : o.quietAt P a C w v) : o.quietAt P a C' w v := by
  have h4 := calm_spec (P := P) hc a.eval w
  unfold Oper.quietAt at *
  generalize (execOp a.eval o).run P w = r at *
  cases r with
  | ok n w' =>
    cases n <;> simp only [Oper.quietUpon] at h ⊢
    case value x => exact h
    case skip => exact h
    case enter f args => exact h4.elim
  | halt x w' => simp only [Oper.quietUpon] at h
theorem YC.mono {C C' : World → Prop} {o : Oper} {v : Value} {a : Act} (h : ∀ W, C' W → C W) (hy : YC P ops C o v a) : YC P ops C' o v a :=
  ⟨hy.1, hy.2.elim (fun ⟨h1, h2⟩ => .inl ⟨h1, fun w hw => quietAt_calm hy.1 (h2 w (h w hw))⟩) .inr⟩
theorem yc_same2 {C C' : World → Prop} {o : Oper} {v u : Value} {a : Act} {w : World} (hC : C w) (hC' : C' w) (h : YC P ops C o v a) (k : YC P ops C' o u a) : v = u :=
  yc_same (C := fun W => W = w) rfl (h.mono (fun W e => by subst e; exact hC)) (k.mono (fun W e => by subst e; exact hC'))

/-- Operation i comes up. -/
def bOpL (P : Program) (ops : Array Oper) (C : World → Prop) (D : World → World → Prop) (L : Nat → Bool) (i : Nat) (K : Act → World → Prop) (a : Act) (w : World) : Prop :=
  match ops[i]? with
  | none => K a w
  | some o => if Region.wanted o (yielded ops a.tmps) then (if calm o then o.quiet P a (cls C D L i w) (fun a' => K a' w) else o.wp P a w (fun a' w' => D w w' ∧ K a' w') QF) else K (a.put o.dst undef) w
def wpBL (P : Program) (md : Region.Mode) (ops : Array Oper) (C : World → Prop) (D : World → World → Prop) (L : Nat → Bool) (Q : Act → World → Prop) : Nat → Array Bool → Act → World → Prop
  | 0, listed, a, w => Region.ready md ops listed = [] ∧ Q a w
  | f + 1, listed, a, w => (Region.ready md ops listed = [] → Q a w) ∧ ∀ i ∈ Region.ready md ops listed, bOpL P ops C D L i (wpBL P md ops C D L Q f (listed.setIfInBounds i true)) a w

theorem bOpL_mono (H : Hangs C D) {i : Nat} {a : Act} {w : World} {K K' : Act → World → Prop} (h : ∀ a w', D w w' → K a w' → K' a w') (hh : bOpL P ops C D L i K a w) : bOpL P ops C D L i K' a w := by
  unfold bOpL at *
  split
  · rename_i ho; simp only [ho] at hh; exact h _ _ (H.refl w) hh
  · rename_i o ho
    simp only [ho] at hh
    split
    · rename_i hw
      simp only [hw, if_true] at hh
      split
      · rename_i hc; simp only [hc, if_true] at hh; exact Oper.quiet_mono (fun a' => h a' w (H.refl w)) hh
      · rename_i hc; simp only [hc] at hh; exact wp_qf (fun a' w' ⟨h1, h2⟩ => ⟨h1, h _ _ h1 h2⟩) hh
    · rename_i hw; simp only [hw] at hh; exact h _ _ (H.refl w) hh

theorem wpAny_of_bL (H : Hangs C D) {Q : Act → World → Prop} {Q' : Exit → Act → World → Prop} (hQ : ∀ a w, C w → Q a w → Q' .normal a w) : ∀ (f : Nat) (listed : Array Bool) (a : Act) (w : World), C w → wpBL P md ops C D L Q f listed a w → wpAny P md ops Q' f listed a w := by
  intro f
  induction f with
  | zero => intro listed a w hC h; exact ⟨h.1, hQ _ _ hC h.2⟩
  | succ f ih =>
    intro listed a w hC h
    refine ⟨fun h0 => hQ _ _ hC (h.1 h0), fun i hi => ?_⟩
    have h1 := h.2 i hi
    unfold bOpL at h1
    unfold wpOp
    split
    · rename_i ho; simp only [ho] at h1; exact ih _ _ _ hC h1
    · rename_i o ho
      simp only [ho] at h1
      split
      · rename_i hw
        simp only [hw, if_true] at h1
        split at h1
        · rename_i hc
          exact .inl (Oper.wp_mono (fun a' w' ⟨e, h'⟩ => by subst e; exact ih _ _ _ hC h') (wp_of_calm hc (cls_in H hC) h1))
        · exact .inl (wp_qf (fun a' w' ⟨h2, h3⟩ => ih _ _ _ (H.sub _ _ hC h2) h3) h1)
      · rename_i hw; simp only [hw] at h1; exact ih _ _ _ hC h1

theorem bOpL_of_yc {i : Nat} {o : Oper} {v : Value} {a : Act} {w : World} {K : Act → World → Prop} (hi : ops[i]? = some o) (hy : YC P ops (cls C D L i w) o v a) (h : K (a.put o.dst v) w) : bOpL P ops C D L i K a w := by
  unfold bOpL
  simp only [hi]
  obtain ⟨hc, ⟨hw, hv⟩ | ⟨hw, rfl⟩⟩ := hy
  · simp only [hw, hc, if_true]; exact ⟨v, hv, h⟩
  · simp only [hw, Bool.false_eq_true, if_false]; exact h
theorem yc_of_bOpL {i : Nat} {o : Oper} {a : Act} {w : World} {K : Act → World → Prop} (hi : ops[i]? = some o) (hc : calm o = true) (h : bOpL P ops C D L i K a w) : ∃ v, YC P ops (cls C D L i w) o v a ∧ K (a.put o.dst v) w := by
  unfold bOpL at h
  simp only [hi] at h
  by_cases hw : Region.wanted o (yielded ops a.tmps) = true
  · simp only [hw, hc, if_true] at h
    obtain ⟨v, h1, h2⟩ := h
    exact ⟨v, ⟨hc, .inl ⟨hw, h1⟩⟩, h2⟩
  · simp only [hw] at h
    exact ⟨undef, ⟨hc, .inr ⟨by simpa using hw, rfl⟩⟩, h⟩

theorem bOpL_put (H : Hangs C D) {i j : Nat} {oi oj : Oper} {v : Value} (hj : ops[j]? = some oj) (hap : oi.apart ops oj = true) (hsi : ∀ cs b, oi.op ≠ .select cs b) (hsj : ∀ cs b, oj.op ≠ .select cs b)
    {K : Act → World → Prop} {a : Act} {w : World} (hy : YC P ops (cls C D L i w) oi v a) (h : bOpL P ops C D L j K (a.put oi.dst v) w) :
    bOpL P ops C D L j (fun a' w' => YC P ops (cls C D L i w') oi v a' ∧ K (a'.put oi.dst v) w') a w := by
  obtain ⟨h1, h2, h3⟩ := Oper.apart_spec hap
  unfold bOpL at *
  simp only [hj] at *
  rw [wanted_put oj a oi.dst v h1] at h
  split
  · rename_i hw
    simp only [hw, if_true] at h
    split
    · rename_i hc
      simp only [hc, if_true] at h
      obtain ⟨u, hu, hn⟩ := h
      refine ⟨u, fun w hw' => ?_, hy.moved hsi h3, by rw [← Act.put_comm a v u h2]; exact hn⟩
      have := hu w hw'
      unfold Oper.quietAt at *
      rwa [execOp_put oj hsj a oi.dst v h1] at this
    · rename_i hc
      rw [if_neg hc] at h
      unfold Oper.wp at *
      rw [execOp_put oj hsj a oi.dst v h1] at h
      exact upon_put h2 _ (fun a' u w' e ⟨k1, k2⟩ => ⟨k1, ((hy.mono (cls_mono H k1)).moved hsi h3 (u := u)).tmps e, k2⟩) h
  · rename_i hw
    simp only [hw] at h
    exact ⟨hy.moved hsi h3, by rw [← Act.put_comm a v undef h2]; exact h⟩

theorem still_firstL (H : Hangs C D) {Q : Act → World → Prop} {i : Nat} {oi : Oper} {v : Value} (hi : ops[i]? = some oi) (hsel : ∀ (j : Nat) (o : Oper) cs b, ops[j]? = some o → o.op ≠ .select cs b) :
    ∀ (fuel : Nat) (listed : Array Bool) (a : Act) (w : World),
      (∀ j oj, ops[j]? = some oj → j ≠ i → listed.getD j true = false → (∀ e ∈ oj.after, Region.binds md e = true → e.on ≠ i) → oi.apart ops oj = true) →
      i ∈ Region.ready md ops listed → YC P ops (cls C D L i w) oi v a → wpBL P md ops C D L Q fuel (listed.setIfInBounds i true) (a.put oi.dst v) w → wpBL P md ops C D L Q (fuel + 1) listed a w := by
  intro fuel
  induction fuel with
  | zero =>
    intro listed a w _ hr hy HH
    refine ⟨fun h => (by rw [h] at hr; cases hr), fun j hj => ?_⟩
    rcases Decidable.em (j = i) with rfl | hji
    · exact bOpL_of_yc hi hy HH
    · have := ready_mono hj hji
      rw [HH.1] at this
      cases this
  | succ fuel ih =>
    intro listed a w hfree hr hy HH
    refine ⟨fun h => (by rw [h] at hr; cases hr), fun j hj => ?_⟩
    rcases Decidable.em (j = i) with rfl | hji
    · exact bOpL_of_yc hi hy HH
    · obtain ⟨hjun, oj, hoj, hall⟩ := mem_ready.1 hj
      have hnot : ∀ e ∈ oj.after, Region.binds md e = true → e.on ≠ i := fun e he hb heq => by
        have h1 := hall e he hb
        rw [heq, getD_both (mem_ready.1 hr).1] at h1
        cases h1
      refine bOpL_mono H (fun a' w' _ h3 => ?_) (bOpL_put H hoj (hfree j oj hoj hji hjun hnot) (fun cs b => hsel i oi cs b hi) (fun cs b => hsel j oj cs b hoj) hy (HH.2 j (ready_mono hj hji)))
      refine ih (listed.setIfInBounds j true) a' w' (fun k ok hk hki hu hno => hfree k ok hk hki ?_ hno) (ready_mono hr (Ne.symm hji)) h3.1 ?_
      · rcases Decidable.em (j = k) with rfl | hjk
        · exact hjun
        · rwa [getD_set_ne true hjk] at hu
      · rw [Array.setIfInBounds_comm _ _ hji]
        exact h3.2

theorem bOpL_some (H : Hangs C D) {k : Nat} {o : Oper} {K : Act → World → Prop} {a : Act} {w : World} (hk : ops[k]? = some o) (h : bOpL P ops C D L k K a w) : ∃ a' u w', a'.tmps = (a.put o.dst u).tmps ∧ D w w' ∧ K a' w' := by
  unfold bOpL at h
  simp only [hk] at h
  split at h
  · split at h
    · obtain ⟨v, _, h2⟩ := h
      exact ⟨_, v, w, rfl, H.refl w, h2⟩
    · unfold Oper.wp at h
      generalize (execOp a.eval o).run P w = r at h
      cases r with
      | ok n w' =>
        cases n <;> simp only [Oper.upon] at h
        case value u => exact ⟨_, u, _, rfl, h.1, h.2⟩
        case skip => exact ⟨_, undef, _, rfl, h.1, h.2⟩
        case defer x => exact ⟨_, undef, _, (by cases o.dst <;> rfl), h.1, h.2⟩
        case enter f args =>
          obtain ⟨e, w'', fr, he, _⟩ := h []
          cases e
          · exact ⟨_, _, _, rfl, he.1, he.2⟩
          · exact absurd he id
          · exact absurd he not_lets
        case row row args =>
          obtain ⟨v, w'', he, _⟩ := h (Frame.ofRow P row args .normal) []
          exact ⟨_, _, _, rfl, he.1, he.2⟩
      | halt x w' => cases x <;> simp only [Oper.upon, QF] at h
  · exact ⟨_, undef, w, rfl, H.refl w, h⟩

/-- Each late operation waits for the barrier ahead of it. -/
def LateOk (md : Region.Mode) (ops : Array Oper) (L : Nat → Bool) : Prop := ∀ j, L j = true → ∃ p, p < j ∧ calmAt ops p = false ∧ (∀ q, p < q → q < j → calmAt ops q = true) ∧ Blk md ops p j

theorem bar_firstL (H : Hangs C D) (hLt : LateOk md ops L) {Q : Act → World → Prop} {k : Nat} {ok : Oper} (hk : ops[k]? = some ok) (hkc : calm ok = false) (hB : barB md ops = true) (hsel : ∀ (j : Nat) (o : Oper) cs b, ops[j]? = some o → o.op ≠ .select cs b) :
    ∀ (fuel : Nat) (listed : Array Bool) (a : Act) (w : World), C w →
      (∀ j oj, ops[j]? = some oj → j ≠ k → listed.getD j true = false → (∀ e ∈ oj.after, Region.binds md e = true → e.on ≠ k) → ok.apart ops oj = true) →
      (∀ m, k ≤ m → calmAt ops m = false → listed.getD m false = false) → (∀ m, m < k → listed.getD m true = true) → Closed md ops listed →
      k ∈ Region.ready md ops listed → bOpL P ops C D L k (wpBL P md ops C D L Q fuel (listed.setIfInBounds k true)) a w → wpBL P md ops C D L Q (fuel + 1) listed a w := by
  have hkA : calmAt ops k = false := by unfold calmAt; rw [hk]; exact hkc
  intro fuel
  induction fuel with
  | zero =>
    intro listed a w hC hfree hun hbe hcl hr HH
    refine ⟨fun h => (by rw [h] at hr; cases hr), fun j hj => ?_⟩
    rcases Decidable.em (j = k) with rfl | hjk
    · exact HH
    · obtain ⟨a', u, w', _, _, h3⟩ := bOpL_some H hk HH
      have := ready_mono hj hjk
      rw [h3.1] at this
      cases this
  | succ fuel ih =>
    intro listed a w hC hfree hun hbe hcl hr HH
    refine ⟨fun h => (by rw [h] at hr; cases hr), fun j hj => ?_⟩
    rcases Decidable.em (j = k) with rfl | hjk
    · exact HH
    · obtain ⟨hjun, oj, hoj, hall⟩ := mem_ready.1 hj
      have hjc := calm_ready hB hcl hkA hun (fun m hm _ => hbe m hm) hj hjk
      have hjc' : calm oj = true := by unfold calmAt at hjc; rw [hoj] at hjc; exact hjc
      have hgt : k < j := by
        rcases Nat.lt_or_ge k j with h | h
        · exact h
        · rw [hbe j (by omega)] at hjun; cases hjun
      have hjl : L j = false := by
        cases hl : L j with
        | false => rfl
        | true =>
          exfalso
          obtain ⟨p, p1, p2, p3, p4⟩ := hLt j hl
          have hkp : k ≤ p := by
            rcases Nat.lt_or_ge p k with h | h
            · have := p3 k h hgt; rw [hkA] at this; cases this
            · exact h
          exact (p4 listed hcl (hun p hkp p2)).2 hj
      have ecl : ∀ W, cls C D L j W = C := fun W => by unfold cls; rw [hjl]; rfl
      have hnot : ∀ e ∈ oj.after, Region.binds md e = true → e.on ≠ k := fun e he hb heq => by
        have h1 := hall e he hb
        rw [heq, getD_both (mem_ready.1 hr).1] at h1
        cases h1
      obtain ⟨p1, p2, p3⟩ := Oper.apart_spec (hfree j oj hoj hjk hjun hnot)
      have q2 : ∀ d, oj.dst = some d → ok.dst ≠ some d := fun d hd he => p2 d he hd
      have hv : ∃ v, YC P ops C oj v a := by
        obtain ⟨a', u, w', e, _, h3⟩ := bOpL_some H hk HH
        obtain ⟨v, hy, _⟩ := yc_of_bOpL hoj hjc' (h3.2 j (ready_mono hj hjk))
        rw [ecl] at hy
        exact ⟨v, (hy.tmps e.symm).back (fun cs b => hsel j oj cs b hoj) p1⟩
      obtain ⟨v, hy⟩ := hv
      refine bOpL_of_yc hoj (by rw [ecl]; exact hy) (ih (listed.setIfInBounds j true) (a.put oj.dst v) w hC (fun m om hm hmk hu hno => hfree m om hm hmk ?_ hno) (fun m hm hc => ?_) (fun m hm => ?_) (hcl.set hj) (ready_mono hr (Ne.symm hjk)) ?_)
      · rcases Decidable.em (j = m) with rfl | hjm
        · exact hjun
        · rwa [getD_set_ne true hjm] at hu
      · rcases Decidable.em (j = m) with rfl | hjm
        · rw [hjc] at hc; cases hc
        · rw [getD_set_ne false hjm]; exact hun m hm hc
      · rw [getD_set_ne true (by omega)]; exact hbe m hm
      · rw [Array.setIfInBounds_comm _ _ hjk]
        unfold bOpL at HH ⊢
        simp only [hk] at HH ⊢
        rw [wanted_put ok a oj.dst v p3]
        have step : ∀ a' u w', a'.tmps = (a.put ok.dst u).tmps → C w' → wpBL P md ops C D L Q (fuel + 1) (listed.setIfInBounds k true) a' w' → wpBL P md ops C D L Q fuel ((listed.setIfInBounds k true).setIfInBounds j true) (a'.put oj.dst v) w' := by
          intro a' u w' e hC' h'
          obtain ⟨v', hy', h4⟩ := yc_of_bOpL hoj hjc' (h'.2 j (ready_mono hj hjk))
          rw [ecl] at hy'
          have hy2 : YC P ops C oj v a' := (hy.moved (fun cs b => hsel j oj cs b hoj) p1).tmps e
          have := yc_same hC' hy2 hy'
          subst this
          exact h4
        split
        · rename_i hw
          simp only [hw, if_true] at HH
          simp only [hkc, Bool.false_eq_true, if_false] at HH ⊢
          unfold Oper.wp at HH ⊢
          rw [execOp_put ok (fun cs b => hsel k ok cs b hk) a oj.dst v p3]
          exact upon_back q2 _ (fun a' u w' e ⟨k1, k2⟩ => ⟨k1, step a' u w' e (H.sub _ _ hC k1) k2⟩) HH
        · rename_i hw
          simp only [hw] at HH
          have := step _ undef w rfl hC HH
          rw [Act.put_comm a v undef q2]
          exact this

/-- The walk in the order of the text, from operation k on. -/
def wpMixL (P : Program) (ops : Array Oper) (C : World → Prop) (D : World → World → Prop) (L : Nat → Bool) (Q : Act → World → Prop) : Nat → List Oper → Act → World → Prop
  | _, [], a, w => Q a w
  | k, o :: rest, a, w => if Region.wanted o (yielded ops a.tmps) then (if calm o then o.quiet P a (cls C D L k w) (fun a' => wpMixL P ops C D L Q (k + 1) rest a' w) else o.wp P a w (fun a' w' => D w w' ∧ wpMixL P ops C D L Q (k + 1) rest a' w') QF) else wpMixL P ops C D L Q (k + 1) rest (a.put o.dst undef) w

theorem wpBL_lex (H : Hangs C D) (hLt : LateOk md ops L) {Q : Act → World → Prop} (hs : Region.noSelect ops = true) (hB : barB md ops = true) : ∀ (l : List Oper) (k : Nat) (listed : Array Bool) (a : Act) (w : World), (∀ j, l[j]? = ops[k + j]?) →
    (∀ m, k ≤ m → listed.getD m false = false) → (∀ m, m < k → listed.getD m true = true) → k + l.length = ops.size → Closed md ops listed →
    Region.lexFrom md ops l.length k listed = true → C w → wpMixL P ops C D L Q k l a w → wpBL P md ops C D L Q l.length listed a w := by
  intro l
  induction l with
  | nil => intro k listed a w _ _ _ _ _ hL _ h; exact ⟨by simpa [Region.lexFrom] using hL, h⟩
  | cons o l ih =>
    intro k listed a w hl hun hbe hlen hcl hL hC h
    have hsz := hcl.1
    have h0 : ops[k]? = some o := by simpa using (hl 0).symm
    have hks : k < ops.size := (Array.getElem?_eq_some_iff.1 h0).1
    simp only [List.length_cons, Region.lexFrom, Bool.and_eq_true] at hL
    obtain ⟨⟨hr, hf⟩, hL'⟩ := hL
    have hr' : k ∈ Region.ready md ops listed := by simpa using hr
    have next : ∀ a' w', C w' → wpMixL P ops C D L Q (k + 1) l a' w' → wpBL P md ops C D L Q l.length (listed.setIfInBounds k true) a' w' := fun a' w' hC' h' =>
      ih (k + 1) _ a' w' (fun j => by have := hl (j + 1); simpa [Nat.add_assoc, Nat.add_comm 1 j] using this) (fun m hm => by rw [getD_set_ne false (by omega)]; exact hun m (by omega))
        (fun m hm => by
          rcases Decidable.em (k = m) with rfl | hkm
          · simp [hsz, hks]
          · rw [getD_set_ne true hkm]; exact hbe m (by omega)) (by simp only [List.length_cons] at hlen; omega) (hcl.set hr') hL' hC' h'
    by_cases hc : calm o = true
    · have hq : bOpL P ops C D L k (wpBL P md ops C D L Q l.length (listed.setIfInBounds k true)) a w := by
        unfold wpMixL at h
        unfold bOpL
        simp only [h0, hc, if_true] at h ⊢
        split
        · rename_i hw
          simp only [hw, if_true] at h
          exact Oper.quiet_mono (fun a' h' => next a' w hC h') h
        · rename_i hw
          simp only [hw] at h
          exact next _ _ hC h
      obtain ⟨v, hy, hK⟩ := yc_of_bOpL h0 hc hq
      exact still_firstL H h0 (Region.noSelect_spec hs) l.length listed a w (Region.free_spec h0 hf) hr' hy hK
    · have hc' : calm o = false := by simpa using hc
      refine bar_firstL H hLt h0 hc' hB (Region.noSelect_spec hs) l.length listed a w hC (Region.free_spec h0 hf) (fun m hm _ => hun m hm) hbe hcl hr' ?_
      unfold wpMixL at h
      unfold bOpL
      simp only [h0, hc', Bool.false_eq_true, if_false] at h ⊢
      split
      · rename_i hw
        simp only [hw, if_true] at h
        exact wp_qf (fun a' w' ⟨k1, k2⟩ => ⟨k1, next a' w' (H.sub _ _ hC k1) k2⟩) h
      · rename_i hw
        simp only [hw] at h
        exact next _ _ hC h

def lateB (md : Region.Mode) (ops : Array Oper) (js : List Nat) : Bool :=
  js.all fun j => (List.range j).any fun p => !calmAt ops p && (List.range j).all (fun q => decide (q ≤ p) || calmAt ops q) && (downOf md ops p).getD j false
theorem lateB_spec {js : List Nat} (h : lateB md ops js = true) : LateOk md ops (fun i => js.contains i) := by
  intro j hj
  have hj : j ∈ js := by simpa using hj
  obtain ⟨p, hp, h2⟩ := List.any_eq_true.1 (List.all_eq_true.1 h j hj)
  simp only [Bool.and_eq_true, Bool.not_eq_true'] at h2
  refine ⟨p, List.mem_range.1 hp, h2.1.1, fun q h3 h4 => ?_, downOf_spec j h2.2⟩
  have := List.all_eq_true.1 h2.1.2 q (List.mem_range.2 h4)
  simp only [Bool.or_eq_true, decide_eq_true_eq] at this
  rcases this with e | e
  · omega
  · exact e
def mixLB (js : List Nat) (ops : Array Oper) : Bool := Region.lexB .any ops && barB .any ops && lateB .any ops js

theorem wp_region_mixL (H : Hangs C D) (js : List Nat) {id : Nat} {Q : Exit → Act → World → Prop} {a : Act} {w : World} {l : List Oper} (hm : P.follows .mixedOrders = true) (hB : mixLB js l.toArray = true) (hC : C w.drew)
    (h : wpMixL P l.toArray C D (fun i => js.contains i) (Q .normal) 0 l a w.drew) : (Code.region id l.toArray true).wp P Q a w := by
  simp only [mixLB, Region.lexB, Bool.and_eq_true] at hB
  refine wp_region_any hm (wpAny_of_bL H (L := fun i => js.contains i) (Q := Q .normal) (fun _ _ _ h => h) _ _ _ _ hC ?_)
  have := wpBL_lex H (lateB_spec hB.2) (md := .any) hB.1.1.1 hB.1.2 l 0 (Array.replicate l.toArray.size false) a w.drew (by simp) (fun m _ => getD_replicate_false _ _) (fun m hm => absurd hm (by omega)) (by simp) ⟨by simp, fun j oj _ hl => (by rw [getD_replicate_false] at hl; cases hl)⟩ (by simpa using hB.1.1.2) hC h
  simpa using this

/-- A calm operation. -/
theorem wpMixL_seg {Q : Act → World → Prop} {w : World} {k : Nat} {o : Oper} {rest : List Oper} {a : Act} (hl : L k = false) (hc : calm o = true) (h : wpQuiet P ops C (fun a' => wpMixL P ops C D L Q (k + 1) rest a' w) [o] a) : wpMixL P ops C D L Q k (o :: rest) a w := by
  simp only [wpQuiet] at h
  unfold wpMixL
  have e : cls C D L k w = C := by unfold cls; rw [hl]; rfl
  rw [e]
  simp only [hc, if_true]
  split
  · rename_i hw
    simp only [hw, if_true] at h
    exact h
  · rename_i hw
    simp only [hw] at h
    exact h
/-- A calm operation that reads what the call ahead of it made. -/
theorem wpMixL_late {Q : Act → World → Prop} {w : World} {k : Nat} {o : Oper} {rest : List Oper} {a : Act} (hl : L k = true) (hc : calm o = true) (h : wpQuiet P ops (D w) (fun a' => wpMixL P ops C D L Q (k + 1) rest a' w) [o] a) : wpMixL P ops C D L Q k (o :: rest) a w := by
  simp only [wpQuiet] at h
  unfold wpMixL
  have e : cls C D L k w = D w := by unfold cls; rw [hl]; rfl
  rw [e]
  simp only [hc, if_true]
  split
  · rename_i hw
    simp only [hw, if_true] at h
    exact h
  · rename_i hw
    simp only [hw] at h
    exact h
def MixGoL (P : Program) (ops : Array Oper) (C : World → Prop) (D : World → World → Prop) (L : Nat → Bool) (Q : Act → World → Prop) (w0 : World) (k : Nat) (rest : List Oper) (a : Act) (w : World) : Prop := D w0 w ∧ wpMixL P ops C D L Q k rest a w
/-- One barrier. -/
theorem wpMixL_bar {Q : Act → World → Prop} {w : World} {k : Nat} {o : Oper} {rest : List Oper} {a : Act} (hc : calm o = false) (hw : Region.wanted o (yielded ops a.tmps) = true)
    (h : wpList P ops (OnlyNormal (MixGoL P ops C D L Q w (k + 1) rest)) [o] a w) : wpMixL P ops C D L Q k (o :: rest) a w := by
  unfold wpMixL
  simp only [hc, hw, if_true, Bool.false_eq_true, if_false]
  simp only [wpList, hw, if_true, onlyNormal_normal] at h
  rcases h with h | ⟨_, a', w', h⟩
  · unfold Oper.wp at *
    generalize (execOp a.eval o).run P w = r at *
    cases r with
    | ok n w' =>
      cases n <;> simp only [Oper.upon] at h ⊢ <;>
        first
          | exact h
          | exact Calls.mono h (fun e w'' he => by cases e <;> first | exact he | exact absurd he id | (obtain ⟨_, _, hf⟩ := he; exact absurd hf id))
          | exact Rows.mono h (fun _ _ he => he)
    | halt x w' => cases x <;> simp only [Oper.upon, OnlyNormal] at h
  · exact absurd h id
theorem wpMixL_skip {Q : Act → World → Prop} {w : World} {k : Nat} {o : Oper} {rest : List Oper} {a : Act} (hw : Region.wanted o (yielded ops a.tmps) = false) (h : wpMixL P ops C D L Q (k + 1) rest (a.put o.dst undef) w) : wpMixL P ops C D L Q k (o :: rest) a w := by
  unfold wpMixL
  simp only [hw, Bool.false_eq_true, if_false]
  exact h
theorem wpMixL_nil {Q : Act → World → Prop} {a : Act} {w : World} {k : Nat} (h : Q a w) : wpMixL P ops C D L Q k [] a w := h
end

/-- Behind w, what lies outside F stands. -/
def chgD (F : Nat → Prop) (w : World) : World → Prop := fun w' => ∃ u, w' = mixF F w u
theorem chgD_iff {F : Nat → Prop} {w w' : World} : chgD F w w' ↔ Chg F w w' := ⟨fun ⟨u, e⟩ => by rw [e]; exact mixF_chg F w u, chg_mixF⟩
theorem chg_hangs (F : Nat → Prop) (w : World) : Hangs (chgD F w) (chgD F) :=
  ⟨fun w => chgD_iff.2 (Chg.refl F w), fun a b c h k => chgD_iff.2 ((chgD_iff.1 h).step (chgD_iff.1 k) fun _ _ h => h), fun a b h k => chgD_iff.2 ((chgD_iff.1 h).step (chgD_iff.1 k) fun _ _ h => h)⟩
theorem wp_region_chgL {P : Program} (F : Nat → Prop) (js : List Nat) {id : Nat} {Q : Exit → Act → World → Prop} {a : Act} {w : World} {l : List Oper} (hm : P.follows .mixedOrders = true) (hB : mixLB js l.toArray = true)
    (h : wpMixL P l.toArray (fun w' => ∃ u, w' = mixF F w u) (fun v w' => ∃ u, w' = mixF F v u) (fun i => js.contains i) (Q .normal) 0 l a w.drew) : (Code.region id l.toArray true).wp P Q a w :=
  wp_region_mixL (chg_hangs F w) js hm hB (chg_mixF (Chg.refl F w).drew) h
end Go.Proofs.Ytkedfipeebjcjaa

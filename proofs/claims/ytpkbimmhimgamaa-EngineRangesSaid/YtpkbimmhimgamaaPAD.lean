/-
  Part of the proof of EngineRanges.
-/
import Derived.Test.YtpkbimmhimgamaaPAB
namespace Go.Proofs.Ytpkbimmhimgamaa
set_option linter.unusedSimpArgs false
set_option linter.unusedVariables false
set_option linter.unnecessarySimpa false
open Go.RowKit
/-- No exit. -/
def QF : Exit → Act → World → Prop := fun _ _ _ => False
theorem not_lets : ¬ LetsOut QF := fun ⟨_, _, h⟩ => h

/-- It yields a value by itself. -/
def calm (o : Oper) : Bool :=
  match o.op with
  | .move _ | .assign _ | .pick _ _ _ | .build _ _ | .load _ _ | .nilCheck _ | .binOp _ _ _ _ _ | .unOp _ _ _ | .convert _ _ _ | .slice _ _ _ _ _ | .fieldAddr _ _ _ | .field _ _ _ | .indexAddr _ _ _ | .index _ _ _ | .extract _ _ => true
  | .call c => match c.callee with
    | .builtin .len | .builtin .cap | .builtin .min | .builtin .max => true
    | _ => false
  | _ => false

def noEnter (r : Result Next) : Prop := match r with
  | .ok (.enter _ _) _ => False
  | _ => True
theorem noEnter_v {P : Program} {w : World} (s : Sem Value) : noEnter ((do pure (Next.value (← s)) : Sem Next).run P w) := by
  simp only [Sem.run_bind]
  cases s.run P w <;> simp [Result.andThen, noEnter]
theorem noEnter_run {P : Program} {w : World} {α : Type} (s : Sem α) (f : α → Sem Next) (h : ∀ x w', noEnter ((f x).run P w')) : noEnter ((s >>= f).run P w) := by
  simp only [Sem.run_bind]
  cases s.run P w with
  | ok x w' => simpa [Result.andThen] using h x w'
  | halt x w' => simp [Result.andThen, noEnter]
theorem noEnter_pure {P : Program} {w : World} (v : Value) : noEnter ((pure (Next.value v) : Sem Next).run P w) := by simp [noEnter]
theorem calm_spec {P : Program} {o : Oper} (h : calm o = true) (ρ : Operand → Value) (w : World) : noEnter ((execOp ρ o).run P w) := by
  obtain ⟨dst, op, type, pos, after, guard⟩ := o
  cases op <;> simp only [calm, Bool.false_eq_true] at h <;> simp only [execOp] <;> try first
    | exact noEnter_pure _
    | exact noEnter_v _
  case pick c a b => exact noEnter_run _ _ fun _ _ => noEnter_pure _
  case nilCheck x =>
    repeat' split
    all_goals first
      | exact noEnter_pure _
      | (simp [noEnter, runtimePanic]; done)
      | (simp [noEnter, runtimePanic]
         generalize Sem.run P (nilAhead _ _ _ _) w = r
         cases r with
         | halt x w' => simp [Result.andThen]
         | ok x w' => simp only [Result.andThen]; by_cases hx : x = some false <;> simp [hx])
  case call c =>
    obtain ⟨callee, args, argTypes⟩ := c
    cases callee with
    | builtin b =>
      cases b <;> simp only [Bool.false_eq_true] at h <;> simp only [resolve, invoke, builtin, Sem.run_bind, Sem.run_pure, Result.andThen_ok]
      · cases (Builtin.cap_ argTypes type (Array.map ρ args)).run P w <;> simp [Result.andThen, noEnter]
      · cases (Builtin.len_ argTypes type (Array.map ρ args)).run P w <;> simp [Result.andThen, noEnter]
      · cases (Builtin.max_ argTypes type (Array.map ρ args)).run P w <;> simp [Result.andThen, noEnter]
      · cases (Builtin.min_ argTypes type (Array.map ρ args)).run P w <;> simp [Result.andThen, noEnter]
    | _ => simp at h

section
variable {P : Program} {ops : Array Oper} {md : Region.Mode} {C : World → Prop}
/-- Operation i comes up. -/
def bOp (P : Program) (ops : Array Oper) (C : World → Prop) (i : Nat) (K : Act → World → Prop) (a : Act) (w : World) : Prop :=
  match ops[i]? with
  | none => K a w
  | some o => if Region.wanted o (yielded ops a.tmps) then (if calm o then o.quiet P a C (fun a' => K a' w) else o.wp P a w (fun a' w' => C w' ∧ K a' w') QF) else K (a.put o.dst undef) w

def wpB (P : Program) (md : Region.Mode) (ops : Array Oper) (C : World → Prop) (Q : Act → World → Prop) : Nat → Array Bool → Act → World → Prop
  | 0, listed, a, w => Region.ready md ops listed = [] ∧ Q a w
  | f + 1, listed, a, w => (Region.ready md ops listed = [] → Q a w) ∧ ∀ i ∈ Region.ready md ops listed, bOp P ops C i (wpB P md ops C Q f (listed.setIfInBounds i true)) a w

theorem wp_qf {o : Oper} {a : Act} {w : World} {K K' : Act → World → Prop} {Q' : Exit → Act → World → Prop} (h : ∀ a w, K a w → K' a w) (hh : o.wp P a w K QF) : o.wp P a w K' Q' := by
  unfold Oper.wp at *
  generalize (execOp a.eval o).run P w = r at *
  cases r with
  | ok n w' =>
    cases n <;> simp only [Oper.upon] at hh ⊢ <;>
      first
        | exact h _ _ hh
        | exact Calls.mono hh (fun e w'' he => by cases e <;> first | exact h _ _ he | exact absurd he id | exact absurd he not_lets)
        | exact Rows.mono hh (fun _ _ he => h _ _ he)
  | halt x w' => cases x <;> simp only [Oper.upon, QF] at hh ⊢

theorem bOp_mono {i : Nat} {a : Act} {w : World} {K K' : Act → World → Prop} (hC : C w) (h : ∀ a w, C w → K a w → K' a w) (hh : bOp P ops C i K a w) : bOp P ops C i K' a w := by
  unfold bOp at *
  split
  · rename_i ho; simp only [ho] at hh; exact h _ _ hC hh
  · rename_i o ho
    simp only [ho] at hh
    split
    · rename_i hw
      simp only [hw, if_true] at hh
      split
      · rename_i hc; simp only [hc, if_true] at hh; exact Oper.quiet_mono (fun a' => h a' w hC) hh
      · rename_i hc; simp only [hc] at hh; exact wp_qf (fun a' w' ⟨h1, h2⟩ => ⟨h1, h _ _ h1 h2⟩) hh
    · rename_i hw; simp only [hw] at hh; exact h _ _ hC hh

theorem wp_of_calm {o : Oper} {a : Act} {w : World} {K : Act → Prop} {Q' : Exit → Act → World → Prop} (hc : calm o = true) (hC : C w) (hh : o.quiet P a C K) : o.wp P a w (fun a' w' => w' = w ∧ K a') Q' := by
  obtain ⟨v, h1, h2⟩ := hh
  have h3 := h1 w hC
  have h4 := calm_spec (P := P) hc a.eval w
  unfold Oper.quietAt at h3
  unfold Oper.wp
  generalize (execOp a.eval o).run P w = r at *
  cases r with
  | ok n w' =>
    cases n <;> simp only [Oper.quietUpon] at h3 <;> simp only [Oper.upon]
    case value u => obtain ⟨rfl, rfl⟩ := h3; exact ⟨rfl, h2⟩
    case skip => obtain ⟨rfl, rfl⟩ := h3; exact ⟨rfl, h2⟩
    case enter f args => exact h4.elim
  | halt x w' => simp only [Oper.quietUpon] at h3

theorem wpAny_of_b {Q : Act → World → Prop} {Q' : Exit → Act → World → Prop} (hQ : ∀ a w, C w → Q a w → Q' .normal a w) : ∀ (f : Nat) (listed : Array Bool) (a : Act) (w : World), C w → wpB P md ops C Q f listed a w → wpAny P md ops Q' f listed a w := by
  intro f
  induction f with
  | zero => intro listed a w hC h; exact ⟨h.1, hQ _ _ hC h.2⟩
  | succ f ih =>
    intro listed a w hC h
    refine ⟨fun h0 => hQ _ _ hC (h.1 h0), fun i hi => ?_⟩
    have h1 := h.2 i hi
    unfold bOp at h1
    unfold wpOp
    split
    · rename_i ho; simp only [ho] at h1; exact ih _ _ _ hC h1
    · rename_i o ho
      simp only [ho] at h1
      split
      · rename_i hw
        simp only [hw, if_true] at h1
        split at h1
        · rename_i hc
          exact .inl (Oper.wp_mono (fun a' w' ⟨e, h'⟩ => by subst e; exact ih _ _ _ hC h') (wp_of_calm hc hC h1))
        · exact .inl (wp_qf (fun a' w' ⟨h2, h3⟩ => ih _ _ _ h2 h3) h1)
      · rename_i hw; simp only [hw] at h1; exact ih _ _ _ hC h1

/-- In every world of the class operation o yields v, by itself. -/
def YC (P : Program) (ops : Array Oper) (C : World → Prop) (o : Oper) (v : Value) (a : Act) : Prop := calm o = true ∧ YieldsIn P ops C o v a

theorem bOp_of_yc {i : Nat} {o : Oper} {v : Value} {a : Act} {w : World} {K : Act → World → Prop} (hi : ops[i]? = some o) (hy : YC P ops C o v a) (h : K (a.put o.dst v) w) : bOp P ops C i K a w := by
  unfold bOp
  simp only [hi]
  obtain ⟨hc, ⟨hw, hv⟩ | ⟨hw, rfl⟩⟩ := hy
  · simp only [hw, hc, if_true]; exact ⟨v, hv, h⟩
  · simp only [hw, Bool.false_eq_true, if_false]; exact h
theorem yc_of_bOp {i : Nat} {o : Oper} {a : Act} {w : World} {K : Act → World → Prop} (hi : ops[i]? = some o) (hc : calm o = true) (h : bOp P ops C i K a w) : ∃ v, YC P ops C o v a ∧ K (a.put o.dst v) w := by
  unfold bOp at h
  simp only [hi] at h
  by_cases hw : Region.wanted o (yielded ops a.tmps) = true
  · simp only [hw, hc, if_true] at h
    obtain ⟨v, h1, h2⟩ := h
    exact ⟨v, ⟨hc, .inl ⟨hw, h1⟩⟩, h2⟩
  · simp only [hw] at h
    exact ⟨undef, ⟨hc, .inr ⟨by simpa using hw, rfl⟩⟩, h⟩
theorem yc_same {o : Oper} {v u : Value} {a : Act} {w : World} (hC : C w) (h : YC P ops C o v a) (k : YC P ops C o u a) : v = u := by
  obtain ⟨hc, h⟩ := h
  obtain ⟨_, k⟩ := k
  rcases h with ⟨hw, h⟩ | ⟨hw, rfl⟩ <;> rcases k with ⟨kw, k⟩ | ⟨kw, rfl⟩
  · have h1 := h w hC
    have h2 := k w hC
    have h4 := calm_spec (P := P) hc a.eval w
    unfold Oper.quietAt at h1 h2
    generalize (execOp a.eval o).run P w = r at *
    cases r with
    | ok n w' =>
      cases n <;> simp only [Oper.quietUpon] at h1 h2
      case value x => exact h1.2.symm.trans h2.2
      case skip => exact h1.2.trans h2.2.symm
      case enter f args => exact h4.elim
    | halt x w' => simp only [Oper.quietUpon] at h1
  · rw [hw] at kw; cases kw
  · rw [hw] at kw; cases kw
  · rfl
theorem YC.moved {o : Oper} {v : Value} {a : Act} (hsel : ∀ cs b, o.op ≠ .select cs b) {d : Option Tmp} {u : Value} (h : ∀ x, d = some x → x ∉ o.looksAt ops) (hy : YC P ops C o v a) : YC P ops C o v (a.put d u) :=
  ⟨hy.1, hy.2.of_same (execOp_put o hsel a d u h) (wanted_put o a d u h)⟩
theorem YC.back {o : Oper} {v : Value} {a : Act} (hsel : ∀ cs b, o.op ≠ .select cs b) {d : Option Tmp} {u : Value} (h : ∀ x, d = some x → x ∉ o.looksAt ops) (hy : YC P ops C o v (a.put d u)) : YC P ops C o v a :=
  ⟨hy.1, hy.2.of_same (execOp_put o hsel a d u h).symm (wanted_put o a d u h).symm⟩
theorem YC.tmps {o : Oper} {v : Value} {a b : Act} (e : b.tmps = a.tmps) (hy : YC P ops C o v a) : YC P ops C o v b := by
  have h1 : b.eval = a.eval := by
    funext x
    obtain ⟨t, d⟩ := a
    obtain ⟨t', d'⟩ := b
    simp only at e
    subst e
    cases x <;> rfl
  exact ⟨hy.1, hy.2.of_same (by rw [h1]) (by rw [e])⟩

/-- What comes behind a barrier, with a slot put ahead of it or behind it. -/
theorem upon_put {o : Oper} {a : Act} {d : Option Tmp} {v : Value} {N N' : Act → World → Prop} (hd : ∀ x, d = some x → o.dst ≠ some x) (r : Result Next)
    (h : ∀ a' u w', a'.tmps = (a.put o.dst u).tmps → N (a'.put d v) w' → N' a' w') (hh : o.upon P (a.put d v) N QF r) : o.upon P a N' QF r := by
  cases r with
  | ok n w' =>
    cases n <;> simp only [Oper.upon] at hh ⊢
    case value u => exact h _ u _ rfl (by rw [← Act.put_comm a v u hd]; exact hh)
    case skip => exact h _ undef _ rfl (by rw [← Act.put_comm a v undef hd]; exact hh)
    case defer x =>
      refine h _ undef _ ?_ ?_
      · cases o.dst <;> rfl
      · have e : ({ a with defers := x :: a.defers }.put o.dst undef).put d v = { a.put d v with defers := x :: (a.put d v).defers }.put o.dst undef := by
          rw [← Act.put_comm _ v undef hd]
          cases d <;> rfl
        rw [e]
        exact hh
    case enter f args => exact Calls.mono hh (fun e w'' he => by cases e <;> first | exact h _ _ _ rfl (by rw [← Act.put_comm a v _ hd]; exact he) | exact absurd he id | exact absurd he not_lets)
    case row row args => exact Rows.mono hh (fun u _ he => h _ u _ rfl (by rw [← Act.put_comm a v u hd]; exact he))
  | halt x w' => cases x <;> simp only [Oper.upon, QF] at hh ⊢
theorem upon_back {o : Oper} {a : Act} {d : Option Tmp} {v : Value} {N N' : Act → World → Prop} (hd : ∀ x, d = some x → o.dst ≠ some x) (r : Result Next)
    (h : ∀ a' u w', a'.tmps = (a.put o.dst u).tmps → N a' w' → N' (a'.put d v) w') (hh : o.upon P a N QF r) : o.upon P (a.put d v) N' QF r := by
  cases r with
  | ok n w' =>
    cases n <;> simp only [Oper.upon] at hh ⊢
    case value u => rw [Act.put_comm a v u hd]; exact h _ u _ rfl hh
    case skip => rw [Act.put_comm a v undef hd]; exact h _ undef _ rfl hh
    case defer x =>
      have e : ({ a with defers := x :: a.defers }.put o.dst undef).put d v = { a.put d v with defers := x :: (a.put d v).defers }.put o.dst undef := by
        rw [← Act.put_comm _ v undef hd]
        cases d <;> rfl
      rw [← e]
      exact h _ undef _ (by cases o.dst <;> rfl) hh
    case enter f args =>
      refine Calls.mono hh (fun e w'' he => ?_)
      cases e with
      | returned x => show N' ((a.put d v).put o.dst x) w''; rw [Act.put_comm a v x hd]; exact h _ x _ rfl he
      | panicked c => exact absurd he id
      | outgrown => exact absurd he not_lets
    case row row args => exact Rows.mono hh (fun u _ he => by rw [Act.put_comm a v u hd]; exact h _ u _ rfl he)
  | halt x w' => cases x <;> simp only [Oper.upon, QF] at hh ⊢

/-- Operation j, apart from the calm one i: i's value ahead of it or behind it. -/
theorem bOp_put {j : Nat} {oi oj : Oper} {v : Value} (hj : ops[j]? = some oj) (hap : oi.apart ops oj = true) (hsi : ∀ cs b, oi.op ≠ .select cs b) (hsj : ∀ cs b, oj.op ≠ .select cs b)
    {K : Act → World → Prop} {a : Act} {w : World} (hC : C w) (hy : YC P ops C oi v a) (h : bOp P ops C j K (a.put oi.dst v) w) :
    bOp P ops C j (fun a' w' => YC P ops C oi v a' ∧ K (a'.put oi.dst v) w') a w := by
  obtain ⟨h1, h2, h3⟩ := Oper.apart_spec hap
  unfold bOp at *
  simp only [hj] at *
  rw [wanted_put oj a oi.dst v h1] at h
  split
  · rename_i hw
    simp only [hw, if_true] at h
    split
    · rename_i hc
      simp only [hc, if_true] at h
      obtain ⟨u, hu, hn⟩ := h
      refine ⟨u, fun w hw' => ?_, hy.moved hsi h3, by rw [← Act.put_comm a v u h2]; exact hn⟩
      have := hu w hw'
      unfold Oper.quietAt at *
      rwa [execOp_put oj hsj a oi.dst v h1] at this
    · rename_i hc
      rw [if_neg hc] at h
      unfold Oper.wp at *
      rw [execOp_put oj hsj a oi.dst v h1] at h
      exact upon_put h2 _ (fun a' u w' e ⟨k1, k2⟩ => ⟨k1, (hy.moved hsi h3 (u := u)).tmps e, k2⟩) h
  · rename_i hw
    simp only [hw] at h
    exact ⟨hy.moved hsi h3, by rw [← Act.put_comm a v undef h2]; exact h⟩

/-- A calm operation that may come up now may be taken first. -/
theorem still_first {Q : Act → World → Prop} {i : Nat} {oi : Oper} {v : Value} (hi : ops[i]? = some oi) (hsel : ∀ (j : Nat) (o : Oper) cs b, ops[j]? = some o → o.op ≠ .select cs b) :
    ∀ (fuel : Nat) (listed : Array Bool) (a : Act) (w : World), C w →
      (∀ j oj, ops[j]? = some oj → j ≠ i → listed.getD j true = false → (∀ e ∈ oj.after, Region.binds md e = true → e.on ≠ i) → oi.apart ops oj = true) →
      i ∈ Region.ready md ops listed → YC P ops C oi v a → wpB P md ops C Q fuel (listed.setIfInBounds i true) (a.put oi.dst v) w → wpB P md ops C Q (fuel + 1) listed a w := by
  intro fuel
  induction fuel with
  | zero =>
    intro listed a w hC _ hr hy H
    refine ⟨fun h => (by rw [h] at hr; cases hr), fun j hj => ?_⟩
    rcases Decidable.em (j = i) with rfl | hji
    · exact bOp_of_yc hi hy H
    · have := ready_mono hj hji
      rw [H.1] at this
      cases this
  | succ fuel ih =>
    intro listed a w hC hfree hr hy H
    refine ⟨fun h => (by rw [h] at hr; cases hr), fun j hj => ?_⟩
    rcases Decidable.em (j = i) with rfl | hji
    · exact bOp_of_yc hi hy H
    · obtain ⟨hjun, oj, hoj, hall⟩ := mem_ready.1 hj
      have hnot : ∀ e ∈ oj.after, Region.binds md e = true → e.on ≠ i := fun e he hb heq => by
        have h1 := hall e he hb
        rw [heq, getD_both (mem_ready.1 hr).1] at h1
        cases h1
      refine bOp_mono hC (fun a' w' hC' h3 => ?_) (bOp_put hoj (hfree j oj hoj hji hjun hnot) (fun cs b => hsel i oi cs b hi) (fun cs b => hsel j oj cs b hoj) hC hy (H.2 j (ready_mono hj hji)))
      refine ih (listed.setIfInBounds j true) a' w' hC' (fun k ok hk hki hu hno => hfree k ok hk hki ?_ hno) (ready_mono hr (Ne.symm hji)) h3.1 ?_
      · rcases Decidable.em (j = k) with rfl | hjk
        · exact hjun
        · rwa [getD_set_ne true hjk] at hu
      · rw [Array.setIfInBounds_comm _ _ hji]
        exact h3.2

/-- One outcome of a barrier. -/
theorem bOp_some {k : Nat} {o : Oper} {K : Act → World → Prop} {a : Act} {w : World} (hk : ops[k]? = some o) (hC : C w) (h : bOp P ops C k K a w) : ∃ a' u w', a'.tmps = (a.put o.dst u).tmps ∧ C w' ∧ K a' w' := by
  unfold bOp at h
  simp only [hk] at h
  split at h
  · split at h
    · obtain ⟨v, _, h2⟩ := h
      exact ⟨_, v, w, rfl, hC, h2⟩
    · unfold Oper.wp at h
      generalize (execOp a.eval o).run P w = r at h
      cases r with
      | ok n w' =>
        cases n <;> simp only [Oper.upon] at h
        case value u => exact ⟨_, u, _, rfl, h.1, h.2⟩
        case skip => exact ⟨_, undef, _, rfl, h.1, h.2⟩
        case defer x => exact ⟨_, undef, _, (by cases o.dst <;> rfl), h.1, h.2⟩
        case enter f args =>
          obtain ⟨e, w'', fr, he, _⟩ := h []
          cases e
          · exact ⟨_, _, _, rfl, he.1, he.2⟩
          · exact absurd he id
          · exact absurd he not_lets
        case row row args =>
          obtain ⟨v, w'', he, _⟩ := h (Frame.ofRow P row args .normal) []
          exact ⟨_, _, _, rfl, he.1, he.2⟩
      | halt x w' => cases x <;> simp only [Oper.upon, QF] at h
  · exact ⟨_, undef, w, rfl, hC, h⟩

def calmAt (ops : Array Oper) (q : Nat) : Bool := match ops[q]? with
  | some o => calm o
  | none => true
/-- What has come up has come up behind all that it waits for. -/
def Closed (md : Region.Mode) (ops : Array Oper) (listed : Array Bool) : Prop :=
  listed.size = ops.size ∧ ∀ j oj, ops[j]? = some oj → listed.getD j false = true → ∀ e ∈ oj.after, Region.binds md e = true → listed.getD e.on false = true
theorem Closed.set {listed : Array Bool} {i : Nat} (h : Closed md ops listed) (hi : i ∈ Region.ready md ops listed) : Closed md ops (listed.setIfInBounds i true) := by
  obtain ⟨_, oi, hoi, hall⟩ := mem_ready.1 hi
  refine ⟨by simpa using h.1, fun j oj hj hl e he hb => ?_⟩
  rcases Decidable.em (i = j) with rfl | hij
  · have : oj = oi := Option.some.inj (hj.symm.trans hoi)
    subst this
    exact getD_set_true (hall e he hb)
  · rw [getD_set_ne false hij] at hl
    exact getD_set_true (h.2 j oj hj hl e he hb)
/-- What waits for p, through others too. -/
def downOf (md : Region.Mode) (ops : Array Oper) (p : Nat) : Array Bool :=
  (List.range ops.size).foldl (fun acc q => match ops[q]? with
    | some o => if o.after.any fun e => Region.binds md e && (e.on == p || acc.getD e.on false) then acc.setIfInBounds q true else acc
    | none => acc) (Array.replicate ops.size false)
def Blk (md : Region.Mode) (ops : Array Oper) (p q : Nat) : Prop := ∀ listed, Closed md ops listed → listed.getD p false = false → listed.getD q false = false ∧ q ∉ Region.ready md ops listed
theorem getD_set_cases {acc : Array Bool} {q m : Nat} (h : (acc.setIfInBounds q true).getD m false = true) : q = m ∨ acc.getD m false = true := by
  rcases Decidable.em (q = m) with e | e
  · exact .inl e
  · rw [getD_set_ne false e] at h; exact .inr h
theorem downOf_spec {p : Nat} : ∀ m, (downOf md ops p).getD m false = true → Blk md ops p m := by
  unfold downOf
  generalize List.range ops.size = l
  have base : ∀ m, (Array.replicate ops.size false).getD m false = true → Blk md ops p m := fun m h => by rw [getD_replicate_false] at h; cases h
  revert base
  generalize Array.replicate ops.size false = acc
  induction l generalizing acc with
  | nil => intro base; exact base
  | cons q l ih =>
    intro base
    rw [List.foldl_cons]
    refine ih _ fun m h => ?_
    cases ho : ops[q]? with
    | none => simp only [ho] at h; exact base m h
    | some o =>
      simp only [ho] at h
      split at h
      · rename_i hany
        rcases getD_set_cases h with rfl | h
        · obtain ⟨e, he, hb⟩ := Array.any_eq_true'.1 hany
          simp only [Bool.and_eq_true, Bool.or_eq_true, beq_iff_eq] at hb
          intro listed hcl hp
          have hon : listed.getD e.on false = false := by
            rcases hb.2 with h1 | h1
            · rw [h1]; exact hp
            · exact (base _ h1 listed hcl hp).1
          refine ⟨?_, fun hr => ?_⟩
          · cases hq : listed.getD q false with
            | false => rfl
            | true => rw [hcl.2 q o ho hq e he hb.1] at hon; cases hon
          · obtain ⟨_, o', ho', hall⟩ := mem_ready.1 hr
            have : o' = o := Option.some.inj (ho'.symm.trans ho)
            subst this
            rw [hall e he hb.1] at hon
            cases hon
        · exact base m h
      · exact base m h

/-- Each barrier waits for the one ahead of it. -/
def barB (md : Region.Mode) (ops : Array Oper) : Bool :=
  (List.range ops.size).all fun m => calmAt ops m || (List.range m).all (calmAt ops) || (List.range m).any fun p => !calmAt ops p && (List.range m).all (fun q => decide (q ≤ p) || calmAt ops q) && (downOf md ops p).getD m false
theorem barB_spec (h : barB md ops = true) {k m : Nat} (hk : calmAt ops k = false) (hkm : k < m) (hm : calmAt ops m = false) (hms : m < ops.size) :
    ∃ p, k ≤ p ∧ p < m ∧ calmAt ops p = false ∧ Blk md ops p m := by
  have h1 := List.all_eq_true.1 h m (List.mem_range.2 hms)
  simp only [hm, Bool.false_or, Bool.or_eq_true] at h1
  rcases h1 with h1 | h1
  · have := List.all_eq_true.1 h1 k (List.mem_range.2 hkm)
    rw [hk] at this
    cases this
  · obtain ⟨p, hp, h2⟩ := List.any_eq_true.1 h1
    simp only [Bool.and_eq_true, Bool.not_eq_true'] at h2
    have := List.all_eq_true.1 h2.1.2 k (List.mem_range.2 hkm)
    rw [hk] at this
    simp only [Bool.or_false, decide_eq_true_eq] at this
    exact ⟨p, this, List.mem_range.1 hp, h2.1.1, downOf_spec m h2.2⟩

/-- No other barrier may come up ahead of k. -/
theorem calm_ready (hB : barB md ops = true) {k j : Nat} {listed : Array Bool} (hcl : Closed md ops listed) (hk : calmAt ops k = false) (hun : ∀ m, k ≤ m → calmAt ops m = false → listed.getD m false = false)
    (hbe : ∀ m, m < k → calmAt ops m = false → listed.getD m true = true) (hj : j ∈ Region.ready md ops listed) (hjk : j ≠ k) : calmAt ops j = true := by
  cases hc : calmAt ops j with
  | true => rfl
  | false =>
    exfalso
    obtain ⟨hjun, oj, hoj, hall⟩ := mem_ready.1 hj
    have hjs : j < ops.size := (Array.getElem?_eq_some_iff.1 hoj).1
    rcases Nat.lt_or_gt_of_ne hjk with h | h
    · rw [hbe j h hc] at hjun; cases hjun
    · obtain ⟨p, hp1, hp2, hp3, hp4⟩ := barB_spec hB hk h hc hjs
      exact (hp4 listed hcl (hun p hp1 hp3)).2 hj

/-- A barrier that may come up now may be taken first: what may come up beside it is calm. -/
theorem bar_first {Q : Act → World → Prop} {k : Nat} {ok : Oper} (hk : ops[k]? = some ok) (hkc : calm ok = false) (hB : barB md ops = true) (hsel : ∀ (j : Nat) (o : Oper) cs b, ops[j]? = some o → o.op ≠ .select cs b) :
    ∀ (fuel : Nat) (listed : Array Bool) (a : Act) (w : World), C w →
      (∀ j oj, ops[j]? = some oj → j ≠ k → listed.getD j true = false → (∀ e ∈ oj.after, Region.binds md e = true → e.on ≠ k) → ok.apart ops oj = true) →
      (∀ m, k ≤ m → calmAt ops m = false → listed.getD m false = false) → (∀ m, m < k → calmAt ops m = false → listed.getD m true = true) → Closed md ops listed →
      k ∈ Region.ready md ops listed → bOp P ops C k (wpB P md ops C Q fuel (listed.setIfInBounds k true)) a w → wpB P md ops C Q (fuel + 1) listed a w := by
  have hkA : calmAt ops k = false := by unfold calmAt; rw [hk]; exact hkc
  intro fuel
  induction fuel with
  | zero =>
    intro listed a w hC hfree hun hbe hcl hr H
    refine ⟨fun h => (by rw [h] at hr; cases hr), fun j hj => ?_⟩
    rcases Decidable.em (j = k) with rfl | hjk
    · exact H
    · obtain ⟨a', u, w', _, _, h3⟩ := bOp_some hk hC H
      have := ready_mono hj hjk
      rw [h3.1] at this
      cases this
  | succ fuel ih =>
    intro listed a w hC hfree hun hbe hcl hr H
    refine ⟨fun h => (by rw [h] at hr; cases hr), fun j hj => ?_⟩
    rcases Decidable.em (j = k) with rfl | hjk
    · exact H
    · obtain ⟨hjun, oj, hoj, hall⟩ := mem_ready.1 hj
      have hjc := calm_ready hB hcl hkA hun hbe hj hjk
      have hjc' : calm oj = true := by unfold calmAt at hjc; rw [hoj] at hjc; exact hjc
      have hnot : ∀ e ∈ oj.after, Region.binds md e = true → e.on ≠ k := fun e he hb heq => by
        have h1 := hall e he hb
        rw [heq, getD_both (mem_ready.1 hr).1] at h1
        cases h1
      obtain ⟨p1, p2, p3⟩ := Oper.apart_spec (hfree j oj hoj hjk hjun hnot)
      have q2 : ∀ d, oj.dst = some d → ok.dst ≠ some d := fun d hd he => p2 d he hd
      -- the value that j yields
      have hv : ∃ v, YC P ops C oj v a := by
        obtain ⟨a', u, w', e, _, h3⟩ := bOp_some hk hC H
        obtain ⟨v, hy, _⟩ := yc_of_bOp hoj hjc' (h3.2 j (ready_mono hj hjk))
        exact ⟨v, (hy.tmps e.symm).back (fun cs b => hsel j oj cs b hoj) p1⟩
      obtain ⟨v, hy⟩ := hv
      refine bOp_of_yc hoj hy (ih (listed.setIfInBounds j true) (a.put oj.dst v) w hC (fun m om hm hmk hu hno => hfree m om hm hmk ?_ hno) (fun m hm hc => ?_) (fun m hm hc => by rw [getD_set_ne true (fun e => by subst e; rw [hjc] at hc; cases hc)]; exact hbe m hm hc) (hcl.set hj) (ready_mono hr (Ne.symm hjk)) ?_)
      · rcases Decidable.em (j = m) with rfl | hjm
        · exact hjun
        · rwa [getD_set_ne true hjm] at hu
      · rcases Decidable.em (j = m) with rfl | hjm
        · rw [hjc] at hc; cases hc
        · rw [getD_set_ne false hjm]; exact hun m hm hc
      · rw [Array.setIfInBounds_comm _ _ hjk]
        unfold bOp at H ⊢
        simp only [hk] at H ⊢
        rw [wanted_put ok a oj.dst v p3]
        have step : ∀ a' u w', a'.tmps = (a.put ok.dst u).tmps → C w' → wpB P md ops C Q (fuel + 1) (listed.setIfInBounds k true) a' w' → wpB P md ops C Q fuel ((listed.setIfInBounds k true).setIfInBounds j true) (a'.put oj.dst v) w' := by
          intro a' u w' e hC' h'
          obtain ⟨v', hy', h4⟩ := yc_of_bOp hoj hjc' (h'.2 j (ready_mono hj hjk))
          have hy2 : YC P ops C oj v a' := (hy.moved (fun cs b => hsel j oj cs b hoj) p1).tmps e
          have := yc_same hC' hy2 hy'
          subst this
          exact h4
        split
        · rename_i hw
          simp only [hw, if_true] at H
          simp only [hkc, Bool.false_eq_true, if_false] at H ⊢
          unfold Oper.wp at H ⊢
          rw [execOp_put ok (fun cs b => hsel k ok cs b hk) a oj.dst v p3]
          exact upon_back q2 _ (fun a' u w' e ⟨k1, k2⟩ => ⟨k1, step a' u w' e k1 k2⟩) H
        · rename_i hw
          simp only [hw] at H
          have := step _ undef w rfl hC H
          rw [Act.put_comm a v undef q2]
          exact this

/-- The walk in the order of the text: a calm operation yields its value in every world of the class; a barrier turns the world. -/
def wpMix (P : Program) (ops : Array Oper) (C : World → Prop) (Q : Act → World → Prop) : List Oper → Act → World → Prop
  | [], a, w => Q a w
  | o :: rest, a, w => if Region.wanted o (yielded ops a.tmps) then (if calm o then o.quiet P a C (fun a' => wpMix P ops C Q rest a' w) else o.wp P a w (fun a' w' => C w' ∧ wpMix P ops C Q rest a' w') QF) else wpMix P ops C Q rest (a.put o.dst undef) w

theorem wpB_lex {Q : Act → World → Prop} (hs : Region.noSelect ops = true) (hB : barB md ops = true) : ∀ (l : List Oper) (k : Nat) (listed : Array Bool) (a : Act) (w : World), (∀ j, l[j]? = ops[k + j]?) →
    (∀ m, k ≤ m → listed.getD m false = false) → (∀ m, m < k → listed.getD m true = true) → k + l.length = ops.size → Closed md ops listed →
    Region.lexFrom md ops l.length k listed = true → C w → wpMix P ops C Q l a w → wpB P md ops C Q l.length listed a w := by
  intro l
  induction l with
  | nil => intro k listed a w _ _ _ _ _ hL _ h; exact ⟨by simpa [Region.lexFrom] using hL, h⟩
  | cons o l ih =>
    intro k listed a w hl hun hbe hlen hcl hL hC h
    have hsz := hcl.1
    have h0 : ops[k]? = some o := by simpa using (hl 0).symm
    have hks : k < ops.size := (Array.getElem?_eq_some_iff.1 h0).1
    simp only [List.length_cons, Region.lexFrom, Bool.and_eq_true] at hL
    obtain ⟨⟨hr, hf⟩, hL'⟩ := hL
    have hr' : k ∈ Region.ready md ops listed := by simpa using hr
    have next : ∀ a' w', C w' → wpMix P ops C Q l a' w' → wpB P md ops C Q l.length (listed.setIfInBounds k true) a' w' := fun a' w' hC' h' =>
      ih (k + 1) _ a' w' (fun j => by have := hl (j + 1); simpa [Nat.add_assoc, Nat.add_comm 1 j] using this) (fun m hm => by rw [getD_set_ne false (by omega)]; exact hun m (by omega))
        (fun m hm => by
          rcases Decidable.em (k = m) with rfl | hkm
          · simp [hsz, hks]
          · rw [getD_set_ne true hkm]; exact hbe m (by omega)) (by simp only [List.length_cons] at hlen; omega) (hcl.set hr') hL' hC' h'
    by_cases hc : calm o = true
    · have hq : bOp P ops C k (wpB P md ops C Q l.length (listed.setIfInBounds k true)) a w := by
        unfold wpMix at h
        unfold bOp
        simp only [h0, hc, if_true] at h ⊢
        split
        · rename_i hw
          simp only [hw, if_true] at h
          exact Oper.quiet_mono (fun a' h' => next a' w hC h') h
        · rename_i hw
          simp only [hw] at h
          exact next _ _ hC h
      obtain ⟨v, hy, hK⟩ := yc_of_bOp h0 hc hq
      exact still_first h0 (Region.noSelect_spec hs) l.length listed a w hC (Region.free_spec h0 hf) hr' hy hK
    · have hc' : calm o = false := by simpa using hc
      refine bar_first h0 hc' hB (Region.noSelect_spec hs) l.length listed a w hC (Region.free_spec h0 hf) (fun m hm _ => hun m hm) (fun m hm _ => hbe m hm) hcl hr' ?_
      unfold wpMix at h
      unfold bOp
      simp only [h0, hc', Bool.false_eq_true, if_false] at h ⊢
      split
      · rename_i hw
        simp only [hw, if_true] at h
        exact wp_qf (fun a' w' ⟨k1, k2⟩ => ⟨k1, next a' w' k1 k2⟩) h
      · rename_i hw
        simp only [hw] at h
        exact next _ _ hC h

def mixB (ops : Array Oper) : Bool := Region.lexB .any ops && barB .any ops

/-- ONE WALK, IN THE ORDER OF THE TEXT. -/
theorem wp_region_mix {id : Nat} {Q : Exit → Act → World → Prop} {a : Act} {w : World} {l : List Oper} (hm : P.follows .mixedOrders = true) (hB : mixB l.toArray = true) (hC : C w.drew)
    (h : wpMix P l.toArray C (Q .normal) l a w.drew) : (Code.region id l.toArray true).wp P Q a w := by
  simp only [mixB, Region.lexB, Bool.and_eq_true] at hB
  refine wp_region_any hm (wpAny_of_b (C := C) (Q := Q .normal) (fun _ _ _ h => h) _ _ _ _ hC ?_)
  have := wpB_lex (C := C) (md := .any) hB.1.1 hB.2 l 0 (Array.replicate l.toArray.size false) a w.drew (by simp) (fun m _ => getD_replicate_false _ _) (fun m hm => absurd hm (by omega)) (by simp) ⟨by simp, fun j oj _ hl => (by rw [getD_replicate_false] at hl; cases hl)⟩ (by simpa using hB.1.2) hC h
  simpa using this

/-- A stretch of calm operations. -/
theorem wpMix_seg {Q : Act → World → Prop} {w : World} : ∀ (n : Nat) (l : List Oper) (a : Act), (l.take n).all calm = true → wpQuiet P ops C (fun a' => wpMix P ops C Q (l.drop n) a' w) (l.take n) a → wpMix P ops C Q l a w := by
  intro n
  induction n with
  | zero => intro l a _ h; simpa [wpQuiet] using h
  | succ n ih =>
    intro l a hc h
    cases l with
    | nil => simpa [wpQuiet] using h
    | cons o l =>
      simp only [List.take_succ_cons, List.all_cons, Bool.and_eq_true] at hc
      simp only [List.take_succ_cons, List.drop_succ_cons, wpQuiet] at h
      unfold wpMix
      simp only [hc.1, if_true]
      split
      · rename_i hw
        simp only [hw, if_true] at h
        exact Oper.quiet_mono (fun a' h' => ih l a' hc.2 h') h
      · rename_i hw
        simp only [hw] at h
        exact ih l _ hc.2 h

def MixGo (P : Program) (ops : Array Oper) (C : World → Prop) (Q : Act → World → Prop) (rest : List Oper) (a : Act) (w : World) : Prop := C w ∧ wpMix P ops C Q rest a w
def OnlyNormal (R : Act → World → Prop) : Exit → Act → World → Prop := fun x a w => match x with
  | .normal => R a w
  | _ => False
theorem onlyNormal_normal (R : Act → World → Prop) (a : Act) (w : World) : OnlyNormal R .normal a w = R a w := rfl
/-- One barrier. -/
theorem wpMix_bar {Q : Act → World → Prop} {w : World} {o : Oper} {rest : List Oper} {a : Act} (hc : calm o = false) (hw : Region.wanted o (yielded ops a.tmps) = true)
    (h : wpList P ops (OnlyNormal (MixGo P ops C Q rest)) [o] a w) : wpMix P ops C Q (o :: rest) a w := by
  unfold wpMix
  simp only [hc, hw, if_true, Bool.false_eq_true, if_false]
  simp only [wpList, hw, if_true, onlyNormal_normal] at h
  rcases h with h | ⟨_, a', w', h⟩
  · unfold Oper.wp at *
    generalize (execOp a.eval o).run P w = r at *
    cases r with
    | ok n w' =>
      cases n <;> simp only [Oper.upon] at h ⊢ <;>
        first
          | exact h
          | exact Calls.mono h (fun e w'' he => by cases e <;> first | exact he | exact absurd he id | (obtain ⟨_, _, hf⟩ := he; exact absurd hf id))
          | exact Rows.mono h (fun _ _ he => he)
    | halt x w' => cases x <;> simp only [Oper.upon, OnlyNormal] at h
  · exact absurd h id
/-- A barrier that is passed over. -/
theorem wpMix_skip {Q : Act → World → Prop} {w : World} {o : Oper} {rest : List Oper} {a : Act} (hw : Region.wanted o (yielded ops a.tmps) = false) (h : wpMix P ops C Q rest (a.put o.dst undef) w) : wpMix P ops C Q (o :: rest) a w := by
  unfold wpMix
  simp only [hw, Bool.false_eq_true, if_false]
  exact h
theorem wpMix_nil {Q : Act → World → Prop} {a : Act} {w : World} (h : Q a w) : wpMix P ops C Q [] a w := h

end
/-- The class of the worlds that C holds of, as one function's values. -/
noncomputable def mixC (C : World → Prop) (w u : World) : World := by
  classical exact if C u then u else w
theorem mixC_in {C : World → Prop} {w : World} (h : C w) (u : World) : C (mixC C w u) := by
  unfold mixC
  split
  · assumption
  · exact h
theorem mixC_eq {C : World → Prop} {w w' : World} (h : C w') : ∃ u, w' = mixC C w u := ⟨w', by unfold mixC; rw [if_pos h]⟩
noncomputable def mixF (F : Nat → Prop) (w u : World) : World := mixC (Chg F w) w u
theorem mixF_chg (F : Nat → Prop) (w u : World) : Chg F w (mixF F w u) := mixC_in (Chg.refl F w) u
theorem chg_mixF {F : Nat → Prop} {w w' : World} (h : Chg F w w') : ∃ u, w' = mixF F w u := mixC_eq h
theorem mixF_cell {F : Nat → Prop} {w : World} {a : Addr} {v : Value} (h : w.cell? a = some v) (hF : ¬ F a.block) : ∀ u, (mixF F w u).cell? a = some v := fun u => (mixF_chg F w u).cell h hF

/-- The walk of a region whose barriers turn blocks of F alone, or make new ones. -/
theorem wp_region_chg {P : Program} (F : Nat → Prop) {id : Nat} {Q : Exit → Act → World → Prop} {a : Act} {w : World} {l : List Oper} (hm : P.follows .mixedOrders = true) (hB : mixB l.toArray = true)
    (h : wpMix P l.toArray (fun w' => ∃ u, w' = mixF F w u) (Q .normal) l a w.drew) : (Code.region id l.toArray true).wp P Q a w :=
  wp_region_mix hm hB (C := fun w' => ∃ u, w' = mixF F w u) (chg_mixF (Chg.refl F w).drew) h

end Go.Proofs.Ytpkbimmhimgamaa

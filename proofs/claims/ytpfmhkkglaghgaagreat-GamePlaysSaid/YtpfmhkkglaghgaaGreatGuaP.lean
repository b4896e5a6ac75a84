/-
  A guard, plainly.
-/
import Derived.Test.YtpfmhkkglaghgaaGreatBudP
import Derived.Test.YtpfmhkkglaghgaaGreatPrfP
import Derived.Test.YtpfmhkkglaghgaaGreatLookR
namespace Go.Proofs.YtpfmhkkglaghgaaGreat
set_option linter.unusedSimpArgs false
set_option linter.unusedVariables false
set_option linter.unnecessarySimpa false
open Go.RowKit

def AckD.zero : AckD := ⟨[], [], 0, 0, false⟩
def AckD.ak (d : AckD) : Ak := ⟨none, 0, none, 0, d.sp, d.mm, d.tr, d.xo, d.od⟩
structure AckD.Good (d : AckD) : Prop where
  us : U2s d.sp
  um : U2s d.mm
  ut : isU64 d.tr
  ux : isU64 d.xo
  ls : d.sp.length ≤ 32
  lm : d.mm.length ≤ 32
theorem AckD.Good.zero : AckD.zero.Good := ⟨(fun _ h => by cases h), (fun _ h => by cases h), ⟨by decide, by decide⟩, ⟨by decide, by decide⟩, by decide, by decide⟩
/-- An acknowledgment in memory holds this. -/
def Ak.is (a : Ak) (d : AckD) : Prop := a.sp = d.sp ∧ a.mm = d.mm ∧ a.tr = d.tr ∧ a.xo = d.xo ∧ a.od = d.od
theorem Ak.is.look {a : Ak} {d : AckD} (h : a.is d) (s : LS) : a.look s = d.ak.look s := Ak.look_congr h.1 h.2.1 h.2.2.1 s
theorem Ak.is.check {a : Ak} {d : AckD} (h : a.is d) (s : LS) : a.check s = d.ak.check s := by
  obtain ⟨A, c, B, e, sp, mm, tr, xo, od⟩ := a
  obtain ⟨h1, h2, h3, h4, h5⟩ := h
  simp only at h1 h2 h3 h4 h5
  subst h1 h2 h3 h4 h5
  rfl
structure Ev where
  at_ : Int
  pn : Int
  used : Int
  why : Int
  d : AckD
def Ev.zero : Ev := ⟨0, 0, 0, 0, AckD.zero⟩
structure Vd where
  kind : Int
  why : Int
  pn : Int
  ch : Bool
def Vd.val (v : Vd) : Value := .agg #[.int .i64 v.kind, .int .i64 v.why, .int .u64 v.pn, .bool v.ch]
structure GS where
  b : BS
  mal : Int
  drp : Int
  tak : Int
  cha : Int
  lat : Int
  over : Bool
  ev : Ev
def inc (x : Int) : Int := IntKind.u64.wrap (x + 1)
theorem inc_u64 (x : Int) : isU64 (inc x) := by
  unfold inc isU64
  have h1 := Int.emod_nonneg (x + 1) (show (18446744073709551616 : Int) ≠ 0 by decide)
  have h2 := Int.emod_lt_of_pos (x + 1) (show (0 : Int) < 18446744073709551616 by decide)
  show 0 ≤ (x + 1) % 18446744073709551616 ∧ (x + 1) % 18446744073709551616 < 18446744073709551616
  exact ⟨h1, h2⟩
structure GOut where
  g : GS
  s : LS
  v : Vd
  a : AckD
namespace GS
def new (most every : Int) : GS := ⟨BS.new most every, 0, 0, 0, 0, 0, false, Ev.zero⟩
def late (g : GS) : GS := { g with lat := inc g.lat }
def bad (g : GS) : GS := { g with mal := inc g.mal }
def drop (g : GS) (r : BS × Bool) : GS := { g with b := r.1, drp := inc g.drp, cha := if r.2 = true then inc g.cha else g.cha }
def ended (g : GS) (e : Ev) : GS := { g with over := true, ev := e }
def took (g : GS) : GS := { g with tak := inc g.tak }
def take (g : GS) (s : LS) (f : List Int) (now : Int) : GOut :=
  if g.over = true then ⟨g.late, s, ⟨1, 8, 0, false⟩, AckD.zero⟩ else
  match ackP f with
  | .error _ => ⟨g.bad, s, ⟨1, 1, 0, false⟩, AckD.zero⟩
  | .ok d => if (d.ak.look s).2 ≠ 0 then ⟨g.drop (g.b.ask now), s, ⟨1, (d.ak.look s).2, 0, (g.b.ask now).2⟩, AckD.zero⟩ else
    if (d.ak.check (s.use (d.ak.look s).1).1).1 ≠ 0 then
      ⟨g.ended ⟨now, (d.ak.check (s.use (d.ak.look s).1).1).2, (d.ak.look s).1, (d.ak.check (s.use (d.ak.look s).1).1).1, d⟩, (s.use (d.ak.look s).1).1, ⟨3, (d.ak.check (s.use (d.ak.look s).1).1).1, (d.ak.check (s.use (d.ak.look s).1).1).2, false⟩, d⟩
    else ⟨g.took, (s.use (d.ak.look s).1).1, ⟨2, 0, (d.ak.look s).1, false⟩, d⟩
theorem take_late {g : GS} (h : g.over = true) (s : LS) (f : List Int) (now : Int) : g.take s f now = ⟨g.late, s, ⟨1, 8, 0, false⟩, AckD.zero⟩ := by unfold take; rw [if_pos h]
theorem take_bad {g : GS} (h : g.over = false) (s : LS) {f : List Int} {e : Int} (h1 : ackP f = .error e) (now : Int) : g.take s f now = ⟨g.bad, s, ⟨1, 1, 0, false⟩, AckD.zero⟩ := by unfold take; rw [if_neg (by simp [h]), h1]
theorem take_drop {g : GS} (h : g.over = false) {s : LS} {f : List Int} {d : AckD} (h1 : ackP f = .ok d) (now : Int) {x y : Int} (h2 : d.ak.look s = (x, y)) (h3 : y ≠ 0) :
    g.take s f now = ⟨g.drop (g.b.ask now), s, ⟨1, y, 0, (g.b.ask now).2⟩, AckD.zero⟩ := by unfold take; rw [if_neg (by simp [h]), h1]; simp only; rw [h2, if_pos h3]
theorem take_end {g : GS} (h : g.over = false) {s : LS} {f : List Int} {d : AckD} (h1 : ackP f = .ok d) (now : Int) {x y z : Int} (h2 : d.ak.look s = (x, 0)) (h3 : d.ak.check (s.use x).1 = (y, z)) (h4 : y ≠ 0) :
    g.take s f now = ⟨g.ended ⟨now, z, x, y, d⟩, (s.use x).1, ⟨3, y, z, false⟩, d⟩ := by unfold take; rw [if_neg (by simp [h]), h1]; simp only; rw [h2, if_neg (by simp)]; simp only; rw [h3, if_pos h4]
theorem take_took {g : GS} (h : g.over = false) {s : LS} {f : List Int} {d : AckD} (h1 : ackP f = .ok d) (now : Int) {x z : Int} (h2 : d.ak.look s = (x, 0)) (h3 : d.ak.check (s.use x).1 = (0, z)) :
    g.take s f now = ⟨g.took, (s.use x).1, ⟨2, 0, x, false⟩, d⟩ := by unfold take; rw [if_neg (by simp [h]), h1]; simp only; rw [h2, if_neg (by simp)]; simp only; rw [h3, if_neg (by simp)]
structure Good (g : GS) : Prop where
  b : g.b.Good
  mal : isU64 g.mal
  drp : isU64 g.drp
  tak : isU64 g.tak
  cha : isU64 g.cha
  lat : isU64 g.lat
  no : g.over = false → g.ev = Ev.zero
theorem u0 : isU64 0 := by unfold isU64; omega
theorem Good.new {most every : Int} (h : isU64 every) : (GS.new most every).Good := ⟨BS.Good.new h, u0, u0, u0, u0, u0, fun _ => rfl⟩
theorem Good.late {g : GS} (h : g.Good) : g.late.Good := ⟨h.b, h.mal, h.drp, h.tak, h.cha, inc_u64 _, h.no⟩
theorem Good.bad {g : GS} (h : g.Good) : g.bad.Good := ⟨h.b, inc_u64 _, h.drp, h.tak, h.cha, h.lat, h.no⟩
theorem Good.took {g : GS} (h : g.Good) : g.took.Good := ⟨h.b, h.mal, h.drp, inc_u64 _, h.cha, h.lat, h.no⟩
theorem Good.ended {g : GS} (h : g.Good) (e : Ev) : (g.ended e).Good := ⟨h.b, h.mal, h.drp, h.tak, h.cha, h.lat, fun h => by cases h⟩
theorem Good.drop {g : GS} (h : g.Good) {now : Int} (hn : isU64 now) : (g.drop (g.b.ask now)).Good := by
  refine ⟨h.b.ask hn, h.mal, inc_u64 _, h.tak, ?_, h.lat, h.no⟩
  show isU64 (if _ then _ else _)
  split
  · exact inc_u64 _
  · exact h.cha
/-- What is taken, dropped or ended leaves a good one. -/
theorem take_cases (g : GS) (s : LS) (f : List Int) (now : Int) :
    (g.over = true ∧ g.take s f now = ⟨g.late, s, ⟨1, 8, 0, false⟩, AckD.zero⟩) ∨
    (g.over = false ∧ g.take s f now = ⟨g.bad, s, ⟨1, 1, 0, false⟩, AckD.zero⟩) ∨
    (g.over = false ∧ ∃ d, ackP f = .ok d ∧ (
      (∃ y, y ≠ 0 ∧ (d.ak.look s).2 = y ∧ g.take s f now = ⟨g.drop (g.b.ask now), s, ⟨1, y, 0, (g.b.ask now).2⟩, AckD.zero⟩) ∨
      (∃ x y z, d.ak.look s = (x, 0) ∧ d.ak.check (s.use x).1 = (y, z) ∧ y ≠ 0 ∧ g.take s f now = ⟨g.ended ⟨now, z, x, y, d⟩, (s.use x).1, ⟨3, y, z, false⟩, d⟩) ∨
      (∃ x, d.ak.look s = (x, 0) ∧ (d.ak.check (s.use x).1).1 = 0 ∧ g.take s f now = ⟨g.took, (s.use x).1, ⟨2, 0, x, false⟩, d⟩))) := by
  cases ho : g.over with
  | true => exact .inl ⟨rfl, take_late ho s f now⟩
  | false =>
    refine .inr ?_
    cases ha : ackP f with
    | error e => exact .inl ⟨rfl, take_bad ho s ha now⟩
    | ok d =>
      refine .inr ⟨rfl, d, rfl, ?_⟩
      rcases hl : d.ak.look s with ⟨x, y⟩
      by_cases hy : y = 0
      · subst hy
        rcases hc : d.ak.check (s.use x).1 with ⟨y, z⟩
        by_cases hy : y = 0
        · subst hy
          exact .inr (.inr ⟨x, rfl, by rw [hc], take_took ho ha now hl hc⟩)
        · exact .inr (.inl ⟨x, y, z, rfl, hc, hy, take_end ho ha now hl hc hy⟩)
      · exact .inl ⟨y, hy, rfl, take_drop ho ha now hl hy⟩
theorem Good.take {g : GS} (h : g.Good) (s : LS) (f : List Int) {now : Int} (hn : isU64 now) : (g.take s f now).g.Good := by
  rcases take_cases g s f now with ⟨-, e⟩ | ⟨-, e⟩ | ⟨-, d, -, ⟨y, -, -, e⟩ | ⟨x, y, z, -, -, -, e⟩ | ⟨x, -, -, e⟩⟩ <;> rw [e]
  · exact h.late
  · exact h.bad
  · exact h.drop hn
  · exact h.ended _
  · exact h.took
theorem good_take {g : GS} {s : LS} (h : s.Good) (f : List Int) (now : Int) : (g.take s f now).s.Good := by
  rcases take_cases g s f now with ⟨-, e⟩ | ⟨-, e⟩ | ⟨-, d, -, ⟨y, -, -, e⟩ | ⟨x, y, z, -, -, -, e⟩ | ⟨x, -, -, e⟩⟩ <;> rw [e]
  · exact h
  · exact h
  · exact h
  · exact h.use x
  · exact h.use x
end GS
end Go.Proofs.YtpfmhkkglaghgaaGreat

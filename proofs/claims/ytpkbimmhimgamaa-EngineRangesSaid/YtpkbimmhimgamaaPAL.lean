/-
  Part of the proof of EngineRanges.
-/
import Derived.Test.YtpkbimmhimgamaaPAH
import Derived.Test.YtpkbimmhimgamaaPAI
import Derived.Test.YtpkbimmhimgamaaPAK
namespace Go.Proofs.Ytpkbimmhimgamaa
set_option linter.unusedSimpArgs false
set_option linter.unusedVariables false
set_option linter.unnecessarySimpa false
open Go.RowKit
/-- A configuration. -/
structure Cfg where
  bits : Int
  one : Int
  ring : Int
  lim : Int
  room : Int
  mss : Int
  ini : Int
  lea : Int
  mo : Int
  algo : Int
  fst : Int
  gr : Int
  cap : Int
  bur : Int
  slo : Int
  chal : Int
  evy : Int
def Cfg.vals (c : Cfg) : List Value := [.int .i64 c.bits, .int .u64 c.one, .int .i64 c.ring, .int .u64 c.lim, .int .i64 c.room, .int .u64 c.mss, .int .u64 c.ini, .int .u64 c.lea, .int .u64 c.mo, .int .i64 c.algo, .int .u64 c.fst, .int .u64 c.gr, .int .u64 c.cap, .int .u64 c.bur, .int .u64 c.slo, .int .i64 c.chal, .int .u64 c.evy]
def Cfg.val (c : Cfg) : Value := .agg #[.int .i64 c.bits, .int .u64 c.one, .int .i64 c.ring, .int .u64 c.lim, .int .i64 c.room, .int .u64 c.mss, .int .u64 c.ini, .int .u64 c.lea, .int .u64 c.mo, .int .i64 c.algo, .int .u64 c.fst, .int .u64 c.gr, .int .u64 c.cap, .int .u64 c.bur, .int .u64 c.slo, .int .i64 c.chal, .int .u64 c.evy]
/-- A configuration that may be. -/
structure Cfg.Ok (c : Cfg) : Prop where
  bits : 1 ≤ c.bits ∧ c.bits ≤ 64
  one : isU64 c.one ∧ c.one ≠ 1
  ring : 4 ≤ c.ring ∧ c.ring ≤ 256
  lim : 0 ≤ c.lim ∧ c.lim ≤ 4611686018427387903
  room : 1 ≤ c.room ∧ c.room ≤ 65536
  mss : 1 ≤ c.mss ∧ c.mss ≤ 1500
  ini : c.lea ≤ c.ini ∧ c.ini ≤ c.mo
  lea : 2 * c.mss ≤ c.lea
  mo : c.lea ≤ c.mo ∧ c.mo ≤ 1073741824
  algo : c.algo = 1 ∨ c.algo = 2
  fst : 1 ≤ c.fst ∧ c.fst ≤ 1099511627776
  gr : 1 ≤ c.gr ∧ c.gr ≤ 1099511627776
  cap : c.gr ≤ c.cap ∧ c.cap ≤ 1099511627776
  bur : c.mss ≤ c.bur ∧ c.bur ≤ 1073741824
  slo : 1 ≤ c.slo ∧ c.slo ≤ 4294967296
  chal : 0 ≤ c.chal ∧ c.chal ≤ 64
  evy : 1 ≤ c.evy ∧ c.evy ≤ 1099511627776
/-- Round-trip times. -/
structure Rt where
  has : Bool
  lt : Int
  sm : Int
  vr : Int
  ls : Int
def Rt.val (r : Rt) : Value := rtv r.has r.lt r.sm r.vr r.ls
def Rt.sample (r : Rt) (x : Int) : Rt := if r.has then ⟨true, x, mixS 7 r.sm x, mixS 3 r.vr (diffS r.sm x), min r.ls x⟩ else ⟨true, x, x, x / 2, x⟩
structure Rt.Good (r : Rt) : Prop where
  lt : isU64 r.lt
  sm : isU64 r.sm
  vr : isU64 r.vr
  ls : isU64 r.ls
/-- An engine. -/
structure ES where
  c : Cfg
  now : Int
  st : Int
  ws : List Int
  k : Nat
  q : QS
  l : LS
  g : GS
  r : Rt
  pc : Int
  pf : Int
  w : Wn
  re : Int
  rc : Int
  tk : Int
  ta : Int
  tr : Int
  tm : Int
  lg : Int
  told : Int
  owed : Int
  pb : Bool
/-- What a window is behind a cut. -/
def cutW (c : Cfg) (w : Wn) (num den cn cd : Int) : Wn :=
  if c.algo = 2 then ⟨clampS (downS w.cw cn cd) c.lea c.mo, max (downS w.cw cn cd) c.lea, 0, peakS w.cw w.pk, 18446744073709551615, 0, 0⟩
  else ⟨clampS (downS w.cw num den) c.lea c.mo, max (downS w.cw num den) c.lea, 0, w.pk, w.ep, w.kk, w.fr⟩
/-- What a window is behind an acknowledgment. -/
def growW (c : Cfg) (w : Wn) (acked now smooth : Int) : Wn :=
  if c.algo = 2 then { w.cubic acked c.mss now smooth with cw := clampS (w.cubic acked c.mss now smooth).cw c.lea c.mo }
  else ⟨clampS (growC w.cw w.th w.ac acked c.mss) c.lea c.mo, w.th, growA w.cw w.th w.ac acked, w.pk, w.ep, w.kk, w.fr⟩
namespace ES
def smooth (s : ES) : Int := if s.r.has then s.r.sm else s.c.fst
def rate (s : ES) : Int := rateS s.w.cw s.smooth s.c.slo
def paced (s : ES) : ES := { s with tk := fillT s.tk s.ta s.tr s.c.bur s.now, ta := max s.ta s.now, tr := min s.rate 4294967296 }
def done (s : ES) : Prop := s.q.base = s.q.b.length
instance (s : ES) : Decidable s.done := by unfold done; exact inferInstance
def over (s : ES) : Prop := s.st = 3 ∨ s.st = 4
instance (s : ES) : Decidable s.over := by unfold over; exact inferInstance
def wnd (s : ES) : Int := windS s.r.has s.r.lt s.r.sm s.c.fst s.c.gr
def tmo (s : ES) : Int := timeS s.r.has s.r.sm s.r.vr s.c.fst s.c.gr
def dead (s : ES) : Int := deadS s.pc s.pf (decide (0 < s.l.flight)) s.tmo s.c.cap
def lose (s : ES) (pn : Int) : ES := { s with l := (s.l.settle pn 3).1, q := (s.q.lost (s.l.get pn).1.off (s.l.get pn).1.len).1 }
def lostL (s : ES) : List Int := Loss.lost s.lg s.now s.wnd s.l.kept
def find (s : ES) : ES := s.lostL.foldl lose { s with tm := Loss.next s.lg s.now s.wnd s.l.kept }
def next (s : ES) : Int := s.l.all.length
def begun (s : ES) (pn num den cn cd : Int) : ES :=
  if s.re ≤ pn then { s with w := cutW s.c s.w num den cn cd, re := (beginS s.re s.rc pn s.next).1, rc := (beginS s.re s.rc pn s.next).2.1 } else s
def grown (s : ES) (acked : Int) : ES := { s with w := growW s.c s.w acked s.now s.smooth }
def word (s : ES) : Int := if h : s.k < s.ws.length then s.ws[s.k] else mixW s.k
def drawn (s : ES) : ES := { s with k := s.k + 1 }
/-- What an acknowledgment settles. -/
def hits (s : ES) (sp : List Sp) : List Snt := s.l.kept.filter (fun x => hasP sp x.pn && (decide (x.state = 1) || decide (x.state = 3)))
def fresh (s : ES) (sp : List Sp) : List Snt := (s.hits sp).filter (fun x => decide (x.state = 1))
def settle1 (s : ES) (x : Snt) : ES := { s with l := (s.l.settle x.pn 2).1, q := (s.q.acked x.off x.len).1 }
def sampled (s : ES) (f : List Snt) (top : Int) : ES := match f.getLast? with
  | some x => if x.pn = top then { s with r := s.r.sample (ssub s.now x.at_) } else s
  | none => s
def marked (s : ES) (f : List Snt) (mm : List Sp) : ES := match f.reverse.find? (fun x => hasP mm x.pn) with
  | some x => s.begun x.pn 4 5 17 20
  | none => s
def bytes (s : ES) (f : List Snt) : Int := ((f.filter (fun x => decide (s.re ≤ x.pn))).map Snt.len).sum
def acked (s : ES) (f : List Snt) : ES := if 0 < s.bytes f then s.grown (s.bytes f) else s
def calmed (s : ES) (any : Bool) : ES := if any then { s with pc := 0, pf := s.now, pb := false } else s
def closed (s : ES) : ES := if s.st = 2 ∧ s.done then { s with st := 3 } else s
def lostTo (s : ES) (l : List Int) : ES := match l.getLast? with
  | some pn => s.begun pn 1 2 7 10
  | none => s
def topOf (sp : List Sp) : Int := (sp.getLast?.map (·.2)).getD 0
def took1 (s : ES) (sp : List Sp) : ES := (((s.hits sp).foldl settle1 s).sampled (s.fresh sp) (topOf sp))
def took2 (s : ES) (sp : List Sp) : ES := { s.took1 sp with lg := max (s.took1 sp).lg (topOf sp) }
def took3 (s : ES) (sp mm : List Sp) : ES := (((s.took2 sp).find.marked (s.fresh sp) mm).lostTo (s.took2 sp).lostL).acked (s.fresh sp)
def taken (s : ES) (sp mm : List Sp) : ES := (((s.took3 sp mm).calmed (!(s.hits sp).isEmpty)).paced).closed
def tick (s : ES) (now : Int) : ES := { s with now := max s.now now }
def due (now at_ : Int) : Bool := decide (at_ ≠ 18446744073709551615) && decide (at_ ≤ now)
/-- A piece goes. -/
def skipped (s : ES) : ES := if skipsS s.word s.c.one ∧ 2 ≤ s.l.room ∧ s.next < s.c.lim then { s.drawn with l := s.l.skip.1 } else s.drawn
def snt (s : ES) (a z : Nat) : Snt := ⟨0, a, (z - a : Nat), lowS s.word s.c.bits, s.now, coinS s.drawn.word, false, 0⟩
def sendP (s : ES) (a z : Nat) : ES :=
  let x := s.snt a z
  { s.drawn.drawn with l := (s.l.send x).1, q := (s.q.sent a (z - a : Nat)).1, pf := s.now, pb := false }
def datOf (s : ES) (a z : Nat) : DatD := ⟨(s.l.send (s.snt a z)).2.1, (s.l.send (s.snt a z)).1.least, a, lowS s.word s.c.bits, if coinS s.drawn.word then 1 else 2, (s.q.b.drop a).take (z - a)⟩
/-- What is polled: bytes, an error, what the engine is then. -/
def poll (s0 : ES) (now : Int) : ES × Option DatD × Int × Int :=
  let s := s0.tick now
  if s.over then (s, none, 9, 0) else
  if 0 < s.owed then ({ s with owed := s.owed - 1, told := s.told + 1 }, none, 0, s.told) else
  match s.q.next s.c.mss with
  | none => (s, none, 10, 0)
  | some (a, z) =>
    if s.pb = false ∧ s.w.cw < s.l.flight + (z - a : Nat) then (s, none, 7, 0) else
    if s.c.lim < s.next then ({ s with st := 3 }, none, 8, 0) else
    if s.l.room < 1 then (s, none, 7, 0) else
    if fillT s.tk s.ta s.tr s.c.bur s.now < fullS (z - a : Nat) then (s, none, 7, 0) else
    let t := ({ s with tk := takeT s.tk s.ta s.tr s.c.bur s.now (z - a : Nat), ta := max s.ta s.now } : ES).skipped
    (t.sendP a z, some (t.datOf a z), 0, 0)
def write (s : ES) (l : List Int) : ES × Int × Int :=
  if s.st ≠ 1 then (s, 0, 9) else
  ({ s with q := (s.q.write l).1 }, (s.q.write l).2, if (s.q.write l).2 < l.length then 7 else 0)
def timer (s : ES) : Int := if s.over then 18446744073709551615 else min s.tm s.dead
def start (c : Cfg) (ws : List Int) : ES :=
  ⟨c, 0, 1, ws, 0, QS.new c.room, LS.new c.ring c.lim, GS.new c.chal c.evy, ⟨false, 0, 0, 0, 0⟩, 0, 0, ⟨c.ini, 18446744073709551615, 0, 0, 18446744073709551615, 0, 0⟩, 0, 0, fullS c.bur, 0, min (rateS c.ini c.fst c.slo) 4294967296, 18446744073709551615, 0, 0, 0, false⟩
end ES
end Go.Proofs.Ytpkbimmhimgamaa
namespace Go.Proofs.Ytpkbimmhimgamaa
set_option linter.unusedSimpArgs false
set_option linter.unusedVariables false
set_option linter.unnecessarySimpa false
open Go.RowKit
theorem cells_of {W : World} {g : Nat} {cs : Array Value} {T : TypeId} (h : W.heap[g]? = some (.cells cs T (0, 0))) : (∀ i, W.cell? ⟨g, i, none⟩ = cs[i]?) ∧ ∀ i, W.frozen? ⟨g, i, none⟩ = false :=
  ⟨fun i => cell_of_row W g i _ _ _ h, fun i => frozen_of_row W g i _ _ h⟩
theorem cells_ofM {W : World} {g : Nat} {cs : Array Value} {T : TypeId} (h : W.heap[g]? = some (.cells cs T (0, 0))) : (∀ u i, (mix W u).cell? ⟨g, i, none⟩ = cs[i]?) ∧ ∀ u i, (mix W u).frozen? ⟨g, i, none⟩ = false :=
  ⟨fun u i => cell_of_row _ g i _ _ _ (((mix_below W u).block _ (lt_of_block h)).trans h), fun u i => frozen_of_row _ g i _ _ (((mix_below W u).block _ (lt_of_block h)).trans h)⟩
/-- Boxes of a call that began at w, as they stand at W: where, what, of which type. -/
structure Bx (w W : World) (l : List (Nat × Array Value × TypeId)) : Prop where
  bel : Below w.heap.size w W
  at_ : ∀ x ∈ l, w.heap.size ≤ x.1 ∧ W.heap[x.1]? = some (.cells x.2.1 x.2.2 (0, 0))
  nd : (l.map (·.1)).Nodup
theorem Bx.nil {w W : World} (h : Below w.heap.size w W) : Bx w W [] := ⟨h, by simp, by simp⟩
theorem Bx.get {w W : World} {l : List (Nat × Array Value × TypeId)} (S : Bx w W l) (k : Nat) {g : Nat} {cs : Array Value} {T : TypeId} (h : l[k]? = some (g, cs, T)) : W.heap[g]? = some (.cells cs T (0, 0)) :=
  (S.at_ _ (List.mem_of_getElem? h)).2
theorem Bx.lt {w W : World} {l : List (Nat × Array Value × TypeId)} (S : Bx w W l) {x : Nat × Array Value × TypeId} (h : x ∈ l) : x.1 < W.heap.size := lt_of_block (S.at_ x h).2
theorem Bx.step {w W W' : World} {l : List (Nat × Array Value × TypeId)} (S : Bx w W l) (q : Below W.heap.size W W') : Bx w W' l :=
  ⟨S.bel.trans (q.mono S.bel.size), fun x hx => ⟨(S.at_ x hx).1, (q.block _ (S.lt hx)).trans (S.at_ x hx).2⟩, S.nd⟩
theorem Bx.stepQ {w W W' : World} {l : List (Nat × Array Value × TypeId)} (S : Bx w W l) (q : Qt W W') : Bx w W' l := S.step q.below
/-- Blocks of F turn, which lie elsewhere. -/
theorem Bx.alloc {w W : World} {l : List (Nat × Array Value × TypeId)} (S : Bx w W l) (cs : Array Value) (T : TypeId) : Bx w (W.alloc (.cells cs T)) ((W.heap.size, cs, T) :: l) := by
  have S' := S.step (box_below W (.cells cs T))
  refine ⟨S'.bel, fun x hx => ?_, ?_⟩
  · rcases List.mem_cons.1 hx with rfl | hx
    · exact ⟨S.bel.size, heap_alloc_new W _⟩
    · exact S'.at_ x hx
  · simp only [List.map_cons, List.nodup_cons]
    refine ⟨fun h => ?_, S.nd⟩
    obtain ⟨x, hx, e⟩ := List.mem_map.1 h
    have := S.lt hx
    omega
theorem Bx.set {w W : World} {l : List (Nat × Array Value × TypeId)} (S : Bx w W l) (k j : Nat) (v : Value) {g : Nat} {cs : Array Value} {T : TypeId} (h : l[k]? = some (g, cs, T)) : Bx w (W.setCell ⟨g, j, none⟩ v) (l.set k (g, cs.setIfInBounds j v, T)) := by
  have hg := S.at_ _ (List.mem_of_getElem? h)
  have C : Chg (fun i => i = g) W (W.setCell ⟨g, j, none⟩ v) := (Chg.refl (fun i => i = g) W).setCell (p := ⟨g, j, none⟩) (.inl rfl) _
  obtain ⟨hk, hx⟩ := List.getElem?_eq_some_iff.1 h
  refine ⟨S.bel.trans (C.below S.bel.size fun i hi e => by have := hg.1; simp only at this; omega), ?_, ?_⟩
  · intro x hx'
    obtain ⟨i, hi, rfl⟩ := List.mem_iff_getElem.1 hx'
    rw [List.getElem_set]
    split
    · exact ⟨hg.1, heap_setCell_same W g j _ _ v hg.2⟩
    · rename_i hne
      have hi' : i < l.length := by simpa using hi
      have hm := S.at_ _ (List.getElem_mem hi')
      refine ⟨hm.1, C.blk hm.2 fun e => ?_⟩
      have e1 : (l.map (·.1))[i]'(by simpa using hi') = (l.map (·.1))[k]'(by simpa using hk) := by simp [hx, e]
      have nd := List.pairwise_iff_getElem.1 S.nd
      rcases Nat.lt_trichotomy i k with hl | hl | hl
      · exact nd i k (by simpa using hi') (by simpa using hk) hl e1
      · exact hne hl.symm
      · exact nd k i (by simpa using hk) (by simpa using hi') hl e1.symm
  · have e : (l.set k (g, cs.setIfInBounds j v, T)).map (·.1) = l.map (·.1) := by
      rw [List.map_set]
      apply List.ext_getElem (by simp)
      intro i h1 h2
      rw [List.getElem_set]
      split
      · rename_i hki
        subst hki
        simp [hx]
      · rfl
    rw [e]
    exact S.nd
/-- The first boxes of a call: they lie one behind the other. -/
theorem Bx.two (w : World) (cs ds : Array Value) (T U : TypeId) : Bx w ((w.alloc (.cells cs T)).alloc (.cells ds U)) [(w.heap.size, cs, T), (w.heap.size + 1, ds, U)] := by
  have h := ((Bx.nil (Below.refl w.heap.size w)).alloc cs T).alloc ds U
  have e : (w.alloc (.cells cs T)).heap.size = w.heap.size + 1 := by simp
  rw [e] at h
  exact ⟨h.bel, fun x hx => h.at_ x (by simp at hx ⊢; rcases hx with hx | hx <;> simp [hx]), by simp⟩
theorem Bx.one (w : World) (cs : Array Value) (T : TypeId) : Bx w (w.alloc (.cells cs T)) [(w.heap.size, cs, T)] := (Bx.nil (Below.refl w.heap.size w)).alloc cs T
def putAll (g : Nat) : Nat → List Value → World → World
  | _, [], W => W
  | i, v :: vs, W => putAll g (i + 1) vs (W.setCell ⟨g, i, none⟩ v)
def setAll : Array Value → Nat → List Value → Array Value
  | cs, _, [] => cs
  | cs, i, v :: vs => setAll (cs.setIfInBounds i v) (i + 1) vs
theorem Bx.fill {w W : World} {l : List (Nat × Array Value × TypeId)} (S : Bx w W l) (k i : Nat) (vs : List Value) {g : Nat} {cs : Array Value} {T : TypeId} (h : l[k]? = some (g, cs, T)) : Bx w (putAll g i vs W) (l.set k (g, setAll cs i vs, T)) := by
  induction vs generalizing i W l cs with
  | nil =>
    obtain ⟨hk, hx⟩ := List.getElem?_eq_some_iff.1 h
    have e : l.set k (g, setAll cs i [], T) = l := by rw [show (g, setAll cs i [], T) = l[k] from hx.symm, List.set_getElem_self]
    rw [e]
    exact S
  | cons v vs ih =>
    have h2 := S.set k i v h
    have hk := (List.getElem?_eq_some_iff.1 h).1
    have h3 := ih h2 (i + 1) (by rw [List.getElem?_set_self hk])
    rw [List.set_set] at h3
    exact h3
/-- A struct that is loaded whole, in a region that draws its order. -/
theorem wpQuiet_load_row {P : Program} {ops : Array Oper} {C : World → Prop} {K : Act → Prop} {o : Oper} {rest : List Oper} {a : Act} (hgd : o.guard = none) (ty : TypeId) (x : Operand) (ho : o.op = .load ty x)
    (g : Nat) (hx : a.eval x = .pointer (some ⟨g, 0, none⟩)) (t : TypeId) (cs : Array Value) (fr : Nat × Nat) (d : TypeDesc) (hg : ∀ w, C w → w.heap[g]? = some (.cells cs t fr))
    (hd : (match d with | .struct _ | .array _ _ => true | _ => false) = true) (hu : P.underlying ty = some d) (hi : (P.info? ty).map (·.size) = some cs.size)
    (h : wpQuiet P ops C K rest (a.put o.dst (.agg cs))) : wpQuiet P ops C K (o :: rest) a := by
  unfold wpQuiet
  rw [if_pos (by simp [Region.wanted, hgd])]
  refine ⟨.agg cs, fun w hw => ?_, h⟩
  have e : (execOp a.eval o).run P w = .ok (.value (.agg cs)) w := by
    unfold execOp
    simp only [ho, hx, Instr.loadAt, Instr.sureAddr, Sem.run_bind, Sem.run_pure, Result.andThen_ok, run_loadVar_row w g t ty cs fr d (hg w hw) hu (by cases d <;> simp_all) hi]
  unfold Oper.quietAt
  rw [e]
  exact ⟨rfl, rfl⟩
end Go.Proofs.Ytpkbimmhimgamaa
namespace Go.Proofs.Ytpkbimmhimgamaa
set_option linter.unusedSimpArgs false
set_option linter.unusedVariables false
set_option linter.unnecessarySimpa false
open Go.RowKit
theorem Cfg.Ok.facts {c : Cfg} (h : c.Ok) : decide (c.bits < 1) = false ∧ decide (64 < c.bits) = false ∧ decide (c.ring < 4) = false ∧ decide (256 < c.ring) = false ∧ decide (4611686018427387903 < c.lim) = false ∧ decide (c.room < 1) = false ∧ decide (65536 < c.room) = false ∧ decide (c.mss < 1) = false ∧ decide (1500 < c.mss) = false ∧ decide (c.ini < c.lea) = false ∧ decide (c.mo < c.ini) = false ∧ decide (c.lea < 2 * c.mss) = false ∧ decide (c.mo < c.lea) = false ∧ decide (1073741824 < c.mo) = false ∧ decide (c.fst < 1) = false ∧ decide (1099511627776 < c.fst) = false ∧ decide (c.gr < 1) = false ∧ decide (1099511627776 < c.gr) = false ∧ decide (c.cap < c.gr) = false ∧ decide (1099511627776 < c.cap) = false ∧ decide (c.bur < c.mss) = false ∧ decide (1073741824 < c.bur) = false ∧ decide (c.slo < 1) = false ∧ decide (4294967296 < c.slo) = false ∧ decide (c.chal < 0) = false ∧ decide (64 < c.chal) = false ∧ decide (c.evy < 1) = false ∧ decide (1099511627776 < c.evy) = false := by
  obtain ⟨h1, h2, h3, h4, h5, h6, h7, h8, h9, h10, h11, h12, h13, h14, h15, h16, h17⟩ := h
  simp only [decide_eq_false_iff_not]
  omega
theorem Cfg.Ok.factsR {c : Cfg} (h : c.Ok) : decide (1 ≤ c.bits) = true ∧ decide (c.bits ≤ 64) = true ∧ decide (4 ≤ c.ring) = true ∧ decide (c.ring ≤ 256) = true ∧ decide (c.lim ≤ 4611686018427387903) = true ∧ decide (1 ≤ c.room) = true ∧ decide (c.room ≤ 65536) = true ∧ decide (1 ≤ c.mss) = true ∧ decide (c.mss ≤ 1500) = true ∧ decide (c.lea ≤ c.ini) = true ∧ decide (c.ini ≤ c.mo) = true ∧ decide (2 * c.mss ≤ c.lea) = true ∧ decide (c.lea ≤ c.mo) = true ∧ decide (c.mo ≤ 1073741824) = true ∧ decide (1 ≤ c.fst) = true ∧ decide (c.fst ≤ 1099511627776) = true ∧ decide (1 ≤ c.gr) = true ∧ decide (c.gr ≤ 1099511627776) = true ∧ decide (c.gr ≤ c.cap) = true ∧ decide (c.cap ≤ 1099511627776) = true ∧ decide (c.mss ≤ c.bur) = true ∧ decide (c.bur ≤ 1073741824) = true ∧ decide (1 ≤ c.slo) = true ∧ decide (c.slo ≤ 4294967296) = true ∧ decide (0 ≤ c.chal) = true ∧ decide (c.chal ≤ 64) = true ∧ decide (1 ≤ c.evy) = true ∧ decide (c.evy ≤ 1099511627776) = true := by
  obtain ⟨h1, h2, h3, h4, h5, h6, h7, h8, h9, h10, h11, h12, h13, h14, h15, h16, h17⟩ := h
  simp only [decide_eq_true_eq]
  omega
theorem Cfg.Ok.more {c : Cfg} (h : c.Ok) : (c.one == 1) = false ∧ (c.one != 1) = true ∧ decide (c.one = 1) = false ∧ IntKind.u64.wrap (2 * c.mss) = 2 * c.mss ∧ mulS 2 c.mss = 2 * c.mss ∧ isU64 c.mss := by
  have h1 := h.one.2
  have h2 := h.mss
  refine ⟨by simp [h1], by simp [h1], by simp [h1], IntWalk.u64_in _ (by omega), ?_, ?_⟩
  · unfold mulS
    omega
  · unfold isU64
    omega
set_option maxHeartbeats 4000000 in
set_option maxRecDepth 100000 in
theorem conf_windows (c : Cfg) (w : World) (h : c.Ok) :
    Calls Try.prog 57 #[c.val] w fun e w' => e = .returned (.int .i64 0) ∧ Below w.heap.size w w' := by
  have S := Bx.one w #[.int .i64 c.bits, .int .u64 c.one, .int .i64 c.ring, .int .u64 c.lim, .int .i64 c.room, .int .u64 c.mss, .int .u64 c.ini, .int .u64 c.lea, .int .u64 c.mo, .int .i64 c.algo, .int .u64 c.fst, .int .u64 c.gr, .int .u64 c.cap, .int .u64 c.bur, .int .u64 c.slo, .int .i64 c.chal, .int .u64 c.evy] 24
  have f := h.facts
  have m := h.more
  unfold Cfg.val
  rcases h.algo with ha | ha
  · have f1 : (c.algo != 1) = false := by simp [ha]
    have f2 : (c.algo == 1) = true := by simp [ha]
    clear h ha
    go_enter Try.func57, Try.ntmps57
    go_upto_region 1 with fail
    generalize w.alloc (.cells #[.int .i64 c.bits, .int .u64 c.one, .int .i64 c.ring, .int .u64 c.lim, .int .i64 c.room, .int .u64 c.mss, .int .u64 c.ini, .int .u64 c.lea, .int .u64 c.mo, .int .i64 c.algo, .int .u64 c.fst, .int .u64 c.gr, .int .u64 c.cap, .int .u64 c.bur, .int .u64 c.slo, .int .i64 c.chal, .int .u64 c.evy] 24) = w0 at *
    have a := cells_of (S.get 0 rfl)
    go_wp2
    go_ret
    exact ⟨rfl, S.bel⟩
  · have f1 : (c.algo != 1) = true := by simp [ha]
    have f2 : (c.algo != 2) = false := by simp [ha]
    have f3 : (c.algo == 1) = false := by simp [ha]
    have f4 : (c.algo == 2) = true := by simp [ha]
    clear h ha
    go_enter Try.func57, Try.ntmps57
    go_upto_region 1 with fail
    generalize w.alloc (.cells #[.int .i64 c.bits, .int .u64 c.one, .int .i64 c.ring, .int .u64 c.lim, .int .i64 c.room, .int .u64 c.mss, .int .u64 c.ini, .int .u64 c.lea, .int .u64 c.mo, .int .i64 c.algo, .int .u64 c.fst, .int .u64 c.gr, .int .u64 c.cap, .int .u64 c.bur, .int .u64 c.slo, .int .i64 c.chal, .int .u64 c.evy] 24) = w0 at *
    have a := cells_of (S.get 0 rfl)
    go_wp2
    go_ret
    exact ⟨rfl, S.bel⟩
set_option maxHeartbeats 4000000 in
set_option maxRecDepth 100000 in
theorem conf_check (c : Cfg) (w : World) (h : c.Ok) :
    Calls Try.prog 33 #[c.val] w fun e w' => e = .returned (.int .i64 0) ∧ Below w.heap.size w w' := by
  have S := Bx.one w #[.int .i64 c.bits, .int .u64 c.one, .int .i64 c.ring, .int .u64 c.lim, .int .i64 c.room, .int .u64 c.mss, .int .u64 c.ini, .int .u64 c.lea, .int .u64 c.mo, .int .i64 c.algo, .int .u64 c.fst, .int .u64 c.gr, .int .u64 c.cap, .int .u64 c.bur, .int .u64 c.slo, .int .i64 c.chal, .int .u64 c.evy] 24
  have f := h.facts
  have m := h.more
  have K := Lib.hid (fun w => conf_windows c w h)
  unfold Cfg.val at *
  clear h
  go_enter Try.func33, Try.ntmps33
  go_upto_region 1 with fail
  generalize w.alloc (.cells #[.int .i64 c.bits, .int .u64 c.one, .int .i64 c.ring, .int .u64 c.lim, .int .i64 c.room, .int .u64 c.mss, .int .u64 c.ini, .int .u64 c.lea, .int .u64 c.mo, .int .i64 c.algo, .int .u64 c.fst, .int .u64 c.gr, .int .u64 c.cap, .int .u64 c.bur, .int .u64 c.slo, .int .i64 c.chal, .int .u64 c.evy] 24) = w0 at *
  have a := cells_of (S.get 0 rfl)
  go_wp2_with fail
  refine (K.out _).mono ?_
  rintro e w1 ⟨rfl, q⟩
  replace S := S.step q
  clear q a
  have a := cells_of (S.get 0 rfl)
  go_wp2
  go_ret
  exact ⟨rfl, S.bel⟩
set_option maxHeartbeats 4000000 in
set_option maxRecDepth 100000 in
theorem conf_may (c : Cfg) (w : World) (h : c.Ok) :
    Calls Try.prog 9 #[c.val] w fun e w' => e = .returned (.bool true) ∧ Below w.heap.size w w' := by
  have S := Bx.one w #[.int .i64 c.bits, .int .u64 c.one, .int .i64 c.ring, .int .u64 c.lim, .int .i64 c.room, .int .u64 c.mss, .int .u64 c.ini, .int .u64 c.lea, .int .u64 c.mo, .int .i64 c.algo, .int .u64 c.fst, .int .u64 c.gr, .int .u64 c.cap, .int .u64 c.bur, .int .u64 c.slo, .int .i64 c.chal, .int .u64 c.evy] 24
  have K := Lib.hid (fun w => conf_check c w h)
  unfold Cfg.val at *
  clear h
  go_enter Try.func9, Try.ntmps9
  go_upto_region 1 with fail
  generalize w.alloc (.cells #[.int .i64 c.bits, .int .u64 c.one, .int .i64 c.ring, .int .u64 c.lim, .int .i64 c.room, .int .u64 c.mss, .int .u64 c.ini, .int .u64 c.lea, .int .u64 c.mo, .int .i64 c.algo, .int .u64 c.fst, .int .u64 c.gr, .int .u64 c.cap, .int .u64 c.bur, .int .u64 c.slo, .int .i64 c.chal, .int .u64 c.evy] 24) = w0 at *
  have a := cells_of (S.get 0 rfl)
  go_wp2_with fail
  refine (K.out _).mono ?_
  rintro e w1 ⟨rfl, q⟩
  replace S := S.step q
  clear q a
  have a := cells_of (S.get 0 rfl)
  go_wp2
  go_ret
  exact ⟨rfl, S.bel⟩
end Go.Proofs.Ytpkbimmhimgamaa
namespace Go.Proofs.Ytpkbimmhimgamaa
set_option linter.unusedSimpArgs false
set_option linter.unusedVariables false
set_option linter.unnecessarySimpa false
open Go.RowKit
attribute [local go_sem ↓] run_min_int run_max_int
theorem is2 : isU64 (2 : Int) := ⟨by omega, by omega⟩
def Wn.row (s : Wn) : Array Value := #[.int .u64 s.cw, .int .u64 s.th, .int .u64 s.ac, .int .u64 s.pk, .int .u64 s.ep, .int .u64 s.kk, .int .u64 s.fr]
end Go.Proofs.Ytpkbimmhimgamaa
namespace Go.Proofs.Ytpkbimmhimgamaa
set_option linter.unusedSimpArgs false
set_option linter.unusedVariables false
set_option linter.unnecessarySimpa false
open Go.RowKit
attribute [local go_sem ↓] run_min_int run_max_int
theorem infoCfg : (Try.prog.info? 24).map (·.size) = some 17 := by kernel_rfl
theorem Cfg.open_ (c : Cfg) : ∃ C : Array Value, c.val = .agg C ∧ (Try.prog.info? 24).map (·.size) = some C.size ∧ C[5]? = some (.int .u64 c.mss) ∧ C[6]? = some (.int .u64 c.ini) ∧ C[7]? = some (.int .u64 c.lea) ∧ C[8]? = some (.int .u64 c.mo) ∧ C[9]? = some (.int .i64 c.algo) :=
  ⟨_, rfl, infoCfg, rfl, rfl, rfl, rfl, rfl⟩
theorem infoCc : (Try.prog.info? 53).map (·.size) = some 9 := by kernel_rfl
/-- A control's numbers as a value. -/
def ccv (s : Wn) (re rc : Int) : Value := .agg #[.int .u64 s.cw, .int .u64 s.th, .int .u64 s.ac, .int .u64 s.pk, .int .u64 s.ep, .int .u64 s.kk, .int .u64 s.fr, .int .u64 re, .int .u64 rc]
theorem Cfg.Ok.u {c : Cfg} (h : c.Ok) : isU64 c.one ∧ isU64 c.lim ∧ isU64 c.mss ∧ isU64 c.ini ∧ isU64 c.lea ∧ isU64 c.mo ∧ isU64 c.fst ∧ isU64 c.gr ∧ isU64 c.cap ∧ isU64 c.bur ∧ isU64 c.slo ∧ isU64 c.evy := by
  obtain ⟨h1, h2, h3, h4, h5, h6, h7, h8, h9, h10, h11, h12, h13, h14, h15, h16, h17⟩ := h
  unfold isU64 at *
  omega
theorem max_u {x y : Int} (hx : isU64 x) (hy : isU64 y) : isU64 (max x y) := by
  unfold isU64 at *
  omega
end Go.Proofs.Ytpkbimmhimgamaa

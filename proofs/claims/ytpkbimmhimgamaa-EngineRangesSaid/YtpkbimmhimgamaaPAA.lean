/-
  Part of the proof of EngineRanges.
-/
import Derived.WalkKit
import Derived.WalkSpells
import Derived.Lib.Hide
import Derived.Maps.AppendAt
import Derived.Deep.AppendLies
import Derived.Deep.Draws
import Derived.Deep.OwnRows
import Derived.Deep.QuietTactic
import Derived.BigQuiet
import Derived.StillTail
import Derived.RegionTactic
import Derived.WalkLawsBesides
import Derived.Test.YtpkbimmhimgamaaRows
namespace Go.Proofs.Ytpkbimmhimgamaa
set_option linter.unusedSimpArgs false
set_option linter.unusedVariables false
set_option linter.unnecessarySimpa false
open Go.RowKit
/-- The slice value '.slice A n c' holds the cells xs ('size' cells an element). -/
structure Rd (w : World) (size : Nat) (A : Option Addr) (n c : Nat) (xs : List Value) : Prop where
  len : xs.length = n * size
  cap : n ≤ c
  max : c ≤ maxLen
  on_ : 0 < n → ∃ b off, A = some ⟨b, off, none⟩ ∧ ∀ j u, xs[j]? = some u → w.cell? ⟨b, off + j, none⟩ = some u

theorem Rd.nil_ (w : World) (size : Nat) : Rd w size none 0 0 [] := ⟨by simp, Nat.le_refl _, by unfold maxLen; omega, fun h => absurd h (by omega)⟩

theorem Rd.keep {w w' : World} {size : Nat} {A : Option Addr} {n c : Nat} {xs : List Value} (h : Rd w size A n c xs)
    (hk : ∀ p : Addr, p.block < w.heap.size → w'.cell? p = w.cell? p) : Rd w' size A n c xs :=
  ⟨h.len, h.cap, h.max, fun hn => by
    obtain ⟨b, off, e, hc⟩ := h.on_ hn
    exact ⟨b, off, e, fun j u hu => (hk _ (block_lt_of_cell (hc j u hu))).trans (hc j u hu)⟩⟩

theorem Rd.below {w w' : World} {size : Nat} {A : Option Addr} {n c : Nat} {xs : List Value} (h : Rd w size A n c xs) (hb : Below w.heap.size w w') : Rd w' size A n c xs :=
  h.keep fun _ hp => hb.cell hp

theorem Rd.grown {w w' : World} {size : Nat} {A : Option Addr} {n c : Nat} {xs : List Value} (h : Rd w size A n c xs) {row : Option Nat} (hg : w.grownBy w' row)
    (hr : ∀ b off, A = some ⟨b, off, none⟩ → 0 < n → row ≠ some b) : Rd w' size A n c xs :=
  ⟨h.len, h.cap, h.max, fun hn => by
    obtain ⟨b, off, e, hc⟩ := h.on_ hn
    exact ⟨b, off, e, fun j u hu => hg.cell (hc j u hu) (fun e' => hr b off e hn e'.symm)⟩⟩

theorem Rd.at_ {w : World} {A : Option Addr} {n c : Nat} {xs : List Value} {k : Nat} (h : Rd w 1 A n c xs) (hk : k < n) :
    ∃ b off u, A = some ⟨b, off, none⟩ ∧ xs[k]? = some u ∧ w.cell? ⟨b, off + k, none⟩ = some u := by
  obtain ⟨b, off, e, hc⟩ := h.on_ (by omega)
  have hl : k < xs.length := by have := h.len; omega
  exact ⟨b, off, xs[k], e, List.getElem?_eq_getElem hl, hc k _ (List.getElem?_eq_getElem hl)⟩

theorem Rd.lt {w : World} {A : Option Addr} {size n c : Nat} {xs : List Value} (h : Rd w size A n c xs) (hs : 0 < size) (hn : 0 < n) : ∀ b off, A = some ⟨b, off, none⟩ → b < w.heap.size := by
  intro b off e
  obtain ⟨b', off', e', hc⟩ := h.on_ hn
  have he : (⟨b, off, none⟩ : Addr) = ⟨b', off', none⟩ := by rw [e] at e'; exact Option.some.inj e'
  injection he with h1 h2
  subst h1
  have hl : 0 < xs.length := by rw [h.len]; exact Nat.mul_pos hn hs
  exact block_lt_of_cell (hc 0 _ (List.getElem?_eq_getElem hl))

theorem Rd.of_own {w : World} {base : Nat} {e : TypeId} {size n c : Nat} {A : Option Addr} {xs : List Value} (h : w.ownsRow base e size (.slice A n c) n xs) : Rd w size A n c xs := by
  refine ⟨h.1, ?_, ?_, fun hn => ?_⟩
  · rcases h.2 with ⟨e1, e2⟩ | ⟨g, cap, cur, hv, _, _, h1, _⟩
    · injection e1 with _ _ e3; omega
    · injection hv with _ _ e3; omega
  · rcases h.2 with ⟨e1, e2⟩ | ⟨g, cap, cur, hv, _, _, _, h1, _⟩
    · injection e1 with _ _ e3; unfold maxLen; omega
    · injection hv with _ _ e3; omega
  · rcases h.2 with ⟨_, e2⟩ | ⟨g, cap, cur, hv, _, hh, _, _, _, _⟩
    · omega
    · have hv' := hv
      injection hv with e1 e2 e3
      subst e1
      refine ⟨g, 0, rfl, fun j u hu => ?_⟩
      rw [← h.cells (g := g) rfl j u hu]
      congr 1
      unfold Addr.add
      split <;> simp_all

/-! Lists of one kind of integers, of bools. -/
def Us (l : List Int) : List Value := l.map (Value.int .u64)
def Bs (l : List Bool) : List Value := l.map Value.bool
@[simp] theorem Us_length (l : List Int) : (Us l).length = l.length := by simp [Us]
@[simp] theorem Bs_length (l : List Bool) : (Bs l).length = l.length := by simp [Bs]
theorem Us_get (l : List Int) (k : Nat) (h : k < l.length) : (Us l)[k]? = some (.int .u64 (l.getD k 0)) := by simp [Us, h]
theorem Bs_get (l : List Bool) (k : Nat) (h : k < l.length) : (Bs l)[k]? = some (.bool (l.getD k false)) := by simp [Bs, h]
theorem Rd.u64 {w : World} {A : Option Addr} {n c : Nat} {l : List Int} {k : Nat} (h : Rd w 1 A n c (Us l)) (hk : k < n) :
    ∃ b off, A = some ⟨b, off, none⟩ ∧ w.cell? ⟨b, off + k, none⟩ = some (.int .u64 (l.getD k 0)) := by
  obtain ⟨b, off, u, e, hx, hc⟩ := h.at_ hk
  have hl : k < l.length := by have := h.len; simp at this; omega
  rw [Us_get l k hl] at hx
  exact ⟨b, off, e, by rw [hc, hx]⟩
theorem Rd.bool {w : World} {A : Option Addr} {n c : Nat} {l : List Bool} {k : Nat} (h : Rd w 1 A n c (Bs l)) (hk : k < n) :
    ∃ b off, A = some ⟨b, off, none⟩ ∧ w.cell? ⟨b, off + k, none⟩ = some (.bool (l.getD k false)) := by
  obtain ⟨b, off, u, e, hx, hc⟩ := h.at_ hk
  have hl : k < l.length := by have := h.len; simp at this; omega
  rw [Bs_get l k hl] at hx
  exact ⟨b, off, e, by rw [hc, hx]⟩

def isU64 (x : Int) : Prop := 0 ≤ x ∧ x < 18446744073709551616

/-- The exclusive or, as the model has it. -/
def xor64 (a b : Int) : Int := bits .xor .u64 a b

theorem ret_int {k : IntKind} {a b : Int} (h : a = b) : Ending.returned (.int k a) = .returned (.int k b) := by rw [h]
theorem ret_bool {a b : Bool} (h : a = b) : Ending.returned (.bool a) = .returned (.bool b) := by rw [h]


theorem Rd.drewN {w : World} {size : Nat} {A : Option Addr} {n c : Nat} {xs : List Value} (h : Rd w size A n c xs) (q : Nat) : Rd (w.drewN q) size A n c xs := ⟨h.len, h.cap, h.max, h.on_⟩
theorem below_drewN {B : Nat} {a w : World} (h : Below B a w) (n : Nat) : Below B a (w.drewN n) := ⟨h.os, h.tape, h.output, h.size, h.block⟩
/-- Nothing but draws. -/
def Qt (w w' : World) : Prop := ∃ n, w' = w.drewN n
theorem Qt.refl (w : World) : Qt w w := ⟨0, rfl⟩
theorem Qt.drewN {w w' : World} (h : Qt w w') (n : Nat) : Qt w (w'.drewN n) := by
  obtain ⟨q, rfl⟩ := h
  exact ⟨q + n, World.drewN_drewN _ _ _⟩
theorem Qt.trans {w w' w'' : World} (h : Qt w w') (k : Qt w' w'') : Qt w w'' := by
  obtain ⟨q, rfl⟩ := k
  exact h.drewN q
theorem Qt.below {B : Nat} {w w' : World} (h : Qt w w') : Below B w w' := by
  obtain ⟨n, rfl⟩ := h
  exact below_drewN (Below.refl _ _) n
theorem Rd.qt {w w' : World} {size : Nat} {A : Option Addr} {n c : Nat} {xs : List Value} (h : Rd w size A n c xs) (hq : Qt w w') : Rd w' size A n c xs := h.below hq.below
/-- For a call inside a region that only reads. -/
theorem Qt.call {P : Program} {f : FuncId} {args : Array Value} {w : World} {v : Value} (h : Calls P f args w fun e w' => e = .returned v ∧ Qt w w') :
    Calls P f args w fun e w' => e = .returned v ∧ ∃ m, w' = w.drewN m := h

theorem Rd.lit (w : World) (size : Nat) (cs : Array Value) (t : TypeId) (n : Nat) (xs : List Value) (hx : cs.toList = xs) (hs : xs.length = n * size) (hn : n ≤ maxLen) :
    Rd (w.alloc (.cells cs t)) size (some ⟨w.heap.size, 0, none⟩) n n xs := by
  subst hx
  refine ⟨hs, Nat.le_refl _, hn, fun _ => ⟨_, _, rfl, fun j u hu => ?_⟩⟩
  rw [cell_of_row _ w.heap.size (0 + j) cs t (0, 0) (heap_alloc_new w _)]
  simpa using hu

/-! append onto a row of the call's own, from a slice that reads as a list (nil, empty or not). -/
section
variable {P : Program} (w : World)
theorem run_append_none (base : Nat) (t ty e : TypeId) (i : TypeInfo) (size : Nat) (ht : P.underlying t = some (.slice e)) (hi : P.info? e = some i)
    (v : Value) (n : Nat) (xs : List Value) (hown : w.ownsRow base e size v n xs) (c : Nat) : (Builtin.append_ #[t, t] ty #[v, .slice none 0 c]).run P w = .ok v w := by
  rcases hown.2 with ⟨rfl, rfl⟩ | ⟨g, cap, cur, rfl, _, _, hnc, _⟩
  · simp [Builtin.append_, run_underlying ht, sizeOf, typeInfo, hi, Builtin.lenOf, Builtin.firstCells]
  · simp [Builtin.append_, run_underlying ht, sizeOf, typeInfo, hi, Builtin.lenOf, Builtin.firstCells, hnc, storeCells]

theorem run_append_rd (base : Nat) (t ty e : TypeId) (i : TypeInfo) (z : Value) (size bytes : Nat) (ht : P.underlying t = some (.slice e)) (hi : P.info? e = some i) (hz : i.zero = some z)
    (hsize : i.size = size) (hby : i.bytes = bytes) (hzs : z.cells.size = size) (hsz : 0 < size)
    (v : Value) (n : Nat) (xs : List Value) (hown : w.ownsRow base e size v n xs)
    (A : Option Addr) (m c : Nat) (news : List Value) (hr : Rd w size A m c news) (h1 : ∀ u ∈ news, u.oneCell' = true)
    (h63 : n + m ≤ maxLen) (hbytes : (n + m) * bytes ≤ 140737488355328) (hbase : base ≤ w.heap.size) :
    ∃ v' w', (Builtin.append_ #[t, t] ty #[v, .slice A m c]).run P w = .ok v' w' ∧ w'.ownsRow base e size v' (n + m) (xs ++ news) ∧ w.grownBy w' v.ownBlock ∧
      (v'.ownBlock = v.ownBlock ∨ v'.ownBlock = some w.heap.size) := by
  rcases A with _ | ad
  · have hm : m = 0 := by
      rcases Nat.eq_zero_or_pos m with h0 | h0
      · exact h0
      · obtain ⟨b, off, h, _⟩ := hr.on_ h0
        cases h
    subst hm
    have hn : news = [] := List.eq_nil_of_length_eq_zero (by simpa using hr.len)
    subst hn
    exact ⟨v, w, run_append_none w base t ty e i size ht hi v n xs hown c, by simpa using hown, World.grownBy.refl w _, .inl rfl⟩
  · have hcells : ∀ j u, news[j]? = some u → w.cell? (ad.add j) = some u := by
      intro j u hu
      rcases Nat.eq_zero_or_pos m with h0 | h0
      · subst h0
        have hn : news = [] := List.eq_nil_of_length_eq_zero (by simpa using hr.len)
        subst hn
        simp at hu
      · obtain ⟨b, off, h, hc⟩ := hr.on_ h0
        injection h with h
        subst h
        rw [← hc j u hu]
        congr 1
        unfold Addr.add
        split <;> simp_all
    obtain ⟨v', w', hrun, h2, h3, _, h5⟩ := run_append_own_at (P := P) w base t ty e i z size bytes ht hi hz hsize hby hzs hsz v n xs hown ad m c news hr.len hcells h1 h63 hbytes hbase
    exact ⟨v', w', hrun, h2, h3, h5⟩

theorem wpList_append_rd {ops : Array Oper} {rest : List Oper} {o : Oper} {a : Act} {Q : Exit → Act → World → Prop} (hgd : o.guard = none) (s x : Operand) (t : TypeId)
    (ho : o.op = .call { callee := .builtin .append, args := #[s, x], argTypes := #[t, t] })
    (base : Nat) (e : TypeId) (i : TypeInfo) (z : Value) (size bytes : Nat) (ht : P.underlying t = some (.slice e)) (hi : P.info? e = some i) (hz : i.zero = some z)
    (hsize : i.size = size) (hby : i.bytes = bytes) (hzs : z.cells.size = size) (hsz : 0 < size)
    (v : Value) (n : Nat) (xs : List Value) (hs : a.eval s = v) (hown : w.ownsRow base e size v n xs)
    (A : Option Addr) (m c : Nat) (news : List Value) (hx : a.eval x = .slice A m c) (hr : Rd w size A m c news) (h1 : ∀ u ∈ news, u.oneCell' = true)
    (h63 : n + m ≤ maxLen) (hbytes : (n + m) * bytes ≤ 140737488355328) (hbase : base ≤ w.heap.size)
    (h : ∀ v' w', w'.ownsRow base e size v' (n + m) (xs ++ news) → w.grownBy w' v.ownBlock → (v'.ownBlock = v.ownBlock ∨ v'.ownBlock = some w.heap.size) → wpList P ops Q rest (a.put o.dst v') w') : wpList P ops Q (o :: rest) a w := by
  refine wpList_plain hgd fun K hK => ?_
  obtain ⟨v', w', hrun, h2, h3, h4⟩ := run_append_rd (P := P) w base t o.type e i z size bytes ht hi hz hsize hby hzs hsz v n xs hown A m c news hr h1 h63 hbytes hbase
  unfold Oper.wp execOp
  simp only [ho, resolve, invoke, builtin, Sem.run_bind, Sem.run_pure, Result.andThen_ok, List.map_toArray, List.map_cons, List.map_nil, hs, hx, hrun]
  exact hK _ _ (h v' w' h2 h3 h4)
end
theorem Us_one (l : List Int) : ∀ u ∈ Us l, u.oneCell' = true := by
  intro u hu
  obtain ⟨x, _, rfl⟩ := List.mem_map.1 hu
  rfl

/-- An owned value that is not empty has an address. -/
theorem own_slice {w : World} {base : Nat} {e : TypeId} {size n : Nat} {v : Value} {xs : List Value} (h : w.ownsRow base e size v n xs) : ∃ A c, v = .slice A n c ∧ (0 < n → ∃ g, A = some ⟨g, 0, none⟩ ∧ base ≤ g) := by
  rcases h.2 with ⟨rfl, rfl⟩ | ⟨g, cap, cur, rfl, hb, _⟩
  · exact ⟨none, 0, rfl, fun h => absurd h (by omega)⟩
  · exact ⟨_, _, rfl, fun _ => ⟨g, rfl, hb⟩⟩

/-! A region that draws its order, whose callees may make memory of their own: ONE walk in the order of the text. -/
/-- The world w with the blocks of u behind its own. -/
def mix (w u : World) : World := { heap := w.heap ++ u.heap, tape := w.tape, drawn := u.drawn, os := w.os, output := w.output }
theorem mix_below (w u : World) : Below w.heap.size w (mix w u) :=
  ⟨rfl, rfl, rfl, by simp [mix], fun k hk => by simp [mix, Array.getElem?_append_left hk]⟩
theorem below_mix {w w' : World} (h : Below w.heap.size w w') : ∃ u, w' = mix w u := by
  refine ⟨{ w' with heap := w'.heap.extract w.heap.size w'.heap.size }, ?_⟩
  have e : w'.heap = w.heap ++ w'.heap.extract w.heap.size w'.heap.size := by
    apply Array.ext_getElem?
    intro i
    rcases Nat.lt_or_ge i w.heap.size with hi | hi
    · rw [Array.getElem?_append_left hi, h.block i hi]
    · rw [Array.getElem?_append_right hi, Array.getElem?_extract]
      have hs := h.size
      rcases Nat.lt_or_ge i w'.heap.size with hj | hj
      · rw [if_pos (by omega), show w.heap.size + (i - w.heap.size) = i by omega]
      · rw [if_neg (by omega), Array.getElem?_eq_none (by omega)]
  cases w' with
  | mk heap tape drawn os output =>
    have h1 := h.tape
    have h2 := h.os
    have h3 := h.output
    simp only at e h1 h2 h3
    simp only [mix, World.mk.injEq]
    exact ⟨e, h1, trivial, h2, h3⟩
theorem mixc {w : World} {a : Addr} {v : Value} (h : w.cell? a = some v) : ∀ u, (mix w u).cell? a = some v := fun u => by
  rw [(mix_below w u).cell (block_lt_of_cell h)]; exact h
theorem Rd.mix {w : World} {size : Nat} {A : Option Addr} {n c : Nat} {xs : List Value} (h : Rd w size A n c xs) (u : World) : Rd (mix w u) size A n c xs := h.below (mix_below w u)
theorem Calls.mix_of {P : Program} {f : FuncId} {args : Array Value} {w u : World} {v : Value}
    (h : Calls P f args (mix w u) fun e w' => e = .returned v ∧ Below (mix w u).heap.size (mix w u) w') : Calls P f args (mix w u) fun e w'' => e = .returned v ∧ ∃ u', w'' = mix w u' :=
  h.mono fun _ _ ⟨he, hb⟩ => ⟨he, below_mix ((mix_below w u).trans (hb.mono (by simp [mix])))⟩
theorem Calls.mix_qt {P : Program} {f : FuncId} {args : Array Value} {w u : World} {v : Value}
    (h : Calls P f args (mix w u) fun e w' => e = .returned v ∧ Qt (mix w u) w') : Calls P f args (mix w u) fun e w'' => e = .returned v ∧ ∃ u', w'' = mix w u' :=
  Calls.mix_of (h.mono fun _ _ ⟨he, hq⟩ => ⟨he, hq.below⟩)
theorem wp_region_below {P : Program} {id : Nat} {Q : Exit → Act → World → Prop} {a : Act} {w : World} {l : List Oper} (hm : P.follows .mixedOrders = true) (hB : Region.lexB .any l.toArray = true)
    (h : wpQuiet P l.toArray (fun w' => ∃ u, w' = mix w u) (fun a' => ∀ w', Below w.heap.size w w' → Q .normal a' w') l a) : (Code.region id l.toArray true).wp P Q a w := by
  refine wp_region_quiet (C := fun w' => ∃ u, w' = mix w u) hm hB ?_ ?_
  · exact below_mix (Below.refl _ w).drew
  · have e : (fun a' : Act => ∀ w', (∃ u, w' = mix w u) → Q .normal a' w') = (fun a' : Act => ∀ w', Below w.heap.size w w' → Q .normal a' w') := by
      funext a'
      apply propext
      constructor
      · exact fun h w' hb => h w' (below_mix hb)
      · rintro h w' ⟨u, rfl⟩
        exact h _ (mix_below w u)
    rw [e]
    simpa using h

theorem add_addr (b off i : Nat) : (⟨b, off, none⟩ : Addr).add i = ⟨b, off + i, none⟩ := by
  unfold Addr.add; split <;> simp_all

/-- 's[k:]', in the model's own spelling. -/
theorem Rd.cut {w : World} {size : Nat} {A : Option Addr} {n c : Nat} {xs : List Value} {k : Nat} (h : Rd w size A n c xs) (hk : k ≤ n) :
    Rd w size (if c = k then A else A.map (·.add (k * size))) (n - k) (c - k) (xs.drop (k * size)) := by
  refine ⟨by rw [List.length_drop, h.len, Nat.sub_mul], by have := h.cap; omega, by have := h.max; omega, fun hn => ?_⟩
  obtain ⟨b, off, rfl, hc⟩ := h.on_ (by omega)
  have := h.cap
  rw [if_neg (by omega)]
  refine ⟨b, off + k * size, by simp [add_addr], fun j u hu => ?_⟩
  rw [List.getElem?_drop] at hu
  rw [Nat.add_assoc]
  exact hc _ u hu

/-! min, max of integers, not parted. -/
section
variable {P : Program} (w : World) (ts : Array TypeId) (ty : TypeId) (k : IntKind)
theorem run_min_int (a b : Int) : (Builtin.min_ ts ty #[.int k a, .int k b]).run P w = .ok (.int k (min a b)) w := by
  have e : (if b < a then b else a) = min a b := by split <;> omega
  simp [Builtin.min_, Builtin.min2, e]
theorem run_max_int (a b : Int) : (Builtin.max_ ts ty #[.int k a, .int k b]).run P w = .ok (.int k (max a b)) w := by
  have e : (if a < b then b else a) = max a b := by split <;> omega
  simp [Builtin.max_, Builtin.max2, e]
end
theorem Qt.heap {w w' : World} (h : Qt w w') : w'.heap = w.heap := by
  obtain ⟨n, rfl⟩ := h
  rfl
theorem Qt.own {w w' : World} (h : Qt w w') {base : Nat} {e : TypeId} {size n : Nat} {v : Value} {xs : List Value} (ho : w.ownsRow base e size v n xs) : w'.ownsRow base e size v n xs := by
  obtain ⟨q, rfl⟩ := h
  exact ho
theorem Qt.cell {w w' : World} (h : Qt w w') {a : Addr} {v : Value} (hc : w.cell? a = some v) : w'.cell? a = some v := by
  obtain ⟨q, rfl⟩ := h
  exact hc
theorem Qt.blk {w w' : World} (h : Qt w w') {g : Nat} {o : Obj} (hc : w.heap[g]? = some o) : w'.heap[g]? = some o := by
  rw [h.heap]; exact hc
theorem wp_region_qt {P : Program} {id : Nat} {Q : Exit → Act → World → Prop} {a : Act} {w : World} {l : List Oper} (hm : P.follows .mixedOrders = true) (hB : Region.lexB .any l.toArray = true)
    (h : wpQuiet P l.toArray (fun w' => ∃ n, w' = w.drewN n) (fun a' => ∀ w', Qt w w' → Q .normal a' w') l a) : (Code.region id l.toArray true).wp P Q a w :=
  wp_region_quiet_lit hm hB h
/-- 's[k:]': one run, whatever the capacity is; and what it reads as. -/
theorem cut_run {P : Program} {t : TypeId} {i : TypeInfo} {size : Nat} (ht : P.underlying t = some (.slice (P.elem t))) (hi : P.info? (P.elem t) = some i) (hsz : i.size = size) (A : Option Addr) (n c k : Nat) (hk : k ≤ n) :
    ∃ A', (∀ (kl : IntKind) (w : World), (Instr.slice t (.slice A n c) (some (.int kl (k : Int))) none none).run P w = .ok (.slice A' (n - k) (c - k)) w) ∧
      (∀ w xs, Rd w size A n c xs → Rd w size A' (n - k) (c - k) (xs.drop (k * size))) := by
  refine ⟨_, fun kl w => ?_, fun w xs h => h.cut hk⟩
  rw [run_slice_l w t A n c ht kl (k : Int) (by omega) (by omega)]
  simp [sizeOf, typeInfo, hi, hsz, sliced]

theorem Rd.cut_run {P : Program} {t : TypeId} {i : TypeInfo} {size : Nat} {w0 : World} {A : Option Addr} {n c k : Nat} {xs0 : List Value} (h : Rd w0 size A n c xs0) (ht : P.underlying t = some (.slice (P.elem t))) (hi : P.info? (P.elem t) = some i) (hsz : i.size = size) (hk : k ≤ n) :
    ∃ A', (∀ (kl : IntKind) (w : World), (Instr.slice t (.slice A n c) (some (.int kl (k : Int))) none none).run P w = .ok (.slice A' (n - k) (c - k)) w) ∧
      (∀ w xs, Rd w size A n c xs → Rd w size A' (n - k) (c - k) (xs.drop (k * size))) := Go.Proofs.Ytpkbimmhimgamaa.cut_run ht hi hsz A n c k hk

/-- 'out = append(out, x)' where x has just been laid in a block of its own. -/
theorem wpList_app1 {P : Program} (W : World) {ops : Array Oper} {rest : List Oper} {o : Oper} {a : Act} {Q : Exit → Act → World → Prop} (hgd : o.guard = none) (s x : Operand) (t : TypeId)
    (ho : o.op = .call { callee := .builtin .append, args := #[s, x], argTypes := #[t, t] })
    (base : Nat) (e : TypeId) (i : TypeInfo) (z : Value) (size bytes : Nat) (ht : P.underlying t = some (.slice e)) (hi : P.info? e = some i) (hz : i.zero = some z)
    (hsize : i.size = size) (hby : i.bytes = bytes) (hzs : z.cells.size = size) (hsz : 0 < size)
    (v : Value) (n : Nat) (xs : List Value) (hs : a.eval s = v) (hown : W.ownsRow base e size v n xs)
    (cs : Array Value) (g : Nat) (hx : a.eval x = .slice (some ⟨g, 0, none⟩) 1 1) (hg : g = W.heap.size) (hcs : cs.size = size) (h1 : ∀ u ∈ cs.toList, u.oneCell' = true)
    (h63 : n + 1 ≤ maxLen) (hbytes : (n + 1) * bytes ≤ 140737488355328) (hbase : base ≤ W.heap.size)
    (h : ∀ v' w', w'.ownsRow base e size v' (n + 1) (xs ++ cs.toList) → W.grownBy w' v.ownBlock → (∀ k, k < W.heap.size → v.ownBlock ≠ some k → v'.ownBlock ≠ some k) → wpList P ops Q rest (a.put o.dst v') w') : wpList P ops Q (o :: rest) a (W.alloc (.cells cs e)) := by
  subst hg
  refine wpList_append_rd _ hgd s x t ho base e i z size bytes ht hi hz hsize hby hzs hsz v n xs hs (hown.alloc _) (some ⟨W.heap.size, 0, none⟩) 1 1 cs.toList hx
    (Rd.lit W size cs e 1 cs.toList rfl (by simpa using hcs) (by unfold maxLen; omega)) h1 h63 hbytes (by simp; omega) ?_
  intro v' w' h2 h3 h4
  refine h v' w' h2 ⟨h3.os, h3.tape, h3.output, Nat.le_trans (by simp) h3.size, fun k hk hne => ?_⟩ (fun k hk hne => ?_)
  · exact (h3.block k (by simp; omega) hne).trans (Below.heap_alloc _ _ _ hk)
  · rcases h4 with e | e
    · rw [e]; exact hne
    · rw [e]
      intro e'
      injection e' with e'
      simp at e'
      omega

/-- The same inside a region that draws its order. -/
theorem step_append_rd {P : Program} (w : World) {ops : Array Oper} {o : Oper} {a : Act} {K : Act → World → Prop} {Q : Exit → Act → World → Prop} {E : Prop} (hgd : o.guard = none) (s x : Operand) (t : TypeId)
    (ho : o.op = .call { callee := .builtin .append, args := #[s, x], argTypes := #[t, t] })
    (base : Nat) (e : TypeId) (i : TypeInfo) (z : Value) (size bytes : Nat) (ht : P.underlying t = some (.slice e)) (hi : P.info? e = some i) (hz : i.zero = some z)
    (hsize : i.size = size) (hby : i.bytes = bytes) (hzs : z.cells.size = size) (hsz : 0 < size)
    (v : Value) (n : Nat) (xs : List Value) (hs : a.eval s = v) (hown : w.ownsRow base e size v n xs)
    (A : Option Addr) (m c : Nat) (news : List Value) (hx : a.eval x = .slice A m c) (hr : Rd w size A m c news) (h1 : ∀ u ∈ news, u.oneCell' = true)
    (h63 : n + m ≤ maxLen) (hbytes : (n + m) * bytes ≤ 140737488355328) (hbase : base ≤ w.heap.size)
    (h : ∀ v' w', w'.ownsRow base e size v' (n + m) (xs ++ news) → w.grownBy w' v.ownBlock → (v'.ownBlock = v.ownBlock ∨ v'.ownBlock = some w.heap.size) → K (a.put o.dst v') w') :
    if Region.wanted o (yielded ops a.tmps) = true then Oper.wp P o a w K Q else E := by
  have hw : Region.wanted o (yielded ops a.tmps) = true := by simp [Region.wanted, hgd]
  rw [if_pos hw]
  obtain ⟨v', w', hrun, h2, h3, h4⟩ := run_append_rd (P := P) w base t o.type e i z size bytes ht hi hz hsize hby hzs hsz v n xs hown A m c news hr h1 h63 hbytes hbase
  unfold Oper.wp execOp
  simp only [ho, resolve, invoke, builtin, Sem.run_bind, Sem.run_pure, Result.andThen_ok, List.map_toArray, List.map_cons, List.map_nil, hs, hx, hrun]
  exact h v' w' h2 h3 h4

theorem Rd.drew {w : World} {size : Nat} {A : Option Addr} {n c : Nat} {xs : List Value} (h : Rd w size A n c xs) : Rd w.drew size A n c xs := h.below (Below.refl _ _).drew

end Go.Proofs.Ytpkbimmhimgamaa
namespace Go.Proofs.Ytpkbimmhimgamaa
set_option linter.unusedSimpArgs false
set_option linter.unusedVariables false
set_option linter.unnecessarySimpa false
open Go.RowKit
/-- The blocks of F and those that are new. -/
def Grow (F : Nat → Prop) (w : World) : Nat → Prop := fun k => F k ∨ w.heap.size ≤ k
theorem Grow.sub {F : Nat → Prop} {w : World} {k : Nat} (h : F k) : Grow F w k := .inl h
theorem Grow.new {F : Nat → Prop} {w : World} {k : Nat} (h : w.heap.size ≤ k) : Grow F w k := .inr h
theorem Grow.mono {F G : Nat → Prop} {w w' : World} (hs : ∀ k, F k → G k) (hw : w.heap.size ≤ w'.heap.size) {k : Nat} (h : Grow F w' k) : Grow G w k := by
  rcases h with h | h
  · exact .inl (hs _ h)
  · exact .inr (Nat.le_trans hw h)

/-- Of the blocks that there were none but those of F may have turned. -/
structure Chg (F : Nat → Prop) (w w' : World) : Prop where
  os : w'.os = w.os
  tape : w'.tape = w.tape
  output : w'.output = w.output
  size : w.heap.size ≤ w'.heap.size
  block : ∀ k, k < w.heap.size → ¬ F k → w'.heap[k]? = w.heap[k]?

theorem Chg.refl (F : Nat → Prop) (w : World) : Chg F w w := ⟨rfl, rfl, rfl, Nat.le_refl _, fun _ _ _ => rfl⟩
theorem Chg.mono {F G : Nat → Prop} {w w' : World} (h : Chg F w w') (hs : ∀ k, k < w.heap.size → F k → G k) : Chg G w w' :=
  ⟨h.os, h.tape, h.output, h.size, fun k hk hn => h.block k hk fun hf => hn (hs k hk hf)⟩
theorem Chg.trans {F : Nat → Prop} {a b c : World} (h : Chg F a b) (k : Chg (Grow F a) b c) : Chg F a c :=
  ⟨k.os.trans h.os, k.tape.trans h.tape, k.output.trans h.output, Nat.le_trans h.size k.size,
   fun i hi hn => (k.block i (Nat.lt_of_lt_of_le hi h.size) (fun hg => hg.elim hn (fun h' => by omega))).trans (h.block i hi hn)⟩
/-- The second step turns old blocks of F alone, or what came behind the first world. -/
theorem Chg.step {F G : Nat → Prop} {a b c : World} (h : Chg F a b) (k : Chg G b c) (hs : ∀ i, i < a.heap.size → G i → F i) : Chg F a c :=
  h.trans (k.mono fun i _ hg => by
    rcases Nat.lt_or_ge i a.heap.size with h1 | h1
    · exact .inl (hs i h1 hg)
    · exact .inr h1)
theorem Chg.thenBelow {F : Nat → Prop} {B : Nat} {a b c : World} (h : Chg F a b) (k : Below B b c) (hB : a.heap.size ≤ B) : Chg F a c :=
  ⟨k.os.trans h.os, k.tape.trans h.tape, k.output.trans h.output, Nat.le_trans h.size k.size, fun i hi hn => (k.block i (Nat.lt_of_lt_of_le hi hB)).trans (h.block i hi hn)⟩
theorem Chg.of_below {F : Nat → Prop} {B : Nat} {w w' : World} (h : Below B w w') (hB : w.heap.size ≤ B) : Chg F w w' := (Chg.refl F w).thenBelow h hB
theorem Chg.below {F : Nat → Prop} {B : Nat} {w w' : World} (h : Chg F w w') (hB : B ≤ w.heap.size) (hF : ∀ k, k < B → ¬ F k) : Below B w w' :=
  ⟨h.os, h.tape, h.output, h.size, fun k hk => h.block k (Nat.lt_of_lt_of_le hk hB) (hF k hk)⟩
theorem chg_below {w w' : World} (h : Below w.heap.size w w') {F : Nat → Prop} : Chg F w w' := Chg.of_below h (Nat.le_refl _)
theorem Qt.chg {w w' : World} (h : Qt w w') {F : Nat → Prop} : Chg F w w' := chg_below (h.below (B := w.heap.size))
theorem Chg.qt {F : Nat → Prop} {a b c : World} (h : Chg F a b) (k : Qt b c) : Chg F a c := h.thenBelow (k.below (B := b.heap.size)) h.size
theorem Chg.drew {F : Nat → Prop} {a w : World} (h : Chg F a w) : Chg F a w.drew := h.qt ⟨1, rfl⟩
theorem Chg.setCell {F : Nat → Prop} {a w : World} (h : Chg F a w) {p : Addr} (hp : F p.block ∨ a.heap.size ≤ p.block) (u : Value) : Chg F a (w.setCell p u) :=
  h.trans ⟨rfl, rfl, rfl, by simp [World.setCell], fun k hk hn => Below.heap_setCell _ _ _ _ (fun e => hn (by subst e; exact hp))⟩
theorem Chg.alloc {F : Nat → Prop} {a w : World} (h : Chg F a w) (o : Obj) : Chg F a (w.alloc o) :=
  h.thenBelow ((Below.refl w.heap.size w).alloc (Nat.le_refl _) o) h.size
theorem Chg.grown {F : Nat → Prop} {a w w' : World} {row : Option Nat} (h : Chg F a w) (hg : w.grownBy w' row) (hr : ∀ k, row = some k → F k ∨ a.heap.size ≤ k) : Chg F a w' :=
  h.trans ⟨hg.os, hg.tape, hg.output, hg.size, fun k hk hn => hg.block k hk (fun e => hn (hr k e.symm))⟩
theorem Chg.cell {F : Nat → Prop} {w w' : World} (h : Chg F w w') {p : Addr} {v : Value} (hc : w.cell? p = some v) (hp : ¬ F p.block) : w'.cell? p = some v :=
  (World.cell?_of_block (w := w) (h.block p.block (block_lt_of_cell hc) hp)).trans hc
theorem Chg.blk {F : Nat → Prop} {w w' : World} (h : Chg F w w') {k : Nat} {o : Obj} (hc : w.heap[k]? = some o) (hp : ¬ F k) : w'.heap[k]? = some o :=
  (h.block k (Array.getElem?_eq_some_iff.1 hc).1 hp).trans hc
theorem Rd.chg {w w' : World} {size : Nat} {A : Option Addr} {n c : Nat} {xs : List Value} (h : Rd w size A n c xs) {F : Nat → Prop} (hc : Chg F w w')
    (hA : ∀ b off, A = some ⟨b, off, none⟩ → 0 < n → ¬ F b) : Rd w' size A n c xs :=
  ⟨h.len, h.cap, h.max, fun hn => by
    obtain ⟨b, off, e, hk⟩ := h.on_ hn
    exact ⟨b, off, e, fun j u hu => hc.cell (hk j u hu) (hA b off e hn)⟩⟩
theorem own_chg {w w' : World} {base : Nat} {e : TypeId} {size n : Nat} {v : Value} {xs : List Value} (h : w.ownsRow base e size v n xs) {F : Nat → Prop} (hc : Chg F w w')
    (hv : ∀ k, v.ownBlock = some k → ¬ F k) : w'.ownsRow base e size v n xs := by
  refine ⟨h.1, ?_⟩
  rcases h.2 with h2 | ⟨g, cap, cur, rfl, hb, hg, r⟩
  · exact .inl h2
  · exact .inr ⟨g, cap, cur, rfl, hb, hc.blk hg (hv g rfl), r⟩
theorem own_base {w : World} {base : Nat} {e : TypeId} {size n : Nat} {v : Value} {xs : List Value} (h : w.ownsRow base e size v n xs) {base' : Nat} (hb : ∀ k, v.ownBlock = some k → base' ≤ k) : w.ownsRow base' e size v n xs := by
  refine ⟨h.1, ?_⟩
  rcases h.2 with h2 | ⟨g, cap, cur, rfl, _, hg, r⟩
  · exact .inl h2
  · exact .inr ⟨g, cap, cur, rfl, hb g rfl, hg, r⟩

/-- For a call inside a region that only reads, some draws behind its beginning. -/
theorem Qt.callN {P : Program} {f : FuncId} {args : Array Value} {w : World} {k : Nat} {v : Value} (h : Calls P f args (w.drewN k) fun e w' => e = .returned v ∧ Qt (w.drewN k) w') :
    Calls P f args (w.drewN k) fun e w' => e = .returned v ∧ ∃ m, w' = w.drewN m :=
  h.mono fun _ _ ⟨he, hq⟩ => ⟨he, (show Qt w (w.drewN k) from ⟨k, rfl⟩).trans hq⟩
theorem Rd.dn {w : World} {size : Nat} {A : Option Addr} {n c : Nat} {xs : List Value} (h : Rd w size A n c xs) {k : Nat} : Rd (w.drewN k) size A n c xs := h.drewN k

/-! Rows of structs: each element is k cells. -/
theorem flat_len {α : Type} (f : α → List Value) (k : Nat) (hf : ∀ x, (f x).length = k) (l : List α) : (l.flatMap f).length = l.length * k := by
  induction l with
  | nil => simp
  | cons x l ih => simp [ih, hf, Nat.add_mul, Nat.add_comm]
theorem flat_get {α : Type} (f : α → List Value) (k : Nat) (hf : ∀ x, (f x).length = k) (l : List α) (i j : Nat) (hi : i < l.length) (hj : j < k) : (l.flatMap f)[i * k + j]? = (f l[i])[j]? := by
  induction l generalizing i with
  | nil => simp at hi
  | cons x l ih =>
    cases i with
    | zero => simp [List.getElem?_append_left (show j < (f x).length by rw [hf]; exact hj)]
    | succ i =>
      have e : (i + 1) * k + j = (f x).length + (i * k + j) := by rw [hf, Nat.add_mul]; omega
      rw [List.flatMap_cons, e, List.getElem?_append_right (by omega), Nat.add_sub_cancel_left, ih i (by simpa using hi)]
      simp
theorem flat_drop {α : Type} (f : α → List Value) (k : Nat) (hf : ∀ x, (f x).length = k) (l : List α) (n : Nat) : (l.flatMap f).drop (n * k) = (l.drop n).flatMap f := by
  induction l generalizing n with
  | nil => simp
  | cons x l ih =>
    cases n with
    | zero => simp
    | succ n =>
      have e : (n + 1) * k = (f x).length + n * k := by rw [hf, Nat.add_mul]; omega
      rw [List.flatMap_cons, e, List.drop_length_add_append, ih n, List.drop_succ_cons]
theorem flat_set {α : Type} (f : α → List Value) (k : Nat) (hf : ∀ x, (f x).length = k) (l : List α) (i j : Nat) (y : α) (u : Value) (hi : i < l.length) (hj : j < k) (hy : f y = (f l[i]).set j u) :
    (l.flatMap f).set (i * k + j) u = (l.set i y).flatMap f := by
  induction l generalizing i with
  | nil => simp at hi
  | cons x l ih =>
    cases i with
    | zero =>
      simp only [List.getElem_cons_zero] at hy
      simp [List.set_append_left _ _ (show j < (f x).length by rw [hf]; exact hj), hy]
    | succ i =>
      have e : (i + 1) * k + j = (f x).length + (i * k + j) := by rw [hf, Nat.add_mul]; omega
      rw [List.flatMap_cons, e, List.set_append_right _ _ (by omega), Nat.add_sub_cancel_left, ih i (by simpa using hi) (by simpa using hy)]
      simp

/-- The cells of the i-th element of a row of structs. -/
theorem Rd.elem {α : Type} {f : α → List Value} {k : Nat} (hf : ∀ x, (f x).length = k) {w : World} {A : Option Addr} {n c : Nat} {l : List α} (h : Rd w k A n c (l.flatMap f)) (hk : 0 < k) {i : Nat} (hi : i < l.length) :
    ∃ b off, A = some ⟨b, off, none⟩ ∧ ∀ j u, (f l[i])[j]? = some u → w.cell? ⟨b, off + i * k + j, none⟩ = some u := by
  have hl := h.len
  rw [flat_len f k hf] at hl
  have hn : l.length = n := Nat.eq_of_mul_eq_mul_right hk hl
  obtain ⟨b, off, e, hc⟩ := h.on_ (by omega)
  refine ⟨b, off, e, fun j u hu => ?_⟩
  rw [Nat.add_assoc]
  refine hc _ _ ?_
  have hj : j < k := by
    have := (List.getElem?_eq_some_iff.1 hu).1
    rwa [hf] at this
  rw [flat_get f k hf l i j hi hj]
  exact hu
theorem Rd.count {α : Type} {f : α → List Value} {k : Nat} (hf : ∀ x, (f x).length = k) {w : World} {A : Option Addr} {n c : Nat} {l : List α} (h : Rd w k A n c (l.flatMap f)) (hk : 0 < k) : l.length = n := by
  have hl := h.len
  rw [flat_len f k hf] at hl
  exact Nat.eq_of_mul_eq_mul_right hk hl

end Go.Proofs.Ytpkbimmhimgamaa

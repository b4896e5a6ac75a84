/-
  Walks of package peer: Take. · Walks of package peer: Take.
-/
import Derived.Test.YtkedfipeebjcjaaPee6
import Derived.Deep.CutBlock
namespace Go.Proofs.Ytkedfipeebjcjaa
open Go.Maps
set_option linter.unusedSimpArgs false
set_option linter.unusedVariables false
set_option linter.unnecessarySimpa false
open Go.RowKit
attribute [local go_sem ↓] run_min_int run_max_int

theorem datP_err {b : List Int} {e : Int} (h : datP b = .error e) : (e != 0) = true := by
  have key : e = 2 ∨ e = 3 ∨ e = 4 ∨ e = 5 := by
    unfold datP at h
    split at h
    · injection h with h; omega
    · split at h
      · injection h with h; omega
      · split at h
        · injection h with h; omega
        · split at h
          · injection h with h; omega
          · unfold datRest at h
            split at h
            · rename_i e1 h1
              injection h with h
              rcases numP_err h1 with e2 | e2 <;> omega
            · split at h
              · rename_i e1 h1
                injection h with h
                rcases numP_err h1 with e2 | e2 <;> omega
              · split at h
                · injection h with h; omega
                · split at h
                  · rename_i e1 h1
                    injection h with h
                    rcases numP_err h1 with e2 | e2 <;> omega
                  · split at h
                    · rename_i e1 h1
                      injection h with h
                      have := wordP_err h1
                      omega
                    · unfold datTail at h
                      split at h
                      · rename_i e1 h1
                        injection h with h
                        rcases numP_err h1 with e2 | e2 <;> omega
                      · split at h
                        · injection h with h; omega
                        · split at h
                          · injection h with h; omega
                          · split at h
                            · injection h with h; omega
                            · cases h
  rcases key with rfl | rfl | rfl | rfl <;> rfl

/-- The blocks that Take may turn. -/
def TkF (w w3 : World) (F : Nat → Prop) : Nat → Prop := fun k => (F k ∧ k < w.heap.size) ∨ w3.heap.size ≤ k
structure TkS (w w3 : World) (F M : Nat → Prop) (p hd : Nat) (d : DatD) (A1 : Option Addr) (c1 : Nat) (Q : PQ) (W : World) : Prop where
  q : ∃ m, PeR W (TkF w w3 F) M p Q m
  X : W.heap[hd]? = some (.cells #[.int .u64 d.pn, .int .u64 d.least, .int .u64 d.off, .int .u64 d.nonce, .int .i64 d.ecn, .slice A1 d.body.length c1] 30 (0, 0))
  ch : Chg (TkF w w3 F) w3 W
  l0 : w.heap.size ≤ hd
  l1 : hd < w3.heap.size
  lp : p < w.heap.size
theorem TkS.not {w w3 W : World} {F M : Nat → Prop} {p hd : Nat} {d : DatD} {A1 : Option Addr} {c1 : Nat} {Q : PQ} (h : TkS w w3 F M p hd d A1 c1 Q W) : ¬ TkF w w3 F hd := fun e => by
  have h0 := h.l0; have h1 := h.l1
  rcases e with e | e
  · omega
  · omega
theorem TkS.size {w w3 W : World} {F M : Nat → Prop} {p hd : Nat} {d : DatD} {A1 : Option Addr} {c1 : Nat} {Q : PQ} (h : TkS w w3 F M p hd d A1 c1 Q W) : w3.heap.size ≤ W.heap.size := h.ch.size
theorem TkS.hn {w w3 W : World} {F M : Nat → Prop} {p hd : Nat} {d : DatD} {A1 : Option Addr} {c1 : Nat} {Q : PQ} (h : TkS w w3 F M p hd d A1 c1 Q W) : ∀ k, W.heap.size ≤ k → TkF w w3 F k := fun k hk => .inr (Nat.le_trans h.ch.size hk)
theorem TkS.go {w w3 W W' : World} {F M : Nat → Prop} {p hd : Nat} {d : DatD} {A1 : Option Addr} {c1 : Nat} {Q Q' : PQ} (h : TkS w w3 F M p hd d A1 c1 Q W) (hq : ∃ m, PeR W' (TkF w w3 F) M p Q' m) (hc : Chg (TkF w w3 F) W W') : TkS w w3 F M p hd d A1 c1 Q' W' :=
  ⟨hq, hc.blk h.X h.not, h.ch.trans (hc.mono fun k _ e => .inl e), h.l0, h.l1, h.lp⟩
theorem TkS.below {w w3 W W' : World} {F M : Nat → Prop} {p hd : Nat} {d : DatD} {A1 : Option Addr} {c1 : Nat} {Q : PQ} (h : TkS w w3 F M p hd d A1 c1 Q W) (b : Below W.heap.size W W') : TkS w w3 F M p hd d A1 c1 Q W' := by
  obtain ⟨m, hm⟩ := h.q
  exact h.go ⟨m, hm.below b⟩ (chg_below b)
theorem TkS.fp {w w3 W : World} {F M : Nat → Prop} {p hd : Nat} {d : DatD} {A1 : Option Addr} {c1 : Nat} {Q : PQ} (h : TkS w w3 F M p hd d A1 c1 Q W) : TkF w w3 F p := by
  obtain ⟨m, hm⟩ := h.q
  exact hm.fp
/-- One field has been stored. -/
theorem TkS.put {w w3 W : World} {F M : Nat → Prop} {p hd i : Nat} {d : DatD} {A1 : Option Addr} {c1 : Nat} {Q Q' : PQ} (v : Value) (h : TkS w w3 F M p hd d A1 c1 Q W) (hc : ∀ m, Q'.cells m = (Q.cells m).setIfInBounds i v)
    (e1 : Q'.got = Q.got) (e2 : Q'.marked = Q.marked) (e0 : Q'.hv = Q.hv) (e3 : Q'.l = Q.l) (e4 : Q'.n = Q.n) (e5 : Q'.pl = Q.pl) : TkS w w3 F M p hd d A1 c1 Q' (W.setCell ⟨p, i, none⟩ v) := by
  obtain ⟨m, hm⟩ := h.q
  exact h.go ⟨m, hm.put v (hc m) rfl rfl e3 e4 e5 (by rw [e1]; exact hm.r1) (by rw [e2]; exact hm.r2) (by rw [e0]; exact hm.r3) (by rw [e1]; exact hm.f1) (by rw [e2]; exact hm.f2) (by rw [e0]; exact hm.f3)⟩ ((Chg.refl _ W).setCell (p := ⟨p, i, none⟩) (.inl h.fp) v)
theorem TkS.cells {w w3 W : World} {F M : Nat → Prop} {p hd : Nat} {d : DatD} {A1 : Option Addr} {c1 : Nat} {Q : PQ} (h : TkS w w3 F M p hd d A1 c1 Q W) : ∃ m : PM, W.heap[p]? = some (.cells #[.int .u64 Q.delay, .int .u64 Q.floor, .int .u64 Q.next, .int .u64 Q.bytes, .slice m.A1 Q.got.length m.c1, .slice m.A2 Q.marked.length m.c2, .map (some m.kb), .int .i64 Q.waits, .int .u64 Q.trigger, .int .u64 Q.due, .slice m.A3 Q.hv.length m.c3, m.v] 65 (0, 0)) := by
  obtain ⟨m, hm⟩ := h.q
  exact ⟨m, hm.t⟩
/-- The row of the numbers that are got has turned; of those that are marked. -/
theorem TkS.got {w w3 W W' : World} {F M : Nat → Prop} {p hd B c' : Nat} {d : DatD} {A1 A' : Option Addr} {c1 : Nat} {Q : PQ} {lg : List Sp} (h : TkS w w3 F M p hd d A1 c1 Q W) (b : Below W.heap.size W W') (hr : RdN W' B A' lg.length c' (Ss lg)) (hB : W.heap.size ≤ B) : TkS w w3 F M p hd d A1 c1 { Q with got := lg } (W'.setCell ⟨p, 4, none⟩ (.slice A' lg.length c')) := by
  obtain ⟨m, hm⟩ := h.q
  have h2 := hm.below b
  have o := hm.outs_new hB (fun k hk => h.hn k (Nat.le_trans hB hk)) hr.nw
  exact (h.below b).go ⟨{ m with A1 := A', c1 := c' }, h2.put _ rfl rfl rfl rfl rfl rfl hr.rd h2.r2 h2.r3 o h2.f2 h2.f3⟩ ((Chg.refl _ W').setCell (p := ⟨p, 4, none⟩) (.inl h.fp) _)
theorem TkS.mrk {w w3 W W' : World} {F M : Nat → Prop} {p hd B c' : Nat} {d : DatD} {A1 A' : Option Addr} {c1 : Nat} {Q : PQ} {lg : List Sp} (h : TkS w w3 F M p hd d A1 c1 Q W) (b : Below W.heap.size W W') (hr : RdN W' B A' lg.length c' (Ss lg)) (hB : W.heap.size ≤ B) : TkS w w3 F M p hd d A1 c1 { Q with marked := lg } (W'.setCell ⟨p, 5, none⟩ (.slice A' lg.length c')) := by
  obtain ⟨m, hm⟩ := h.q
  have h2 := hm.below b
  have o := hm.outs_new hB (fun k hk => h.hn k (Nat.le_trans hB hk)) hr.nw
  exact (h.below b).go ⟨{ m with A2 := A', c2 := c' }, h2.put _ rfl rfl rfl rfl rfl rfl h2.r1 hr.rd h2.r3 h2.f1 o h2.f3⟩ ((Chg.refl _ W').setCell (p := ⟨p, 5, none⟩) (.inl h.fp) _)
/-- A packet is kept. -/
def PQ.keep (Q : PQ) (d : DatD) : PQ := { Q with l := Q.l ++ [⟨d.pn, d.nonce, decide (d.ecn = 1), decide (d.ecn = 3)⟩], n := Q.n + 1 }
theorem laid_eq (s : PS) (d : DatD) (hv : List Sp) (pl : List Pc) :
    { ({ toQ { s with bytes := s.bytes + d.body.length } hv pl with got := addP s.got (d.pn, d.pn) } : PQ).keep d with marked := if d.ecn = 3 then addP s.marked (d.pn, d.pn) else s.marked } = toQ (s.laid d) hv pl := by
  have e1 : (s.laid d).got = addP s.got (d.pn, d.pn) := gotL_snoc s.l _
  have e2 : (s.laid d).marked = if d.ecn = 3 then addP s.marked (d.pn, d.pn) else s.marked := by
    show gotL ((s.l ++ [_]).filter (·.marked)) = _
    rw [List.filter_append]
    by_cases hk : d.ecn = 3
    · have e : List.filter (fun x : Hp => x.marked) [⟨d.pn, d.nonce, decide (d.ecn = 1), decide (d.ecn = 3)⟩] = [⟨d.pn, d.nonce, decide (d.ecn = 1), decide (d.ecn = 3)⟩] := by simp [hk]
      rw [e, gotL_snoc, if_pos hk]
      rfl
    · have e : List.filter (fun x : Hp => x.marked) [⟨d.pn, d.nonce, decide (d.ecn = 1), decide (d.ecn = 3)⟩] = [] := by simp [hk]
      rw [e, List.append_nil, if_neg hk]
      rfl
  have e3 : (s.laid d).s.length = s.s.length + 1 := by show (s.s ++ [_]).length = _; simp
  unfold toQ
  rw [e1, e2, e3]
  rfl

theorem kept_same (s : PS) (d : DatD) : (s.kept d).delay = s.delay ∧ (s.kept d).next = s.next ∧ (s.kept d).waits = s.waits ∧ (s.kept d).due = s.due ∧ (s.kept d).s = s.s ++ [(d.off, d.body)] ∧ (s.kept d).bytes = s.bytes + d.body.length := by
  unfold PS.kept PS.capM PS.capG PS.raise PS.laid
  split <;> split <;> exact ⟨rfl, rfl, rfl, rfl, rfl, rfl⟩
theorem TkS.fin {w w3 W : World} {F M : Nat → Prop} {p hd : Nat} {d : DatD} {A1 : Option Addr} {c1 : Nat} {s x : PS} {hv' : List Sp} {pl' : List Pc} (h : TkS w w3 F M p hd d A1 c1 (toQ x hv' pl') W) (B3 : Below w.heap.size w w3) (g : x.Good) (wt : x.Waits)
    (hs : x.s = s.s ++ [(d.off, d.body)]) (hb : x.bytes = s.bytes + d.body.length) (h0 : 0 ≤ s.bytes ∧ s.bytes ≤ 1500 * s.s.length) (hl : d.body.length ≤ 1500) (hf : s.s.length < 600000)
    (ok5 : PS.PcOk (s.s ++ [(d.off, d.body)]) hv' (pl'.map Pc.pure) ∧ U2s hv' ∧ hv'.length ≤ s.s.length + 1 ∧ pl'.length ≤ 1500 * (s.s.length + 1) ∧ ∀ x ∈ pl', x.b.length ≤ 1500) : PeP W (Grow F w) M p x ∧ Chg F w W := by
  obtain ⟨m, hm⟩ := h.q
  have hl2 : x.s.length = s.s.length + 1 := by rw [hs]; simp
  refine ⟨⟨g, wt, by rw [hb, hl2]; omega, by omega, hv', pl', m, ?_, by rw [hs]; exact ok5.1, ok5.2.1, by rw [hl2]; exact ok5.2.2.1, by rw [hl2]; exact ok5.2.2.2⟩, ?_⟩
  · refine hm.chg (Chg.refl (fun _ => False) W) (fun _ _ _ h => h) (fun k hk e => ?_) (fun k hk e => .inr e)
    rcases e with e | e
    · exact .inl e.1
    · exact .inr (Nat.le_trans B3.size e)
  · refine (chg_below B3).step h.ch (fun i hi e => ?_)
    rcases e with e | e
    · exact e.1
    · have := B3.size; omega
theorem capG_eq {s : PS} (h : 32 < s.got.length) : s.capG = s.raise (s.got.getD 1 (0, 0)).1 := if_pos h
theorem capG_no {s : PS} (h : ¬ 32 < s.got.length) : s.capG = s := if_neg h
theorem capM_eq {s : PS} (h : 32 < s.marked.length) : s.capM = s.raise (s.marked.getD 1 (0, 0)).1 := if_pos h
theorem capM_no {s : PS} (h : ¬ 32 < s.marked.length) : s.capM = s := if_neg h

def pickCode (p : Code → Bool) : Code → Option Code
  | .loop c => if p (.loop c) then some (.loop c) else pickCode p c
  | .seq a b => match pickCode p a with
    | some c => some c
    | none => pickCode p b
  | .block i c => if p (.block i c) then some (.block i c) else pickCode p c
  | .scope c => pickCode p c
  | .cond t a b => if p (.cond t a b) then some (.cond t a b) else match pickCode p a with
    | some c => some c
    | none => pickCode p b
  | .region i o b => if p (.region i o b) then some (.region i o b) else none
  | _ => none
def isReg (n : Nat) : Code → Bool
  | .region i _ _ => i == n
  | _ => false
def isIf (t : Nat) : Code → Bool
  | .cond (.tmp x) _ _ => x == t
  | _ => false
def isBlk (n : Nat) : Code → Bool
  | .block i _ => i == n
  | _ => false

noncomputable def takeR6Code : Code := (Try.f10.body.bind (pickCode (isReg 6))).getD .skip
set_option maxHeartbeats 64000000 in
set_option maxRecDepth 1000000 in
theorem takeR6 {u1 u2 u3 u4 u5 u6 u7 u9 u10 u11 u12 u13 u14 u15 u16 u17 u18 u19 u20 u21 u22 u23 u24 u25 u26 u27 u28 u29 u30 u31 u32 u33 u34 u35 u36 u37 u38 u39 u40 u41 u42 u43 u44 u45 u46 u47 u48 u49 u50 u51 u52 u53 u54 u55 u56 u57 u58 u59 u60 u61 u62 u63 u64 u65 u66 u67 u68 u69 u70 u71 u72 u73 u74 u75 u76 u77 u78 u79 u80 u81 u82 u83 u84 u85 u86 u87 u88 u89 u90 u91 u92 u93 u94 u95 u96 u97 u98 u99 u100 u101 u102 u103 u104 u105 u106 u107 u108 u109 u110 u111 u112 u113 u114 u115 u116 u117 u118 u119 u120 u121 u122 u123 u124 u125 u126 u127 u128 u129 u130 u131 u132 u133 u134 u135 u136 u137 u138 u139 u140 u141 u142 u143 u144 u145 u146 u147 u148 u149 u150 u151 u152 u153 u154 u155 u156 u157 u158 u159 u160 u161 u162 u163 u164 u165 u166 u167 u168 u169 u170 u171 u172 u173 u174 u175 u176 u177 u178 u179 u180 u181 u182 u183 u184 u185 u186 u187 u188 u189 u190 u191 u192 u193 u194 u195 u196 u197 u198 u199 u200 u201 u202 : Value} {w w3 : World} {F M : Nat → Prop} {p hd : Nat} {d : DatD} {A1 : Option Addr} {c1 : Nat} {s : PS} {hv : List Sp} {pl : List Pc} {Q : Exit → Act → World → Prop} {wr : World}
    (T3 : Hid (TkS w w3 F M p hd d A1 c1 (toQ s hv pl) wr)) (hbt : 0 ≤ s.bytes ∧ s.bytes ≤ 1500 * s.s.length) (hfew : s.s.length < 600000) (hd2 : d.body.length ≤ 1500)
    (hQ : Hid (∀  (x41 x42 x43 x44 x45 x46 x47 x48 x49 x50 x51 : Value) (wx : World), Hid (TkS w w3 F M p hd d A1 c1 (toQ { s with bytes := s.bytes + d.body.length } hv pl) wx ∧ Chg (fun j => j = p) wr wx) → Q .normal ⟨#[.pointer (some ⟨p, 0, none⟩), u1, u2, u3, u4, u5, u6, u7, .pointer (some ⟨hd, 0, none⟩), u9, u10, u11, u12, u13, u14, u15, u16, u17, u18, u19, u20, u21, u22, u23, u24, u25, u26, u27, u28, u29, u30, u31, u32, u33, u34, u35, u36, u37, u38, u39, u40, x41, x42, x43, x44, x45, x46, x47, x48, x49, x50, x51, u52, u53, u54, u55, u56, u57, u58, u59, u60, u61, u62, u63, u64, u65, u66, u67, u68, u69, u70, u71, u72, u73, u74, u75, u76, u77, u78, u79, u80, u81, u82, u83, u84, u85, u86, u87, u88, u89, u90, u91, u92, u93, u94, u95, u96, u97, u98, u99, u100, u101, u102, u103, u104, u105, u106, u107, u108, u109, u110, u111, u112, u113, u114, u115, u116, u117, u118, u119, u120, u121, u122, u123, u124, u125, u126, u127, u128, u129, u130, u131, u132, u133, u134, u135, u136, u137, u138, u139, u140, u141, u142, u143, u144, u145, u146, u147, u148, u149, u150, u151, u152, u153, u154, u155, u156, u157, u158, u159, u160, u161, u162, u163, u164, u165, u166, u167, u168, u169, u170, u171, u172, u173, u174, u175, u176, u177, u178, u179, u180, u181, u182, u183, u184, u185, u186, u187, u188, u189, u190, u191, u192, u193, u194, u195, u196, u197, u198, u199, u200, u201, u202], []⟩ wx)) :
    Code.wp Try.prog takeR6Code Q ⟨#[.pointer (some ⟨p, 0, none⟩), u1, u2, u3, u4, u5, u6, u7, .pointer (some ⟨hd, 0, none⟩), u9, u10, u11, u12, u13, u14, u15, u16, u17, u18, u19, u20, u21, u22, u23, u24, u25, u26, u27, u28, u29, u30, u31, u32, u33, u34, u35, u36, u37, u38, u39, u40, u41, u42, u43, u44, u45, u46, u47, u48, u49, u50, u51, u52, u53, u54, u55, u56, u57, u58, u59, u60, u61, u62, u63, u64, u65, u66, u67, u68, u69, u70, u71, u72, u73, u74, u75, u76, u77, u78, u79, u80, u81, u82, u83, u84, u85, u86, u87, u88, u89, u90, u91, u92, u93, u94, u95, u96, u97, u98, u99, u100, u101, u102, u103, u104, u105, u106, u107, u108, u109, u110, u111, u112, u113, u114, u115, u116, u117, u118, u119, u120, u121, u122, u123, u124, u125, u126, u127, u128, u129, u130, u131, u132, u133, u134, u135, u136, u137, u138, u139, u140, u141, u142, u143, u144, u145, u146, u147, u148, u149, u150, u151, u152, u153, u154, u155, u156, u157, u158, u159, u160, u161, u162, u163, u164, u165, u166, u167, u168, u169, u170, u171, u172, u173, u174, u175, u176, u177, u178, u179, u180, u181, u182, u183, u184, u185, u186, u187, u188, u189, u190, u191, u192, u193, u194, u195, u196, u197, u198, u199, u200, u201, u202], []⟩ wr := by
  conv => arg 2; whnf
  have wbt : IntKind.u64.wrap (d.body.length : Int) = d.body.length := IntWalk.u64_in _ (by omega)
  have wbt2 : IntKind.u64.wrap (s.bytes + (d.body.length : Int)) = s.bytes + d.body.length := IntWalk.u64_in _ (by omega)
  obtain ⟨m9, t9⟩ := T3.out.cells
  have y3 : wr.cell? ⟨p, 3, none⟩ = some (.int .u64 s.bytes) := cell_of_row wr p 3 _ _ _ t9
  have fy3 := frozen_of_row wr p 3 _ _ t9
  have x5 := cell_of_row wr hd 5 _ _ _ T3.out.X
  clear t9
  refine wp_region_noPanic ?_
  go_region
  all_goals go_wp2_with fail
  all_goals refine NoPanic.normal ?_
  all_goals
    refine hQ.out  _ _ _ _ _ _ _ _ _ _ _ _ ?_
    exact Lib.hid ⟨(T3.out.below (Below.refl _ _).drew).put _ (fun _ => rfl) rfl rfl rfl rfl rfl rfl, (Chg.refl (fun j => j = p) wr).drew.setCell (p := ⟨p, 3, none⟩) (.inl rfl) _⟩

noncomputable def takeR9Code : Code := (Try.f10.body.bind (pickCode (isReg 9))).getD .skip
set_option maxHeartbeats 64000000 in
set_option maxRecDepth 1000000 in
theorem takeR9 {u1 u2 u3 u4 u5 u6 u7 u9 u11 u12 u13 u14 u15 u16 u17 u18 u19 u20 u21 u22 u23 u24 u25 u26 u27 u28 u29 u30 u31 u32 u33 u34 u35 u36 u37 u38 u39 u40 u41 u42 u43 u44 u45 u46 u47 u48 u49 u50 u51 u52 u53 u54 u55 u56 u57 u58 u59 u60 u61 u62 u63 u64 u65 u66 u67 u68 u69 u70 u71 u72 u73 u74 u75 u76 u77 u78 u79 u80 u81 u82 u83 u84 u85 u86 u87 u88 u89 u90 u91 u92 u93 u94 u95 u96 u97 u98 u99 u100 u101 u102 u103 u104 u105 u106 u107 u108 u109 u110 u111 u112 u113 u114 u115 u116 u117 u118 u119 u120 u121 u122 u123 u124 u125 u126 u127 u128 u129 u130 u131 u132 u133 u134 u135 u136 u137 u138 u139 u140 u141 u142 u143 u144 u145 u146 u147 u148 u149 u150 u151 u152 u153 u154 u155 u156 u157 u158 u159 u160 u161 u162 u163 u164 u165 u166 u167 u168 u169 u170 u171 u172 u173 u174 u175 u176 u177 u178 u179 u180 u181 u182 u183 u184 u185 u186 u187 u188 u189 u190 u191 u192 u193 u194 u195 u196 u197 u198 u199 u200 u201 u202 : Value} {w w3 : World} {F M : Nat → Prop} {p hd : Nat} {d : DatD} {A1 : Option Addr} {c1 : Nat} {s : PS} {h10 : Nat} {Q0 : PQ} {Q : Exit → Act → World → Prop} {wr : World}
    (T6 : Hid (TkS w w3 F M p hd d A1 c1 (Q0) wr)) (E0 : Q0.got = s.got) (X6 : Hid (wr.heap[h10]? = some (.cells #[.int .u64 d.pn, .int .u64 d.pn] 68 (0, 0)))) (GM : Hid (s.Mid 32 32)) (ISp : Hid (IsSpan (d.pn, d.pn))) (hd0 : 0 ≤ d.pn)
    (hQ : Hid (∀  (x60 x61 x62 x63 x64 x65 x66 x67 x68 x69 x70 x71 : Value) (wx : World), Hid (TkS w w3 F M p hd d A1 c1 { Q0 with got := addP s.got (d.pn, d.pn) } wx ∧ wx.heap[h10]? = some (.cells #[.int .u64 d.pn, .int .u64 d.pn] 68 (0, 0))) → Q .normal ⟨#[.pointer (some ⟨p, 0, none⟩), u1, u2, u3, u4, u5, u6, u7, .pointer (some ⟨hd, 0, none⟩), u9, .pointer (some ⟨h10, 0, none⟩), u11, u12, u13, u14, u15, u16, u17, u18, u19, u20, u21, u22, u23, u24, u25, u26, u27, u28, u29, u30, u31, u32, u33, u34, u35, u36, u37, u38, u39, u40, u41, u42, u43, u44, u45, u46, u47, u48, u49, u50, u51, u52, u53, u54, u55, u56, u57, u58, u59, x60, x61, x62, x63, x64, x65, x66, x67, x68, x69, x70, x71, u72, u73, u74, u75, u76, u77, u78, u79, u80, u81, u82, u83, u84, u85, u86, u87, u88, u89, u90, u91, u92, u93, u94, u95, u96, u97, u98, u99, u100, u101, u102, u103, u104, u105, u106, u107, u108, u109, u110, u111, u112, u113, u114, u115, u116, u117, u118, u119, u120, u121, u122, u123, u124, u125, u126, u127, u128, u129, u130, u131, u132, u133, u134, u135, u136, u137, u138, u139, u140, u141, u142, u143, u144, u145, u146, u147, u148, u149, u150, u151, u152, u153, u154, u155, u156, u157, u158, u159, u160, u161, u162, u163, u164, u165, u166, u167, u168, u169, u170, u171, u172, u173, u174, u175, u176, u177, u178, u179, u180, u181, u182, u183, u184, u185, u186, u187, u188, u189, u190, u191, u192, u193, u194, u195, u196, u197, u198, u199, u200, u201, u202], []⟩ wx)) :
    Code.wp Try.prog takeR9Code Q ⟨#[.pointer (some ⟨p, 0, none⟩), u1, u2, u3, u4, u5, u6, u7, .pointer (some ⟨hd, 0, none⟩), u9, .pointer (some ⟨h10, 0, none⟩), u11, u12, u13, u14, u15, u16, u17, u18, u19, u20, u21, u22, u23, u24, u25, u26, u27, u28, u29, u30, u31, u32, u33, u34, u35, u36, u37, u38, u39, u40, u41, u42, u43, u44, u45, u46, u47, u48, u49, u50, u51, u52, u53, u54, u55, u56, u57, u58, u59, u60, u61, u62, u63, u64, u65, u66, u67, u68, u69, u70, u71, u72, u73, u74, u75, u76, u77, u78, u79, u80, u81, u82, u83, u84, u85, u86, u87, u88, u89, u90, u91, u92, u93, u94, u95, u96, u97, u98, u99, u100, u101, u102, u103, u104, u105, u106, u107, u108, u109, u110, u111, u112, u113, u114, u115, u116, u117, u118, u119, u120, u121, u122, u123, u124, u125, u126, u127, u128, u129, u130, u131, u132, u133, u134, u135, u136, u137, u138, u139, u140, u141, u142, u143, u144, u145, u146, u147, u148, u149, u150, u151, u152, u153, u154, u155, u156, u157, u158, u159, u160, u161, u162, u163, u164, u165, u166, u167, u168, u169, u170, u171, u172, u173, u174, u175, u176, u177, u178, u179, u180, u181, u182, u183, u184, u185, u186, u187, u188, u189, u190, u191, u192, u193, u194, u195, u196, u197, u198, u199, u200, u201, u202], []⟩ wr := by
  conv => arg 2; whnf
  obtain ⟨m6, q6⟩ := T6.out.q
  have Q6 := Lib.hid q6
  have y4 : wr.cell? ⟨p, 4, none⟩ = some (.slice m6.A1 s.got.length m6.c1) := by rw [← E0]; exact cell_of_row wr p 4 _ _ _ q6.t
  have nph : ¬ h10 = p := fun e => by have := X6.out; rw [e, q6.t] at this; simp at this
  have hfg := GM.out.few
  have q6r : Rd wr 2 m6.A1 s.got.length m6.c1 (Ss s.got) := by rw [← E0]; exact q6.r1
  have ADD := Lib.hid (add_yes m6.A1 s.got.length m6.c1 s.got d.pn d.pn wr.drew (q6r.below (Below.refl _ _).drew) GM.out.gd.good ISp.out hd0 (gd_u2 GM.out.gd GM.out.lo.1) (by omega))
  have z0 := cell_of_row wr h10 0 _ _ _ X6.out
  have z1 := cell_of_row wr h10 1 _ _ _ X6.out
  clear q6 hfg hd0 q6r
  refine wp_region_noPanic ?_
  go_region_with ((go_at_call 31; refine ADD.out.mono ?_; rintro e w7 ⟨A', c', rfl, hr, b⟩; have B7 : Hid (Below wr.heap.size wr w7) := Lib.hid (((Below.refl _ _).drew).trans b); have R7 : Hid (RdN w7 wr.heap.size A' _ c' _) := Lib.hid hr; clear hr b; have T7q := Lib.hid (Q6.out.below B7.out).t; have u4 := cell_of_row w7 p 4 _ _ _ T7q.out; have fu4 := frozen_of_row w7 p 4 _ _ T7q.out))
  all_goals go_wp2_with fail
  all_goals refine NoPanic.normal ?_
  all_goals
    refine hQ.out  _ _ _ _ _ _ _ _ _ _ _ _ _ ?_
    exact Lib.hid ⟨T6.out.got B7.out R7.out (Nat.le_refl _), ((Chg.refl (fun j => j = p) w7).setCell (p := ⟨p, 4, none⟩) (.inl rfl) _).blk ((B7.out.block _ (lt_of_block X6.out)).trans X6.out) nph⟩

noncomputable def takeR11Code : Code := (Try.f10.body.bind (pickCode (isReg 11))).getD .skip
set_option maxHeartbeats 64000000 in
set_option maxRecDepth 1000000 in
theorem takeR11 {u1 u2 u3 u4 u5 u6 u7 u9 u10 u12 u13 u14 u15 u16 u17 u18 u19 u20 u21 u22 u23 u24 u25 u26 u27 u28 u29 u30 u31 u32 u33 u34 u35 u36 u37 u38 u39 u40 u41 u42 u43 u44 u45 u46 u47 u48 u49 u50 u51 u52 u53 u54 u55 u56 u57 u58 u59 u60 u61 u62 u63 u64 u65 u66 u67 u68 u69 u70 u71 u72 u73 u74 u75 u76 u77 u78 u79 u80 u81 u82 u83 u84 u85 u86 u87 u88 u89 u90 u91 u92 u93 u94 u95 u96 u97 u98 u99 u100 u101 u102 u103 u104 u105 u106 u107 u108 u109 u110 u111 u112 u113 u114 u115 u116 u117 u118 u119 u120 u121 u122 u123 u124 u125 u126 u127 u128 u129 u130 u131 u132 u133 u134 u135 u136 u137 u138 u139 u140 u141 u142 u143 u144 u145 u146 u147 u148 u149 u150 u151 u152 u153 u154 u155 u156 u157 u158 u159 u160 u161 u162 u163 u164 u165 u166 u167 u168 u169 u170 u171 u172 u173 u174 u175 u176 u177 u178 u179 u180 u181 u182 u183 u184 u185 u186 u187 u188 u189 u190 u191 u192 u193 u194 u195 u196 u197 u198 u199 u200 u201 u202 : Value} {w w3 : World} {F M : Nat → Prop} {p hd : Nat} {d : DatD} {A1 : Option Addr} {c1 : Nat} {s : PS} {h10 : Nat} {Q0 : PQ} {cb : Bool} {Q : Exit → Act → World → Prop} {wr : World}
    (T7 : Hid (TkS w w3 F M p hd d A1 c1 (Q0) wr)) (E0 : Q0.l = s.l) (E1 : Q0.n = s.s.length) (X7 : Hid (wr.heap[h10]? = some (.cells #[.int .u64 d.pn, .int .u64 d.pn] 68 (0, 0)))) (GM : Hid (s.Mid 32 32)) (HC0 : Hid (¬ (d.pn < s.floor ∨ hasP s.got d.pn = true))) (HCB : Hid (cb = decide (d.ecn = 1))) (hd0 : 0 ≤ d.pn ∧ d.pn ≤ 4611686018427387903) (hfew : s.s.length < 600000)
    (hQ : Hid (∀  (x78 x79 x80 x81 x82 x83 x84 x85 x86 x87 : Value) (wx : World), Hid (TkS w w3 F M p hd d A1 c1 (Q0.keep d) wx ∧ wx.heap[h10]? = some (.cells #[.int .u64 d.pn, .int .u64 d.pn] 68 (0, 0))) → Q .normal ⟨#[.pointer (some ⟨p, 0, none⟩), u1, u2, u3, u4, u5, u6, u7, .pointer (some ⟨hd, 0, none⟩), u9, u10, .bool cb, u12, u13, u14, u15, u16, u17, u18, u19, u20, u21, u22, u23, u24, u25, u26, u27, u28, u29, u30, u31, u32, u33, u34, u35, u36, u37, u38, u39, u40, u41, u42, u43, u44, u45, u46, u47, u48, u49, u50, u51, u52, u53, u54, u55, u56, u57, u58, u59, u60, u61, u62, u63, u64, u65, u66, u67, u68, u69, u70, u71, u72, u73, u74, u75, u76, u77, x78, x79, x80, x81, x82, x83, x84, x85, x86, x87, u88, u89, u90, u91, u92, u93, u94, u95, u96, u97, u98, u99, u100, u101, u102, u103, u104, u105, u106, u107, u108, u109, u110, u111, u112, u113, u114, u115, u116, u117, u118, u119, u120, u121, u122, u123, u124, u125, u126, u127, u128, u129, u130, u131, u132, u133, u134, u135, u136, u137, u138, u139, u140, u141, u142, u143, u144, u145, u146, u147, u148, u149, u150, u151, u152, u153, u154, u155, u156, u157, u158, u159, u160, u161, u162, u163, u164, u165, u166, u167, u168, u169, u170, u171, u172, u173, u174, u175, u176, u177, u178, u179, u180, u181, u182, u183, u184, u185, u186, u187, u188, u189, u190, u191, u192, u193, u194, u195, u196, u197, u198, u199, u200, u201, u202], []⟩ wx)) :
    Code.wp Try.prog takeR11Code Q ⟨#[.pointer (some ⟨p, 0, none⟩), u1, u2, u3, u4, u5, u6, u7, .pointer (some ⟨hd, 0, none⟩), u9, u10, .bool cb, u12, u13, u14, u15, u16, u17, u18, u19, u20, u21, u22, u23, u24, u25, u26, u27, u28, u29, u30, u31, u32, u33, u34, u35, u36, u37, u38, u39, u40, u41, u42, u43, u44, u45, u46, u47, u48, u49, u50, u51, u52, u53, u54, u55, u56, u57, u58, u59, u60, u61, u62, u63, u64, u65, u66, u67, u68, u69, u70, u71, u72, u73, u74, u75, u76, u77, u78, u79, u80, u81, u82, u83, u84, u85, u86, u87, u88, u89, u90, u91, u92, u93, u94, u95, u96, u97, u98, u99, u100, u101, u102, u103, u104, u105, u106, u107, u108, u109, u110, u111, u112, u113, u114, u115, u116, u117, u118, u119, u120, u121, u122, u123, u124, u125, u126, u127, u128, u129, u130, u131, u132, u133, u134, u135, u136, u137, u138, u139, u140, u141, u142, u143, u144, u145, u146, u147, u148, u149, u150, u151, u152, u153, u154, u155, u156, u157, u158, u159, u160, u161, u162, u163, u164, u165, u166, u167, u168, u169, u170, u171, u172, u173, u174, u175, u176, u177, u178, u179, u180, u181, u182, u183, u184, u185, u186, u187, u188, u189, u190, u191, u192, u193, u194, u195, u196, u197, u198, u199, u200, u201, u202], []⟩ wr := by
  conv => arg 2; whnf
  obtain ⟨m7, q7⟩ := T7.out.q
  have Q7 := Lib.hid q7
  obtain ⟨D7, k7, kd7⟩ := q7.k
  have K7 := Lib.hid k7
  have KD7 := Lib.hid kd7
  have y6 := cell_of_row wr p 6 _ _ _ q7.t
  have tt := T7.out.X
  have x0 := cell_of_row wr hd 0 _ _ _ tt
  have x3 := cell_of_row wr hd 3 _ _ _ tt
  clear tt q7 k7 kd7
  have HO7 := Lib.hid K7.out.isMap
  refine wp_region_qtt 10 (by kernel_rfl) (by kernel_rfl) ?_
  simp only [List.take_succ_cons, List.take_zero, List.drop_succ_cons, List.drop_zero]
  repeat (go_big_quiet_step (fail))
  refine wpQuiet_nil ?_
  intro w8 q8
  go_wp2_with (first
    | (at_mapUpdate; refine wpList_mapUpdate_own _ rfl _ _ _ 62 rfl 26 75 law64 Try.underlying62 oneElem m7.kb Q0.n D7 rfl (map_chg K7.out (q8.chg (F := fun _ => False)) (fun h => h)) (by unfold maxLen; omega) (.int .u64 d.pn) (.agg #[.int .u64 d.nonce, .bool cb]) (.int .u64 d.pn) rfl rfl (key64 ⟨by omega, by omega⟩) (.agg [.lit (.int .u64 d.nonce), .lit (.bool cb)]) [] rfl ?_; intro w9 hown9 hg9)
    | go_in)
  have C9 : Hid (Chg (fun j => j = m7.kb) wr w9) := Lib.hid ((q8.chg (F := fun j => j = m7.kb)).trans ((Chg.refl _ _).grown hg9 (fun k e => by injection e with e; exact .inl (.inl e.symm))))
  have nkh : ¬ h10 = m7.kb := fun e => by
    obtain ⟨es, clock, hb, _⟩ := K7.out
    have := X7.out
    rw [e, hb] at this
    cases this
  have HO9 := Lib.hid hown9
  clear hown9 hg9
  refine hQ.out  _ _ _ _ _ _ _ _ _ _ _ ?_
  refine Lib.hid ⟨T7.out.go ⟨m7, Q7.out.remap C9.out ⟨_, HO9.out, ?_⟩ rfl rfl rfl rfl rfl⟩ (C9.out.mono fun k _ e => by subst e; exact Q7.out.fk.1), C9.out.blk X7.out nkh⟩
  have kp := Kept.put KD7.out HO7.out ⟨d.pn, d.nonce, decide (d.ecn = 1), decide (d.ecn = 3)⟩ (fun j hj e => ?_)
  · have hcb := HCB.out
    rw [hcb]
    exact kp
  · rw [E0] at hj
    exact HC0.out (.inr ((hasP_iff _ _).2 (((gotL_spec s.l GM.out.le).2 d.pn).2 ⟨j, hj, e⟩)))

noncomputable def takeR13Code : Code := (Try.f10.body.bind (pickCode (isReg 13))).getD .skip
set_option maxHeartbeats 64000000 in
set_option maxRecDepth 1000000 in
theorem takeR13 {u1 u2 u3 u4 u5 u6 u7 u9 u11 u12 u13 u14 u15 u16 u17 u18 u19 u20 u21 u22 u23 u24 u25 u26 u27 u28 u29 u30 u31 u32 u33 u34 u35 u36 u37 u38 u39 u40 u41 u42 u43 u44 u45 u46 u47 u48 u49 u50 u51 u52 u53 u54 u55 u56 u57 u58 u59 u60 u61 u62 u63 u64 u65 u66 u67 u68 u69 u70 u71 u72 u73 u74 u75 u76 u77 u78 u79 u80 u81 u82 u83 u84 u85 u86 u87 u88 u89 u90 u91 u92 u93 u94 u95 u96 u97 u98 u99 u100 u101 u102 u103 u104 u105 u106 u107 u108 u109 u110 u111 u112 u113 u114 u115 u116 u117 u118 u119 u120 u121 u122 u123 u124 u125 u126 u127 u128 u129 u130 u131 u132 u133 u134 u135 u136 u137 u138 u139 u140 u141 u142 u143 u144 u145 u146 u147 u148 u149 u150 u151 u152 u153 u154 u155 u156 u157 u158 u159 u160 u161 u162 u163 u164 u165 u166 u167 u168 u169 u170 u171 u172 u173 u174 u175 u176 u177 u178 u179 u180 u181 u182 u183 u184 u185 u186 u187 u188 u189 u190 u191 u192 u193 u194 u195 u196 u197 u198 u199 u200 u201 u202 : Value} {w w3 : World} {F M : Nat → Prop} {p hd : Nat} {d : DatD} {A1 : Option Addr} {c1 : Nat} {s : PS} {h10 : Nat} {Q0 : PQ} {Q : Exit → Act → World → Prop} {wr : World}
    (T6 : Hid (TkS w w3 F M p hd d A1 c1 (Q0) wr)) (E0 : Q0.marked = s.marked) (X6 : Hid (wr.heap[h10]? = some (.cells #[.int .u64 d.pn, .int .u64 d.pn] 68 (0, 0)))) (GM : Hid (s.Mid 32 32)) (ISp : Hid (IsSpan (d.pn, d.pn))) (hd0 : 0 ≤ d.pn)
    (hQ : Hid (∀  (x90 x91 x92 x93 x94 x95 x96 x97 x98 x99 x100 x101 : Value) (wx : World), Hid (TkS w w3 F M p hd d A1 c1 { Q0 with marked := addP s.marked (d.pn, d.pn) } wx ∧ wx.heap[h10]? = some (.cells #[.int .u64 d.pn, .int .u64 d.pn] 68 (0, 0))) → Q .normal ⟨#[.pointer (some ⟨p, 0, none⟩), u1, u2, u3, u4, u5, u6, u7, .pointer (some ⟨hd, 0, none⟩), u9, .pointer (some ⟨h10, 0, none⟩), u11, u12, u13, u14, u15, u16, u17, u18, u19, u20, u21, u22, u23, u24, u25, u26, u27, u28, u29, u30, u31, u32, u33, u34, u35, u36, u37, u38, u39, u40, u41, u42, u43, u44, u45, u46, u47, u48, u49, u50, u51, u52, u53, u54, u55, u56, u57, u58, u59, u60, u61, u62, u63, u64, u65, u66, u67, u68, u69, u70, u71, u72, u73, u74, u75, u76, u77, u78, u79, u80, u81, u82, u83, u84, u85, u86, u87, u88, u89, x90, x91, x92, x93, x94, x95, x96, x97, x98, x99, x100, x101, u102, u103, u104, u105, u106, u107, u108, u109, u110, u111, u112, u113, u114, u115, u116, u117, u118, u119, u120, u121, u122, u123, u124, u125, u126, u127, u128, u129, u130, u131, u132, u133, u134, u135, u136, u137, u138, u139, u140, u141, u142, u143, u144, u145, u146, u147, u148, u149, u150, u151, u152, u153, u154, u155, u156, u157, u158, u159, u160, u161, u162, u163, u164, u165, u166, u167, u168, u169, u170, u171, u172, u173, u174, u175, u176, u177, u178, u179, u180, u181, u182, u183, u184, u185, u186, u187, u188, u189, u190, u191, u192, u193, u194, u195, u196, u197, u198, u199, u200, u201, u202], []⟩ wx)) :
    Code.wp Try.prog takeR13Code Q ⟨#[.pointer (some ⟨p, 0, none⟩), u1, u2, u3, u4, u5, u6, u7, .pointer (some ⟨hd, 0, none⟩), u9, .pointer (some ⟨h10, 0, none⟩), u11, u12, u13, u14, u15, u16, u17, u18, u19, u20, u21, u22, u23, u24, u25, u26, u27, u28, u29, u30, u31, u32, u33, u34, u35, u36, u37, u38, u39, u40, u41, u42, u43, u44, u45, u46, u47, u48, u49, u50, u51, u52, u53, u54, u55, u56, u57, u58, u59, u60, u61, u62, u63, u64, u65, u66, u67, u68, u69, u70, u71, u72, u73, u74, u75, u76, u77, u78, u79, u80, u81, u82, u83, u84, u85, u86, u87, u88, u89, u90, u91, u92, u93, u94, u95, u96, u97, u98, u99, u100, u101, u102, u103, u104, u105, u106, u107, u108, u109, u110, u111, u112, u113, u114, u115, u116, u117, u118, u119, u120, u121, u122, u123, u124, u125, u126, u127, u128, u129, u130, u131, u132, u133, u134, u135, u136, u137, u138, u139, u140, u141, u142, u143, u144, u145, u146, u147, u148, u149, u150, u151, u152, u153, u154, u155, u156, u157, u158, u159, u160, u161, u162, u163, u164, u165, u166, u167, u168, u169, u170, u171, u172, u173, u174, u175, u176, u177, u178, u179, u180, u181, u182, u183, u184, u185, u186, u187, u188, u189, u190, u191, u192, u193, u194, u195, u196, u197, u198, u199, u200, u201, u202], []⟩ wr := by
  conv => arg 2; whnf
  obtain ⟨m6, q6⟩ := T6.out.q
  have Q6 := Lib.hid q6
  have y4 : wr.cell? ⟨p, 5, none⟩ = some (.slice m6.A2 s.marked.length m6.c2) := by rw [← E0]; exact cell_of_row wr p 5 _ _ _ q6.t
  have nph : ¬ h10 = p := fun e => by have := X6.out; rw [e, q6.t] at this; simp at this
  have hfg := GM.out.few
  have q6r : Rd wr 2 m6.A2 s.marked.length m6.c2 (Ss s.marked) := by rw [← E0]; exact q6.r2
  have ADD := Lib.hid (add_yes m6.A2 s.marked.length m6.c2 s.marked d.pn d.pn wr.drew (q6r.below (Below.refl _ _).drew) GM.out.gm.good ISp.out hd0 (gd_u2 GM.out.gm GM.out.lo.2) (by omega))
  have z0 := cell_of_row wr h10 0 _ _ _ X6.out
  have z1 := cell_of_row wr h10 1 _ _ _ X6.out
  clear q6 hfg hd0 q6r
  refine wp_region_noPanic ?_
  go_region_with ((go_at_call 31; refine ADD.out.mono ?_; rintro e w7 ⟨A', c', rfl, hr, b⟩; have B7 : Hid (Below wr.heap.size wr w7) := Lib.hid (((Below.refl _ _).drew).trans b); have R7 : Hid (RdN w7 wr.heap.size A' _ c' _) := Lib.hid hr; clear hr b; have T7q := Lib.hid (Q6.out.below B7.out).t; have u4 := cell_of_row w7 p 5 _ _ _ T7q.out; have fu4 := frozen_of_row w7 p 5 _ _ T7q.out))
  all_goals go_wp2_with fail
  all_goals refine NoPanic.normal ?_
  all_goals
    refine hQ.out  _ _ _ _ _ _ _ _ _ _ _ _ _ ?_
    exact Lib.hid ⟨T6.out.mrk B7.out R7.out (Nat.le_refl _), ((Chg.refl (fun j => j = p) w7).setCell (p := ⟨p, 5, none⟩) (.inl rfl) _).blk ((B7.out.block _ (lt_of_block X6.out)).trans X6.out) nph⟩

noncomputable def takeL1Code : Code := (Try.f10.body.bind (pickCode (isBlk 0))).getD .skip
set_option maxHeartbeats 64000000 in
set_option maxRecDepth 1000000 in
theorem takeL1 {u1 u2 u3 u4 u5 u6 u7 u9 u10 u11 u12 u13 u14 u15 u16 u17 u18 u19 u20 u21 u22 u23 u24 u25 u26 u27 u28 u29 u30 u31 u32 u33 u34 u35 u36 u37 u38 u39 u40 u41 u42 u43 u44 u45 u46 u47 u48 u49 u50 u51 u52 u53 u54 u55 u56 u57 u58 u59 u60 u61 u62 u63 u64 u65 u66 u67 u68 u69 u70 u71 u72 u73 u74 u75 u76 u77 u78 u79 u80 u81 u82 u83 u84 u85 u86 u87 u88 u89 u90 u91 u92 u93 u94 u95 u96 u97 u98 u99 u100 u101 u102 u103 u104 u105 u106 u107 u108 u109 u110 u111 u112 u113 u114 u115 u116 u117 u118 u119 u120 u121 u122 u123 u124 u125 u126 u127 u128 u129 u130 u131 u132 u133 u134 u135 u136 u137 u138 u139 u140 u141 u142 u143 u144 u145 u146 u147 u148 u149 u150 u151 u152 u153 u154 u155 u156 u157 u158 u159 u160 u161 u162 u163 u164 u165 u166 u167 u168 u169 u170 u171 u172 u173 u174 u175 u176 u177 u178 u179 u180 u181 u182 u183 u184 u185 u186 u187 u188 u189 u190 u191 u192 u193 u194 u195 u196 u197 u198 u199 u200 u201 u202 : Value} {w w3 : World} {F M : Nat → Prop} {p hd : Nat} {d : DatD} {A1 : Option Addr} {c1 : Nat} {s6 : PS} {hv' : List Sp} {pl' : List Pc} {Q : Exit → Act → World → Prop} {wr : World}
    (T11 : Hid (TkS w w3 F M p hd d A1 c1 (toQ s6 hv' pl') wr)) (M6 : Hid (s6.Mid 33 33))
    (hQ : Hid (∀  (x106 x107 x108 x109 x110 x111 x112 x113 x114 x115 x116 x117 x118 x119 x120 : Value) (wx : World), Hid (TkS w w3 F M p hd d A1 c1 (toQ s6.capG hv' pl') wx) → Q .normal ⟨#[.pointer (some ⟨p, 0, none⟩), u1, u2, u3, u4, u5, u6, u7, .pointer (some ⟨hd, 0, none⟩), u9, u10, u11, u12, u13, u14, u15, u16, u17, u18, u19, u20, u21, u22, u23, u24, u25, u26, u27, u28, u29, u30, u31, u32, u33, u34, u35, u36, u37, u38, u39, u40, u41, u42, u43, u44, u45, u46, u47, u48, u49, u50, u51, u52, u53, u54, u55, u56, u57, u58, u59, u60, u61, u62, u63, u64, u65, u66, u67, u68, u69, u70, u71, u72, u73, u74, u75, u76, u77, u78, u79, u80, u81, u82, u83, u84, u85, u86, u87, u88, u89, u90, u91, u92, u93, u94, u95, u96, u97, u98, u99, u100, u101, u102, u103, u104, u105, x106, x107, x108, x109, x110, x111, x112, x113, x114, x115, x116, x117, x118, x119, x120, u121, u122, u123, u124, u125, u126, u127, u128, u129, u130, u131, u132, u133, u134, u135, u136, u137, u138, u139, u140, u141, u142, u143, u144, u145, u146, u147, u148, u149, u150, u151, u152, u153, u154, u155, u156, u157, u158, u159, u160, u161, u162, u163, u164, u165, u166, u167, u168, u169, u170, u171, u172, u173, u174, u175, u176, u177, u178, u179, u180, u181, u182, u183, u184, u185, u186, u187, u188, u189, u190, u191, u192, u193, u194, u195, u196, u197, u198, u199, u200, u201, u202], []⟩ wx)) :
    Code.wp Try.prog takeL1Code Q ⟨#[.pointer (some ⟨p, 0, none⟩), u1, u2, u3, u4, u5, u6, u7, .pointer (some ⟨hd, 0, none⟩), u9, u10, u11, u12, u13, u14, u15, u16, u17, u18, u19, u20, u21, u22, u23, u24, u25, u26, u27, u28, u29, u30, u31, u32, u33, u34, u35, u36, u37, u38, u39, u40, u41, u42, u43, u44, u45, u46, u47, u48, u49, u50, u51, u52, u53, u54, u55, u56, u57, u58, u59, u60, u61, u62, u63, u64, u65, u66, u67, u68, u69, u70, u71, u72, u73, u74, u75, u76, u77, u78, u79, u80, u81, u82, u83, u84, u85, u86, u87, u88, u89, u90, u91, u92, u93, u94, u95, u96, u97, u98, u99, u100, u101, u102, u103, u104, u105, u106, u107, u108, u109, u110, u111, u112, u113, u114, u115, u116, u117, u118, u119, u120, u121, u122, u123, u124, u125, u126, u127, u128, u129, u130, u131, u132, u133, u134, u135, u136, u137, u138, u139, u140, u141, u142, u143, u144, u145, u146, u147, u148, u149, u150, u151, u152, u153, u154, u155, u156, u157, u158, u159, u160, u161, u162, u163, u164, u165, u166, u167, u168, u169, u170, u171, u172, u173, u174, u175, u176, u177, u178, u179, u180, u181, u182, u183, u184, u185, u186, u187, u188, u189, u190, u191, u192, u193, u194, u195, u196, u197, u198, u199, u200, u201, u202], []⟩ wr := by
  conv => arg 2; whnf
  go_wp2_with fail
  go_loopw [119] (fun _ wr => ∃ x : PS, (x = s6 ∨ (x = s6.capG ∧ ¬ 32 < x.got.length)) ∧ Hid (TkS w w3 F M p hd d A1 c1 (toQ x hv' pl') wr)) (fun _ wr => lenAt wr p 4)
  case atStart => exact ⟨s6, .inl rfl, T11⟩
  case round =>
    obtain ⟨x, hx, hT⟩ := hrel
    obtain ⟨m9, q9⟩ := hT.out.q
    have Q9 := Lib.hid q9
    have y4 : wr.cell? ⟨p, 4, none⟩ = some (.slice m9.A1 x.got.length m9.c1) := cell_of_row wr p 4 _ _ _ q9.t
    have hle : lenAt wr p 4 = x.got.length := by unfold lenAt; rw [y4]
    have HLE := Lib.hid hle
    clear q9 hle
    by_cases h32 : 32 < x.got.length
    · have hx6 : x = s6 := by
        rcases hx with e | e
        · exact e
        · exact absurd h32 e.2
      subst hx6
      clear hx
      have h33 : decide ((32 : Int) < (x.got.length : Int)) = true := decide_eq_true (by omega)
      have h34 : decide ((x.got.length : Int) > 32) = true := h33
      obtain ⟨b9, o9, lo9, hi9, eA9, He9, hc9, -, g1, g2, -, -⟩ := Q9.out.r1.sp (k := 1) (gd_u2 M6.out.gd M6.out.lo.1) (by show 1 < x.got.length; omega)
      have heq : Hid (x.raise lo9 = x.capG) := Lib.hid (by
        rw [capG_eq h32]
        have h1 : x.got[1]? = some (lo9, hi9) := by rw [List.getElem?_eq_getElem (by omega)]; exact congrArg some He9.out
        rw [List.getD_eq_getElem?_getD, h1]
        rfl)
      rw [eA9] at y4
      have KR : Hid (Calls Try.prog 33 #[.pointer (some ⟨p, 0, none⟩), .int .u64 lo9] wr fun e w' => e = .returned (.tuple #[]) ∧ TkS w w3 F M p hd d A1 c1 (toQ x.capG hv' pl') w') := Lib.hid (by
        refine (peer_raise_s wr _ M p _ hv' pl' m9 lo9 33 33 Q9.out M6.out (by omega) (by omega) hT.out.hn ⟨g1, g2⟩).mono ?_
        rintro e w' ⟨rfl, hq, hC⟩
        rw [heq.out] at hq
        exact ⟨rfl, hT.out.go hq hC⟩)
      have hcp := Q9.out.r1.cap
      have hcp2 : x.got.length ≤ m9.c1 := hcp
      clear hcp heq eA9 He9
      go_wp2_with fail
      (with_reducible refine KR.out.mono ?_)
      rintro e w9 ⟨rfl, h9⟩
      have T9 := Lib.hid h9
      clear h9
      go_wp2
      go_roundw
      case rel => exact ⟨x.capG, .inr ⟨rfl, capG_short M6.out⟩, T9⟩
      case measure =>
        obtain ⟨m8, t8⟩ := T9.out.cells
        have u4 : w9.cell? ⟨p, 4, none⟩ = some (.slice m8.A1 x.capG.got.length m8.c1) := cell_of_row w9 p 4 _ _ _ t8
        have hl9 : lenAt w9 p 4 = x.capG.got.length := by unfold lenAt; rw [u4]
        rw [hl9, HLE.out]
        have := capG_short M6.out
        omega
    · have h33 : decide ((32 : Int) < (x.got.length : Int)) = false := decide_eq_false (by omega)
      have h34 : decide ((x.got.length : Int) > 32) = false := h33
      have TN : Hid (TkS w w3 F M p hd d A1 c1 (toQ s6.capG hv' pl') wr) := Lib.hid (by
        rcases hx with e | e
        · subst e; rw [capG_no h32]; exact hT.out
        · rw [← e.1]; exact hT.out)
      clear hx hT Q9
      go_wp2_with fail
      refine hQ.out  _ _ _ _ _ _ _ _ _ _ _ _ _ _ _ _ ?_
      exact TN

noncomputable def takeL2Code : Code := (Try.f10.body.bind (pickCode (isBlk 2))).getD .skip
set_option maxHeartbeats 64000000 in
set_option maxRecDepth 1000000 in
theorem takeL2 {u1 u2 u3 u4 u5 u6 u7 u9 u10 u11 u12 u13 u14 u15 u16 u17 u18 u19 u20 u21 u22 u23 u24 u25 u26 u27 u28 u29 u30 u31 u32 u33 u34 u35 u36 u37 u38 u39 u40 u41 u42 u43 u44 u45 u46 u47 u48 u49 u50 u51 u52 u53 u54 u55 u56 u57 u58 u59 u60 u61 u62 u63 u64 u65 u66 u67 u68 u69 u70 u71 u72 u73 u74 u75 u76 u77 u78 u79 u80 u81 u82 u83 u84 u85 u86 u87 u88 u89 u90 u91 u92 u93 u94 u95 u96 u97 u98 u99 u100 u101 u102 u103 u104 u105 u106 u107 u108 u109 u110 u111 u112 u113 u114 u115 u116 u117 u118 u119 u120 u121 u122 u123 u124 u125 u126 u127 u128 u129 u130 u131 u132 u133 u134 u135 u136 u137 u138 u139 u140 u141 u142 u143 u144 u145 u146 u147 u148 u149 u150 u151 u152 u153 u154 u155 u156 u157 u158 u159 u160 u161 u162 u163 u164 u165 u166 u167 u168 u169 u170 u171 u172 u173 u174 u175 u176 u177 u178 u179 u180 u181 u182 u183 u184 u185 u186 u187 u188 u189 u190 u191 u192 u193 u194 u195 u196 u197 u198 u199 u200 u201 u202 : Value} {w w3 : World} {F M : Nat → Prop} {p hd : Nat} {d : DatD} {A1 : Option Addr} {c1 : Nat} {s6 : PS} {hv' : List Sp} {pl' : List Pc} {Q : Exit → Act → World → Prop} {wr : World}
    (T11 : Hid (TkS w w3 F M p hd d A1 c1 (toQ s6 hv' pl') wr)) (M6 : Hid (s6.Mid 32 33))
    (hQ : Hid (∀  (x121 x122 x123 x124 x125 x126 x127 x128 x129 x130 x131 x132 x133 x134 x135 : Value) (wx : World), Hid (TkS w w3 F M p hd d A1 c1 (toQ s6.capM hv' pl') wx) → Q .normal ⟨#[.pointer (some ⟨p, 0, none⟩), u1, u2, u3, u4, u5, u6, u7, .pointer (some ⟨hd, 0, none⟩), u9, u10, u11, u12, u13, u14, u15, u16, u17, u18, u19, u20, u21, u22, u23, u24, u25, u26, u27, u28, u29, u30, u31, u32, u33, u34, u35, u36, u37, u38, u39, u40, u41, u42, u43, u44, u45, u46, u47, u48, u49, u50, u51, u52, u53, u54, u55, u56, u57, u58, u59, u60, u61, u62, u63, u64, u65, u66, u67, u68, u69, u70, u71, u72, u73, u74, u75, u76, u77, u78, u79, u80, u81, u82, u83, u84, u85, u86, u87, u88, u89, u90, u91, u92, u93, u94, u95, u96, u97, u98, u99, u100, u101, u102, u103, u104, u105, u106, u107, u108, u109, u110, u111, u112, u113, u114, u115, u116, u117, u118, u119, u120, x121, x122, x123, x124, x125, x126, x127, x128, x129, x130, x131, x132, x133, x134, x135, u136, u137, u138, u139, u140, u141, u142, u143, u144, u145, u146, u147, u148, u149, u150, u151, u152, u153, u154, u155, u156, u157, u158, u159, u160, u161, u162, u163, u164, u165, u166, u167, u168, u169, u170, u171, u172, u173, u174, u175, u176, u177, u178, u179, u180, u181, u182, u183, u184, u185, u186, u187, u188, u189, u190, u191, u192, u193, u194, u195, u196, u197, u198, u199, u200, u201, u202], []⟩ wx)) :
    Code.wp Try.prog takeL2Code Q ⟨#[.pointer (some ⟨p, 0, none⟩), u1, u2, u3, u4, u5, u6, u7, .pointer (some ⟨hd, 0, none⟩), u9, u10, u11, u12, u13, u14, u15, u16, u17, u18, u19, u20, u21, u22, u23, u24, u25, u26, u27, u28, u29, u30, u31, u32, u33, u34, u35, u36, u37, u38, u39, u40, u41, u42, u43, u44, u45, u46, u47, u48, u49, u50, u51, u52, u53, u54, u55, u56, u57, u58, u59, u60, u61, u62, u63, u64, u65, u66, u67, u68, u69, u70, u71, u72, u73, u74, u75, u76, u77, u78, u79, u80, u81, u82, u83, u84, u85, u86, u87, u88, u89, u90, u91, u92, u93, u94, u95, u96, u97, u98, u99, u100, u101, u102, u103, u104, u105, u106, u107, u108, u109, u110, u111, u112, u113, u114, u115, u116, u117, u118, u119, u120, u121, u122, u123, u124, u125, u126, u127, u128, u129, u130, u131, u132, u133, u134, u135, u136, u137, u138, u139, u140, u141, u142, u143, u144, u145, u146, u147, u148, u149, u150, u151, u152, u153, u154, u155, u156, u157, u158, u159, u160, u161, u162, u163, u164, u165, u166, u167, u168, u169, u170, u171, u172, u173, u174, u175, u176, u177, u178, u179, u180, u181, u182, u183, u184, u185, u186, u187, u188, u189, u190, u191, u192, u193, u194, u195, u196, u197, u198, u199, u200, u201, u202], []⟩ wr := by
  conv => arg 2; whnf
  go_wp2_with fail
  go_loopw [134] (fun _ wr => ∃ x : PS, (x = s6 ∨ (x = s6.capM ∧ ¬ 32 < x.marked.length)) ∧ Hid (TkS w w3 F M p hd d A1 c1 (toQ x hv' pl') wr)) (fun _ wr => lenAt wr p 5)
  case atStart => exact ⟨s6, .inl rfl, T11⟩
  case round =>
    obtain ⟨x, hx, hT⟩ := hrel
    obtain ⟨m9, q9⟩ := hT.out.q
    have Q9 := Lib.hid q9
    have y4 : wr.cell? ⟨p, 5, none⟩ = some (.slice m9.A2 x.marked.length m9.c2) := cell_of_row wr p 5 _ _ _ q9.t
    have hle : lenAt wr p 5 = x.marked.length := by unfold lenAt; rw [y4]
    have HLE := Lib.hid hle
    clear q9 hle
    by_cases h32 : 32 < x.marked.length
    · have hx6 : x = s6 := by
        rcases hx with e | e
        · exact e
        · exact absurd h32 e.2
      subst hx6
      clear hx
      have h33 : decide ((32 : Int) < (x.marked.length : Int)) = true := decide_eq_true (by omega)
      have h34 : decide ((x.marked.length : Int) > 32) = true := h33
      obtain ⟨b9, o9, lo9, hi9, eA9, He9, hc9, -, g1, g2, -, -⟩ := Q9.out.r2.sp (k := 1) (gd_u2 M6.out.gm M6.out.lo.2) (by show 1 < x.marked.length; omega)
      have heq : Hid (x.raise lo9 = x.capM) := Lib.hid (by
        rw [capM_eq h32]
        have h1 : x.marked[1]? = some (lo9, hi9) := by rw [List.getElem?_eq_getElem (by omega)]; exact congrArg some He9.out
        rw [List.getD_eq_getElem?_getD, h1]
        rfl)
      rw [eA9] at y4
      have KR : Hid (Calls Try.prog 33 #[.pointer (some ⟨p, 0, none⟩), .int .u64 lo9] wr fun e w' => e = .returned (.tuple #[]) ∧ TkS w w3 F M p hd d A1 c1 (toQ x.capM hv' pl') w') := Lib.hid (by
        refine (peer_raise_s wr _ M p _ hv' pl' m9 lo9 32 33 Q9.out M6.out (by omega) (by omega) hT.out.hn ⟨g1, g2⟩).mono ?_
        rintro e w' ⟨rfl, hq, hC⟩
        rw [heq.out] at hq
        exact ⟨rfl, hT.out.go hq hC⟩)
      have hcp := Q9.out.r2.cap
      have hcp2 : x.marked.length ≤ m9.c2 := hcp
      clear hcp heq eA9 He9
      go_wp2_with fail
      (with_reducible refine KR.out.mono ?_)
      rintro e w9 ⟨rfl, h9⟩
      have T9 := Lib.hid h9
      clear h9
      go_wp2
      go_roundw
      case rel => exact ⟨x.capM, .inr ⟨rfl, capM_short M6.out⟩, T9⟩
      case measure =>
        obtain ⟨m8, t8⟩ := T9.out.cells
        have u4 : w9.cell? ⟨p, 5, none⟩ = some (.slice m8.A2 x.capM.marked.length m8.c2) := cell_of_row w9 p 5 _ _ _ t8
        have hl9 : lenAt w9 p 5 = x.capM.marked.length := by unfold lenAt; rw [u4]
        rw [hl9, HLE.out]
        have := capM_short M6.out
        omega
    · have h33 : decide ((32 : Int) < (x.marked.length : Int)) = false := decide_eq_false (by omega)
      have h34 : decide ((x.marked.length : Int) > 32) = false := h33
      have TN : Hid (TkS w w3 F M p hd d A1 c1 (toQ s6.capM hv' pl') wr) := Lib.hid (by
        rcases hx with e | e
        · subst e; rw [capM_no h32]; exact hT.out
        · rw [← e.1]; exact hT.out)
      clear hx hT Q9
      go_wp2_with fail
      refine hQ.out  _ _ _ _ _ _ _ _ _ _ _ _ _ _ _ _ ?_
      exact TN

end Go.Proofs.Ytkedfipeebjcjaa

namespace Go.Proofs.Ytkedfipeebjcjaa
open Go.Maps
set_option linter.unusedSimpArgs false
set_option linter.unusedVariables false
set_option linter.unnecessarySimpa false
open Go.RowKit
attribute [local go_sem ↓] run_min_int run_max_int

noncomputable def takeI89Code : Code := (Try.f10.body.bind (pickCode (isIf 89))).getD .skip
set_option maxHeartbeats 64000000 in
set_option maxRecDepth 1000000 in
theorem takeI89 {u1 u2 u3 u4 u5 u6 u7 u9 u11 u12 u13 u14 u15 u16 u17 u18 u19 u20 u21 u22 u23 u24 u25 u26 u27 u28 u29 u30 u31 u32 u33 u34 u35 u36 u37 u38 u39 u40 u41 u42 u43 u44 u45 u46 u47 u48 u49 u50 u51 u52 u53 u54 u55 u56 u57 u58 u59 u60 u61 u62 u63 u64 u65 u66 u67 u68 u69 u70 u71 u72 u73 u74 u75 u76 u77 u78 u79 u80 u81 u82 u83 u84 u85 u86 u87 u88 u90 u91 u92 u93 u94 u95 u96 u97 u98 u99 u100 u101 u102 u103 u104 u105 u106 u107 u108 u109 u110 u111 u112 u113 u114 u115 u116 u117 u118 u119 u120 u121 u122 u123 u124 u125 u126 u127 u128 u129 u130 u131 u132 u133 u134 u135 u136 u137 u138 u139 u140 u141 u142 u143 u144 u145 u146 u147 u148 u149 u150 u151 u152 u153 u154 u155 u156 u157 u158 u159 u160 u161 u162 u163 u164 u165 u166 u167 u168 u169 u170 u171 u172 u173 u174 u175 u176 u177 u178 u179 u180 u181 u182 u183 u184 u185 u186 u187 u188 u189 u190 u191 u192 u193 u194 u195 u196 u197 u198 u199 u200 u201 u202 : Value} {w w3 : World} {F M : Nat → Prop} {p hd : Nat} {d : DatD} {A1 : Option Addr} {c1 : Nat} {s : PS} {hv' : List Sp} {pl' : List Pc} {h10 : Nat} {bx : Bool} {Q : Exit → Act → World → Prop} {wr : World}
    (T9 : Hid (TkS w w3 F M p hd d A1 c1 (({ toQ { s with bytes := s.bytes + d.body.length } hv' pl' with got := addP s.got (d.pn, d.pn) } : PQ).keep d) wr)) (X9 : Hid (wr.heap[h10]? = some (.cells #[.int .u64 d.pn, .int .u64 d.pn] 68 (0, 0)))) (GM : Hid (s.Mid 32 32)) (ISp : Hid (IsSpan (d.pn, d.pn))) (HB : Hid (bx = decide (d.ecn = 3))) (hd0 : 0 ≤ d.pn)
    (hQ : Hid (∀  (x90 x91 x92 x93 x94 x95 x96 x97 x98 x99 x100 x101 : Value) (wx : World), Hid (TkS w w3 F M p hd d A1 c1 (toQ (s.laid d) hv' pl') wx) → Q .normal ⟨#[.pointer (some ⟨p, 0, none⟩), u1, u2, u3, u4, u5, u6, u7, .pointer (some ⟨hd, 0, none⟩), u9, .pointer (some ⟨h10, 0, none⟩), u11, u12, u13, u14, u15, u16, u17, u18, u19, u20, u21, u22, u23, u24, u25, u26, u27, u28, u29, u30, u31, u32, u33, u34, u35, u36, u37, u38, u39, u40, u41, u42, u43, u44, u45, u46, u47, u48, u49, u50, u51, u52, u53, u54, u55, u56, u57, u58, u59, u60, u61, u62, u63, u64, u65, u66, u67, u68, u69, u70, u71, u72, u73, u74, u75, u76, u77, u78, u79, u80, u81, u82, u83, u84, u85, u86, u87, u88, .bool bx, x90, x91, x92, x93, x94, x95, x96, x97, x98, x99, x100, x101, u102, u103, u104, u105, u106, u107, u108, u109, u110, u111, u112, u113, u114, u115, u116, u117, u118, u119, u120, u121, u122, u123, u124, u125, u126, u127, u128, u129, u130, u131, u132, u133, u134, u135, u136, u137, u138, u139, u140, u141, u142, u143, u144, u145, u146, u147, u148, u149, u150, u151, u152, u153, u154, u155, u156, u157, u158, u159, u160, u161, u162, u163, u164, u165, u166, u167, u168, u169, u170, u171, u172, u173, u174, u175, u176, u177, u178, u179, u180, u181, u182, u183, u184, u185, u186, u187, u188, u189, u190, u191, u192, u193, u194, u195, u196, u197, u198, u199, u200, u201, u202], []⟩ wx)) :
    Code.wp Try.prog takeI89Code Q ⟨#[.pointer (some ⟨p, 0, none⟩), u1, u2, u3, u4, u5, u6, u7, .pointer (some ⟨hd, 0, none⟩), u9, .pointer (some ⟨h10, 0, none⟩), u11, u12, u13, u14, u15, u16, u17, u18, u19, u20, u21, u22, u23, u24, u25, u26, u27, u28, u29, u30, u31, u32, u33, u34, u35, u36, u37, u38, u39, u40, u41, u42, u43, u44, u45, u46, u47, u48, u49, u50, u51, u52, u53, u54, u55, u56, u57, u58, u59, u60, u61, u62, u63, u64, u65, u66, u67, u68, u69, u70, u71, u72, u73, u74, u75, u76, u77, u78, u79, u80, u81, u82, u83, u84, u85, u86, u87, u88, .bool bx, u90, u91, u92, u93, u94, u95, u96, u97, u98, u99, u100, u101, u102, u103, u104, u105, u106, u107, u108, u109, u110, u111, u112, u113, u114, u115, u116, u117, u118, u119, u120, u121, u122, u123, u124, u125, u126, u127, u128, u129, u130, u131, u132, u133, u134, u135, u136, u137, u138, u139, u140, u141, u142, u143, u144, u145, u146, u147, u148, u149, u150, u151, u152, u153, u154, u155, u156, u157, u158, u159, u160, u161, u162, u163, u164, u165, u166, u167, u168, u169, u170, u171, u172, u173, u174, u175, u176, u177, u178, u179, u180, u181, u182, u183, u184, u185, u186, u187, u188, u189, u190, u191, u192, u193, u194, u195, u196, u197, u198, u199, u200, u201, u202], []⟩ wr := by
  conv => arg 2; whnf
  have LE := Lib.hid (laid_eq s d hv' pl')
  cases bx
  · have hu : ¬ d.ecn = 3 := by have := HB.out; simpa using this.symm
    rw [if_neg hu] at LE
    clear hu
    go_wp2
    refine hQ.out  _ _ _ _ _ _ _ _ _ _ _ _ _ ?_
    exact Lib.hid (by have := T9.out; rw [← LE.out]; exact this)
  · have hu : d.ecn = 3 := by have := HB.out; simpa using this.symm
    rw [if_pos hu] at LE
    clear hu
    go_upto_region 13 with fail
    refine takeR13 (s := s) T9 rfl X9 GM ISp hd0 (Lib.hid ?_)
    intro  _ _ _ _ _ _ _ _ _ _ _ _ wx TX
    go_wp2
    refine hQ.out  _ _ _ _ _ _ _ _ _ _ _ _ _ ?_
    exact Lib.hid (by have := TX.out.1; rw [LE.out] at this; exact this)

noncomputable def takeR22Code : Code := (Try.f10.body.bind (pickCode (isReg 22))).getD .skip
set_option maxHeartbeats 64000000 in
set_option maxRecDepth 1000000 in
theorem takeR22 {u1 u2 u3 u4 u5 u6 u7 u9 u10 u11 u12 u13 u14 u15 u16 u17 u18 u19 u20 u21 u22 u23 u24 u25 u26 u27 u28 u29 u30 u31 u32 u33 u34 u35 u36 u37 u38 u39 u40 u41 u42 u43 u44 u45 u46 u47 u48 u49 u50 u51 u52 u53 u54 u55 u56 u57 u58 u59 u60 u61 u62 u63 u64 u65 u66 u67 u68 u69 u70 u71 u72 u73 u74 u75 u76 u77 u78 u79 u80 u81 u82 u83 u84 u85 u86 u87 u88 u89 u90 u91 u92 u93 u94 u95 u96 u97 u98 u99 u100 u101 u102 u103 u104 u105 u106 u107 u108 u109 u110 u111 u112 u113 u114 u115 u116 u117 u118 u119 u120 u121 u122 u123 u124 u125 u126 u127 u128 u129 u130 u131 u132 u133 u134 u135 u136 u137 u138 u139 u140 u141 u142 u143 u144 u145 u146 u147 u148 u149 u150 u151 u152 u153 u154 u155 u156 u157 u158 u159 u160 u161 u162 u163 u164 u165 u166 u167 u168 u169 u170 u171 u172 u173 u174 u175 u176 u177 u178 u179 u180 u181 u182 u183 u184 u185 u186 u187 u188 u189 u190 u191 u192 u193 u194 u195 u196 u197 u198 u199 u200 u201 u202 : Value} {w w3 : World} {F M : Nat → Prop} {p hd : Nat} {d : DatD} {A1 : Option Addr} {c1 : Nat} {x9 : PS} {nx : Int} {hv' : List Sp} {pl' : List Pc} {Q : Exit → Act → World → Prop} {wr : World}
    (T17 : Hid (TkS w w3 F M p hd d A1 c1 (toQ x9 hv' pl') wr)) (hnx : Hid (x9.next = nx)) (hd0 : 0 ≤ d.pn ∧ d.pn ≤ 4611686018427387903)
    (hQ : Hid (∀  (x150 x151 x152 x153 x154 x155 x156 x157 x158 x159 x160 : Value) (wx : World), Hid (TkS w w3 F M p hd d A1 c1 (toQ { x9 with next := max nx (d.pn + 1) } hv' pl') wx) → Q .normal ⟨#[.pointer (some ⟨p, 0, none⟩), u1, u2, u3, u4, u5, u6, u7, .pointer (some ⟨hd, 0, none⟩), u9, u10, u11, u12, u13, u14, u15, u16, u17, u18, u19, u20, u21, u22, u23, u24, u25, u26, u27, u28, u29, u30, u31, u32, u33, u34, u35, u36, u37, u38, u39, u40, u41, u42, u43, u44, u45, u46, u47, u48, u49, u50, u51, u52, u53, u54, u55, u56, u57, u58, u59, u60, u61, u62, u63, u64, u65, u66, u67, u68, u69, u70, u71, u72, u73, u74, u75, u76, u77, u78, u79, u80, u81, u82, u83, u84, u85, u86, u87, u88, u89, u90, u91, u92, u93, u94, u95, u96, u97, u98, u99, u100, u101, u102, u103, u104, u105, u106, u107, u108, u109, u110, u111, u112, u113, u114, u115, u116, u117, u118, u119, u120, u121, u122, u123, u124, u125, u126, u127, u128, u129, u130, u131, u132, u133, u134, u135, u136, u137, u138, u139, u140, u141, u142, u143, u144, u145, u146, u147, u148, u149, x150, x151, x152, x153, x154, x155, x156, x157, x158, x159, x160, u161, u162, u163, u164, u165, u166, u167, u168, u169, u170, u171, u172, u173, u174, u175, u176, u177, u178, u179, u180, u181, u182, u183, u184, u185, u186, u187, u188, u189, u190, u191, u192, u193, u194, u195, u196, u197, u198, u199, u200, u201, u202], []⟩ wx)) :
    Code.wp Try.prog takeR22Code Q ⟨#[.pointer (some ⟨p, 0, none⟩), u1, u2, u3, u4, u5, u6, u7, .pointer (some ⟨hd, 0, none⟩), u9, u10, u11, u12, u13, u14, u15, u16, u17, u18, u19, u20, u21, u22, u23, u24, u25, u26, u27, u28, u29, u30, u31, u32, u33, u34, u35, u36, u37, u38, u39, u40, u41, u42, u43, u44, u45, u46, u47, u48, u49, u50, u51, u52, u53, u54, u55, u56, u57, u58, u59, u60, u61, u62, u63, u64, u65, u66, u67, u68, u69, u70, u71, u72, u73, u74, u75, u76, u77, u78, u79, u80, u81, u82, u83, u84, u85, u86, u87, u88, u89, u90, u91, u92, u93, u94, u95, u96, u97, u98, u99, u100, u101, u102, u103, u104, u105, u106, u107, u108, u109, u110, u111, u112, u113, u114, u115, u116, u117, u118, u119, u120, u121, u122, u123, u124, u125, u126, u127, u128, u129, u130, u131, u132, u133, u134, u135, u136, u137, u138, u139, u140, u141, u142, u143, u144, u145, u146, u147, u148, u149, u150, u151, u152, u153, u154, u155, u156, u157, u158, u159, u160, u161, u162, u163, u164, u165, u166, u167, u168, u169, u170, u171, u172, u173, u174, u175, u176, u177, u178, u179, u180, u181, u182, u183, u184, u185, u186, u187, u188, u189, u190, u191, u192, u193, u194, u195, u196, u197, u198, u199, u200, u201, u202], []⟩ wr := by
  conv => arg 2; whnf
  obtain ⟨mA, tA⟩ := T17.out.cells
  have z2 : wr.cell? ⟨p, 2, none⟩ = some (.int .u64 nx) := by rw [← hnx.out]; exact cell_of_row wr p 2 _ _ _ tA
  have fz2 := frozen_of_row wr p 2 _ _ tA
  have x0 : wr.cell? ⟨hd, 0, none⟩ = some (.int .u64 d.pn) := cell_of_row wr hd 0 _ _ _ T17.out.X
  clear tA
  have wpn : IntKind.u64.wrap (d.pn + 1) = d.pn + 1 := IntWalk.u64_in _ (by omega)
  refine wp_region_noPanic ?_
  go_region
  all_goals go_wp2_with fail
  all_goals refine NoPanic.normal ?_
  all_goals
    refine hQ.out  _ _ _ _ _ _ _ _ _ _ _ _ ?_
    exact Lib.hid ((T17.out.below (Below.refl _ _).drew).put _ (fun _ => rfl) rfl rfl rfl rfl rfl rfl)

set_option maxHeartbeats 8000000 in
set_option maxRecDepth 1000000 in
theorem peer_take (w : World) (F M : Nat → Prop) (p : Nat) (s : PS) (A : Option Addr) (c : Nat) (l : List Int) (now : Int) (h : PeP w F M p s) (hr : Rd w 1 A l.length c (U8 l)) (hb : ∀ x ∈ l, 0 ≤ x ∧ x ≤ 255) (hl : l.length ≤ 70368744177664) (hnow : isU64 now) (hfew : s.s.length < 600000) :
    Calls Try.prog 10 #[.pointer (some ⟨p, 0, none⟩), .slice A l.length c, .int .u64 now] w fun e w' => TellVal (s.takeB l now).2 w w' e ∧ PeP w' (Grow F w) M p (s.takeB l now).1 ∧ Chg F w w' := by
  have H := Lib.hid h
  have KD := Lib.hid (head_decode w A c l hr hb hl)
  have HB := Lib.hid hb
  clear h hr hb
  go_enter Try.func10, Try.ntmps10
  go_wp2_with fail
  refine KD.out.mono ?_
  rintro e w1 hv
  unfold DatVal at hv
  clear KD
  cases hp : datP l with
  | error er =>
    rw [hp] at hv
    --<ERR
    obtain ⟨rfl, b1⟩ := hv
    have he := datP_err hp
    have HT : Hid (s.takeB l now = (s, none)) := Lib.hid (by unfold PS.takeB; rw [hp])
    have B2 := Lib.hid (b1.trans ((box_below w1 (.cells zDat 30)).mono b1.size))
    clear b1 hp
    have hz : zDat = #[.int .u64 0, .int .u64 0, .int .u64 0, .int .u64 0, .int .i64 0, .slice none 0 0] := rfl
    rw [hz] at B2 ⊢
    clear hz
    go_upto_region 4 with fail
    refine wp_region_qt (by kernel_rfl) (by kernel_rfl) ?_
    repeat (go_big_quiet_step (fail))
    refine wpQuiet_nil ?_
    intro w3 q3
    go_wp2
    go_ret2
    rw [HT.out]
    exact ⟨rfl, (H.out.below (B2.out.trans q3.below)).sub (fun k _ e => .inl e) (fun k _ e => .inr e), (chg_below B2.out).qt q3⟩
    --ERR>
  | ok d =>
    rw [hp] at hv
    obtain ⟨A1, c1, rfl, r1, b1, n1⟩ := hv
    have DK := Lib.hid (datP_ok hp HB.out)
    have HT : Hid (s.takeB l now = s.take d now) := Lib.hid (by unfold PS.takeB; rw [hp])
    have EX : d.cells A1 d.body.length c1 = #[.int .u64 d.pn, .int .u64 d.least, .int .u64 d.off, .int .u64 d.nonce, .int .i64 d.ecn, .slice A1 d.body.length c1] := rfl
    rw [EX]
    have e2 := box_below w1 (.cells #[.int .u64 d.pn, .int .u64 d.least, .int .u64 d.off, .int .u64 d.nonce, .int .i64 d.ecn, .slice A1 d.body.length c1] 30)
    have X2 := Lib.hid (heap_alloc_new w1 (.cells #[.int .u64 d.pn, .int .u64 d.least, .int .u64 d.off, .int .u64 d.nonce, .int .i64 d.ecn, .slice A1 d.body.length c1] 30))
    have B2 := Lib.hid (b1.trans (e2.mono b1.size))
    have R2 := Lib.hid (r1.below e2)
    have N1 := Lib.hid n1
    have hgd : w.heap.size ≤ w1.heap.size := b1.size
    clear EX e2 r1 b1 n1 hp
    have hd0 := DK.out.le
    have hd1 := DK.out.pn
    have hd2 := DK.out.len
    go_upto_region 4 with fail
    generalize (w1.alloc (.cells #[.int .u64 d.pn, .int .u64 d.least, .int .u64 d.off, .int .u64 d.nonce, .int .i64 d.ecn, .slice A1 d.body.length c1] 30)) = w2 at *
    generalize w1.heap.size = hd at *
    have H2 := Lib.hid (H.out.below B2.out)
    obtain ⟨hv, pl, m, h0, h2⟩ := H.out.ex
    have h1 := h0.below B2.out
    have QW := Lib.hid h0
    have Q2 := Lib.hid h1
    have QH := Lib.hid h2
    clear h0
    have y1 : w2.cell? ⟨p, 1, none⟩ = some (.int .u64 s.floor) := cell_of_row w2 p 1 _ _ _ h1.t
    have y4 : w2.cell? ⟨p, 4, none⟩ = some (.slice m.A1 s.got.length m.c1) := cell_of_row w2 p 4 _ _ _ h1.t
    have x0 := cell_of_row w2 hd 0 _ _ _ X2.out
    clear h1 h2
    by_cases hpf : d.pn < s.floor
    · have d1 : decide (d.pn < s.floor) = true := decide_eq_true hpf
      have HT2 : Hid (s.takeB l now = (s, none)) := Lib.hid (by rw [HT.out]; exact if_pos (.inl hpf))
      clear hpf
      refine wp_region_qt (by kernel_rfl) (by kernel_rfl) ?_
      repeat (go_big_quiet_step (fail))
      refine wpQuiet_nil ?_
      intro w3 q3
      go_wp2
      go_ret2
      rw [HT2.out]
      exact ⟨rfl, (H2.out.below q3.below).sub (fun k _ e => .inl e) (fun k _ e => .inr e), (chg_below B2.out).qt q3⟩
    · have d1 : decide (d.pn < s.floor) = false := decide_eq_false hpf
      have KH := Lib.hid (fun (W : World) (q : Below w2.heap.size w2 W) => has_yes m.A1 s.got.length m.c1 s.got d.pn W (Q2.out.r1.below q) (gd_u2 H.out.good.mid.gd H.out.good.mid.lo.1) H.out.good.mid.gd.good (by omega) (by omega))
      have m1 := mixc y1
      have m4 := mixc y4
      have m0 := mixc x0
      refine wp_region_below (by kernel_rfl) (by kernel_rfl) ?_
      repeat (first | go_big_quiet_step ((go_at_call 29; (with_reducible exact Calls.mix_of (KH.out _ (mix_below _ _))))) | quiet_step ((go_at_call 29; (with_reducible exact Calls.mix_of (KH.out _ (mix_below _ _))))))
      refine wpQuiet_nil ?_
      intro w3 b3
      clear m1 m4 m0 KH y1 y4 x0
      have B3 := Lib.hid (B2.out.trans (b3.mono B2.out.size))
      have X3 := Lib.hid ((b3.block _ (lt_of_block X2.out)).trans X2.out)
      have R3 := Lib.hid (R2.out.below b3)
      have Q3 := Lib.hid (Q2.out.below b3)
      have lx3 : hd < w3.heap.size := lt_of_block X3.out
      clear b3 B2 X2 R2 Q2 H2
      cases hh : hasP s.got d.pn with
      | true =>
        have HT2 : Hid (s.takeB l now = (s, none)) := Lib.hid (by rw [HT.out]; exact if_pos (.inr hh))
        clear hh hpf
        go_wp2
        go_ret2
        rw [HT2.out]
        exact ⟨rfl, (H.out.below B3.out).sub (fun k _ e => .inl e) (fun k _ e => .inr e), chg_below B3.out⟩
      | false =>
        have MD := Lib.hid (H.out.good.mid.laid DK.out (by omega) hpf (by rw [hh]; exact Bool.false_ne_true))
        have KN := Lib.hid (H.out.good.mid.kept_ne DK.out (by omega) hpf (by rw [hh]; exact Bool.false_ne_true))
        have MK := Lib.hid (H.out.good.mid.kept DK.out (by omega) hpf (by rw [hh]; exact Bool.false_ne_true))
        have HG := Lib.hid (H.out.good.take DK.out now hnow.1)
        have HW := Lib.hid (H.out.good.waits H.out.wt DK.out now)
        have HC0 : Hid (¬ (d.pn < s.floor ∨ hasP s.got d.pn = true)) := Lib.hid (by rw [hh]; simp; omega)
        clear hh hpf d1
        have T3 : Hid (TkS w w3 F M p hd d A1 c1 (toQ s hv pl) w3) := Lib.hid ⟨⟨m, (QW.out.chg (F' := TkF w w3 F) (M' := M) (Chg.refl (fun _ => False) w) (fun _ _ _ h => h) (fun k hk e => .inl ⟨e, hk⟩) (fun k _ e => .inr e)).below B3.out⟩, X3.out, Chg.refl _ _, hgd, lx3, H.out.lt⟩
        have HA1 : Hid (∀ b off, A1 = some ⟨b, off, none⟩ → 0 < d.body.length → b ≠ p ∧ m.v.ownBlock ≠ some b) := Lib.hid (fun b off e hn => by
          have h1 := N1.out b off e hn
          have h2 := H.out.lt
          exact ⟨by omega, fun e2 => by have := (QW.out.o.lt b e2).2; omega⟩)
        have hbt := H.out.byt
        have wbt : IntKind.u64.wrap (d.body.length : Int) = d.body.length := IntWalk.u64_in _ (by omega)
        have wbt2 : IntKind.u64.wrap (s.bytes + (d.body.length : Int)) = s.bytes + d.body.length := IntWalk.u64_in _ (by omega)
        clear Q3 QW
        go_upto_region 6 with fail
        refine takeR6 T3 H.out.byt hfew hd2.2 (Lib.hid ?_)
        intro  _ _ _ _ _ _ _ _ _ _ _ wc T4
        have hs4 := T4.out.1.size
        have KL : Hid (Calls Try.prog 30 #[.pointer (some ⟨p, 0, none⟩), .agg #[.int .u64 d.pn, .int .u64 d.least, .int .u64 d.off, .int .u64 d.nonce, .int .i64 d.ecn, .slice A1 d.body.length c1]] wc fun e w' => e = .returned (.tuple #[]) ∧
            (∃ hv' pl', TkS w w3 F M p hd d A1 c1 (toQ { s with bytes := s.bytes + d.body.length } hv' pl') w' ∧ PS.PcOk (s.s ++ [(d.off, d.body)]) hv' (pl'.map Pc.pure) ∧ U2s hv' ∧ hv'.length ≤ s.s.length + 1 ∧ pl'.length ≤ 1500 * (s.s.length + 1) ∧ ∀ x ∈ pl', x.b.length ≤ 1500)) := Lib.hid (by
          obtain ⟨m4, q4⟩ := T4.out.1.q
          have hb4 : ∀ b off, A1 = some ⟨b, off, none⟩ → 0 < d.body.length → b ≠ p ∧ m4.v.ownBlock ≠ some b := fun b off e hn => ⟨(HA1.out b off e hn).1, fun e2 => by
            have g1 := (q4.fo b e2).1
            have g2 := N1.out b off e hn
            have g3 := R3.out.lt (by omega) hn b off e
            rcases g1 with g1 | g1 <;> omega⟩
          refine (peer_lay_s wc (TkF w w3 F) M p s hv pl m4 d A1 c1 q4 T4.out.1.hn DK.out (R3.out.chg T4.out.2 (fun b off e hn hh => (HA1.out b off e hn).1 hh)) hb4 QH.out.1 QH.out.2.1 QH.out.2.2.1 QH.out.2.2.2.1 QH.out.2.2.2.2 hfew).mono ?_
          rintro e w' ⟨rfl, ⟨m', hv', pl', hP, hok⟩, hC⟩
          exact ⟨rfl, hv', pl', T4.out.1.go ⟨m', hP⟩ hC, hok⟩)
        have tt := T4.out.1.X
        have x0 := cell_of_row wc hd 0 _ _ _ tt
        have fx0 := frozen_of_row wc hd 0 _ _ tt
        have x1 := cell_of_row wc hd 1 _ _ _ tt
        have fx1 := frozen_of_row wc hd 1 _ _ tt
        have x2 := cell_of_row wc hd 2 _ _ _ tt
        have fx2 := frozen_of_row wc hd 2 _ _ tt
        have x3 := cell_of_row wc hd 3 _ _ _ tt
        have fx3 := frozen_of_row wc hd 3 _ _ tt
        have x4 := cell_of_row wc hd 4 _ _ _ tt
        have fx4 := frozen_of_row wc hd 4 _ _ tt
        have x5 := cell_of_row wc hd 5 _ _ _ tt
        have fx5 := frozen_of_row wc hd 5 _ _ tt
        clear tt
        go_wp2_with fail
        (with_reducible refine KL.out.mono ?_)
        rintro e w5 ⟨rfl, hv', pl', h5, ok5⟩
        have T5 := Lib.hid h5
        have OK5 := Lib.hid ok5
        clear KL T4 h5 ok5 x0 x1 x2 x3 x4 x5 fx0 fx1 fx2 fx3 fx4 fx5 QH HA1 R3 T3 X3 hs4 hbt wbt wbt2
        have tt := T5.out.X
        have x0 := cell_of_row w5 hd 0 _ _ _ tt
        clear tt
        go_upto_region 9 with fail
        clear x0
        have e6 := box_below w5 (.cells #[.int .u64 d.pn, .int .u64 d.pn] 68)
        have T6 := Lib.hid (T5.out.below e6)
        have X6 := Lib.hid (heap_alloc_new w5 (.cells #[.int .u64 d.pn, .int .u64 d.pn] 68))
        have ISp : Hid (IsSpan (d.pn, d.pn)) := Lib.hid ⟨Int.le_refl _, by rw [maxPn_eq]; exact hd1⟩
        clear e6 T5
        generalize (w5.alloc (.cells #[.int .u64 d.pn, .int .u64 d.pn] 68)) = w6 at *
        generalize w5.heap.size = h10 at *
        have GM := Lib.hid H.out.good.mid
        have hfg := H.out.good.few
        refine takeR9 (s := s) (Q0 := toQ { s with bytes := s.bytes + d.body.length } hv' pl') T6 rfl X6 GM ISp (by omega) (Lib.hid ?_)
        intro  _ _ _ _ _ _ _ _ _ _ _ _ w7 TX7
        have T7 := Lib.hid TX7.out.1
        have X7 := Lib.hid TX7.out.2
        clear T6 X6 TX7
        obtain ⟨cb, hcb⟩ : ∃ cb, cb = decide (d.ecn = 1) := ⟨_, rfl⟩
        obtain ⟨um, hum⟩ : ∃ um, um = decide (d.ecn = 1 ∨ d.ecn = 2) := ⟨_, rfl⟩
        have CO := Lib.hid (coin_any d.ecn w7)
        rw [← hcb, ← hum] at CO
        have HCB := Lib.hid hcb
        have HUM : Hid (um = !decide (d.ecn = 3)) := Lib.hid (by
          have := DK.out.ecn
          rw [hum]
          by_cases h3 : d.ecn = 3
          · simp [h3]
          · have : d.ecn = 1 ∨ d.ecn = 2 := by omega
            simp [h3, this])
        clear hcb hum
        have tt := T7.out.X
        have x4 := cell_of_row w7 hd 4 _ _ _ tt
        clear tt
        go_wp2_with fail
        (with_reducible refine CO.out.mono ?_)
        rintro e w8 ⟨rfl, rfl⟩
        clear CO x4
        go_upto_region 11 with fail
        refine takeR11 (s := s) (Q0 := { toQ { s with bytes := s.bytes + d.body.length } hv' pl' with got := addP s.got (d.pn, d.pn) }) T7 rfl rfl X7 GM HC0 HCB ⟨by omega, hd1⟩ hfew (Lib.hid ?_)
        intro  _ _ _ _ _ _ _ _ _ _ w9 TX9
        have T9 := Lib.hid TX9.out.1
        have X9 := Lib.hid TX9.out.2
        clear T7 X7 HCB TX9
        go_upto_if 89 with fail
        refine takeI89 (s := s) (hv' := hv') (pl' := pl') T9 X9 GM ISp (Lib.hid (by rw [HUM.out]; simp)) (by omega) (Lib.hid ?_)
        intro  _ _ _ _ _ _ _ _ _ _ _ _ w10 T10
        clear T9 X9 ISp GM
        have KR : Hid (Calls Try.prog 33 #[.pointer (some ⟨p, 0, none⟩), .int .u64 d.least] w10 fun e w' => e = .returned (.tuple #[]) ∧ TkS w w3 F M p hd d A1 c1 (toQ ((s.laid d).raise d.least) hv' pl') w') := Lib.hid (by
          obtain ⟨m9, q9⟩ := T10.out.q
          refine (peer_raise_s w10 _ M p _ hv' pl' m9 d.least 33 33 q9 MD.out (by omega) (by omega) T10.out.hn ⟨by omega, by omega⟩).mono ?_
          rintro e w' ⟨rfl, hq, hC⟩
          exact ⟨rfl, T10.out.go hq hC⟩)
        have M6 := Lib.hid (MD.out.raise (t := d.least) (by rw [maxPn_eq]; omega))
        have tt := T10.out.X
        have x1 := cell_of_row w10 hd 1 _ _ _ tt
        clear tt
        go_wp2_with fail
        (with_reducible refine KR.out.mono ?_)
        rintro e w11 ⟨rfl, h11⟩
        have T11 := Lib.hid h11
        clear h11 KR x1 T10
        have HS6 : Hid (s.kept d = ((((s.laid d).raise d.least).capG).capM)) := Lib.hid rfl
        obtain ⟨s6, hs6⟩ : ∃ x, x = (s.laid d).raise d.least := ⟨_, rfl⟩
        rw [← hs6] at M6 T11 HS6
        have E6 := Lib.hid hs6
        clear hs6
        go_upto_block 0 with fail
        refine takeL1 T11 M6 (Lib.hid ?_)
        intro  _ _ _ _ _ _ _ _ _ _ _ _ _ _ _ w12 T12
        have M7 := Lib.hid M6.out.capG
        obtain ⟨s7, hs7⟩ : ∃ x, x = s6.capG := ⟨_, rfl⟩
        rw [← hs7] at M7 T12 HS6
        clear hs7
        go_upto_block 2 with fail
        refine takeL2 T12 M7 (Lib.hid ?_)
        intro  _ _ _ _ _ _ _ _ _ _ _ _ _ _ _ w13 T14
        obtain ⟨x9, hx9⟩ : ∃ x, x = s.kept d := ⟨_, rfl⟩
        have T15 : Hid (TkS w w3 F M p hd d A1 c1 (toQ x9 hv' pl') w13) := Lib.hid (by have := T14.out; rw [hx9, HS6.out]; exact this)
        have KS := Lib.hid (kept_same s d)
        rw [← hx9] at KS MK KN
        have HX9 := Lib.hid hx9
        have TK : Hid (s.take d now = if d.pn < x9.floor then (x9, none) else
            if 2 ≤ s.waits + 1 ∨ d.ecn = 3 ∨ d.pn ≠ s.next then
              (({ x9 with next := max s.next (d.pn + 1), waits := s.waits + 1, trigger := d.nonce } : PS).still, some ({ x9 with next := max s.next (d.pn + 1), waits := s.waits + 1, trigger := d.nonce } : PS).told)
            else ({ x9 with next := max s.next (d.pn + 1), waits := s.waits + 1, trigger := d.nonce, due := min (now + s.delay) 18446744073709551615 }, none)) := Lib.hid (by
          rw [hx9]
          exact if_neg HC0.out)
        have BY := Lib.hid H.out.byt
        have WT := Lib.hid H.out.good.wt
        have NUM := Lib.hid H.out.good.num
        clear hx9 T14 M7 M6 E6 HS6 HC0 HB N1 lx3 hgd hfg
        go_upto_region 19 with fail
        obtain ⟨mA, tA⟩ := T15.out.cells
        have z1 : w13.cell? ⟨p, 1, none⟩ = some (.int .u64 x9.floor) := cell_of_row w13 p 1 _ _ _ tA
        have x0 : w13.cell? ⟨hd, 0, none⟩ = some (.int .u64 d.pn) := cell_of_row w13 hd 0 _ _ _ T15.out.X
        clear tA
        by_cases hlow : d.pn < x9.floor
        · have b1 : decide (d.pn < x9.floor) = true := decide_eq_true hlow
          have HT2 : Hid (s.takeB l now = (x9, none)) := Lib.hid (by rw [HT.out, TK.out]; exact if_pos hlow)
          clear hlow
          refine wp_region_qt (by kernel_rfl) (by kernel_rfl) ?_
          repeat (go_big_quiet_step (fail))
          refine wpQuiet_nil ?_
          intro w14 q14
          go_wp2
          go_ret2
          have hg := HG.out
          have hw := HW.out
          rw [← HT.out, HT2.out] at hg hw
          have FN := (T15.out.below q14.below).fin B3.out hg hw KS.out.2.2.2.2.1 KS.out.2.2.2.2.2 BY.out hd2.2 hfew OK5.out
          rw [HT2.out]
          exact ⟨rfl, FN.1, FN.2⟩
        · have b1 : decide (d.pn < x9.floor) = false := decide_eq_false hlow
          have TK2 := Lib.hid (TK.out.trans (if_neg hlow))
          clear hlow TK
          refine wp_region_qt (by kernel_rfl) (by kernel_rfl) ?_
          repeat (go_big_quiet_step (fail))
          refine wpQuiet_nil ?_
          intro w14 q14
          have T16 := Lib.hid (T15.out.below q14.below)
          clear q14 T15 z1 x0
          go_upto_region 21 with fail
          clear b1
          obtain ⟨mA, tA⟩ := T16.out.cells
          have z2 : w14.cell? ⟨p, 2, none⟩ = some (.int .u64 s.next) := by rw [← KS.out.2.1]; exact cell_of_row w14 p 2 _ _ _ tA
          have x0 : w14.cell? ⟨hd, 0, none⟩ = some (.int .u64 d.pn) := cell_of_row w14 hd 0 _ _ _ T16.out.X
          clear tA
          obtain ⟨od, hod⟩ : ∃ od, od = (d.pn != s.next) := ⟨_, rfl⟩
          have HOD := Lib.hid hod
          refine wp_region_qt (by kernel_rfl) (by kernel_rfl) ?_
          repeat (go_big_quiet_step (fail))
          refine wpQuiet_nil ?_
          intro w15 q15
          rw [← hod]
          clear hod
          have T17 := Lib.hid (T16.out.below q15.below)
          clear q15 T16 z2 x0
          go_upto_region 22 with fail
          refine takeR22 (nx := s.next) T17 (Lib.hid KS.out.2.1) ⟨by omega, hd1⟩ (Lib.hid ?_)
          intro  _ _ _ _ _ _ _ _ _ _ _ w16 T18
          clear T17
          obtain ⟨mA, tA⟩ := T18.out.cells
          have z7 : w16.cell? ⟨p, 7, none⟩ = some (.int .i64 s.waits) := by rw [← KS.out.2.2.1]; exact cell_of_row w16 p 7 _ _ _ tA
          have fz7 := frozen_of_row w16 p 7 _ _ tA
          have z8 := cell_of_row w16 p 8 _ _ _ tA
          have fz8 := frozen_of_row w16 p 8 _ _ tA
          have x3 : w16.cell? ⟨hd, 3, none⟩ = some (.int .u64 d.nonce) := cell_of_row w16 hd 3 _ _ _ T18.out.X
          have nhp : hd ≠ p := fun e => by have := T18.out.X; rw [e, tA] at this; simp at this
          have nph : p ≠ hd := fun e => nhp e.symm
          clear tA
          have hw01 : s.waits = 0 ∨ s.waits = 1 := by rcases WT.out with e | e; exact .inl e.1; exact .inr e
          have ww : IntKind.i64.wrap (s.waits + 1) = s.waits + 1 := by simp [IntKind.wrap, IntKind.bits, IntKind.signed]; omega
          have T20 : Hid (TkS w w3 F M p hd d A1 c1 (toQ { x9 with next := max s.next (d.pn + 1), waits := s.waits + 1, trigger := d.nonce } hv' pl') ((w16.setCell ⟨p, 7, none⟩ (.int .i64 (s.waits + 1))).setCell ⟨p, 8, none⟩ (.int .u64 d.nonce))) := Lib.hid (by
            have t1 : TkS w w3 F M p hd d A1 c1 (toQ { x9 with next := max s.next (d.pn + 1), waits := s.waits + 1 } hv' pl') (w16.setCell ⟨p, 7, none⟩ (.int .i64 (s.waits + 1))) := T18.out.put _ (fun _ => rfl) rfl rfl rfl rfl rfl rfl
            exact t1.put _ (fun _ => rfl) rfl rfl rfl rfl rfl rfl)
          clear hw01
          go_upto_region 25 with fail
          clear z7 fz7 z8 fz8 x3 ww T18 nhp nph
          generalize ((w16.setCell ⟨p, 7, none⟩ (.int .i64 (s.waits + 1))).setCell ⟨p, 8, none⟩ (.int .u64 d.nonce)) = w17 at *
          obtain ⟨mA, tA⟩ := T20.out.cells
          have z7 : w17.cell? ⟨p, 7, none⟩ = some (.int .i64 (s.waits + 1)) := cell_of_row w17 p 7 _ _ _ tA
          clear tA
          go_cut [0, 2, 184] (fun s0 s2 s184 wx => s0 = .pointer (some ⟨p, 0, none⟩) ∧ s2 = .int .u64 now ∧ s184 = .bool (decide (2 ≤ s.waits + 1 ∨ d.ecn = 3 ∨ d.pn ≠ s.next)) ∧ wx = w17)
          case first =>
            have hum := HUM.out
            have hod := HOD.out
            by_cases q1 : 2 ≤ s.waits + 1
            · have d1 : decide (2 ≤ s.waits + 1) = true := decide_eq_true q1
              have d2 : decide (s.waits + 1 ≥ 2) = true := d1
              have R := Lib.hid (decide_eq_true (show 2 ≤ s.waits + 1 ∨ d.ecn = 3 ∨ d.pn ≠ s.next from .inl q1))
              clear q1 hum hod
              go_wp2
              go_meet
              exact ⟨rfl, rfl, by rw [R.out], rfl⟩
            · have d1 : decide (2 ≤ s.waits + 1) = false := decide_eq_false q1
              have d2 : decide (s.waits + 1 ≥ 2) = false := d1
              cases um
              · have R := Lib.hid (decide_eq_true (show 2 ≤ s.waits + 1 ∨ d.ecn = 3 ∨ d.pn ≠ s.next from .inr (.inl (by simpa using hum))))
                clear q1 hum hod
                go_wp2
                go_meet
                exact ⟨rfl, rfl, by rw [R.out], rfl⟩
              · have h3 : ¬ d.ecn = 3 := by simpa using hum
                cases od
                · have R := Lib.hid (decide_eq_false (show ¬ (2 ≤ s.waits + 1 ∨ d.ecn = 3 ∨ d.pn ≠ s.next) from fun e => by
                    rcases e with e | e | e
                    · exact q1 e
                    · exact h3 e
                    · have : d.pn = s.next := by simpa using hod.symm
                      exact e this))
                  clear q1 hum hod h3
                  go_wp2
                  go_meet
                  exact ⟨rfl, rfl, by rw [R.out], rfl⟩
                · have R := Lib.hid (decide_eq_true (show 2 ≤ s.waits + 1 ∨ d.ecn = 3 ∨ d.pn ≠ s.next from .inr (.inr (by simpa using hod.symm))))
                  clear q1 hum hod h3
                  go_wp2
                  go_meet
                  exact ⟨rfl, rfl, by rw [R.out], rfl⟩
          case rest =>
            obtain ⟨rfl, rfl, rfl, rfl⟩ := hcut
            clear HUM HOD z7
            by_cases hT : 2 ≤ s.waits + 1 ∨ d.ecn = 3 ∨ d.pn ≠ s.next
            · rw [decide_eq_true hT]
              have HT3 := Lib.hid (HT.out.trans (TK2.out.trans (if_pos hT)))
              clear hT TK2
              obtain ⟨x8, hx8⟩ : ∃ x, x = ({ x9 with next := max s.next (d.pn + 1), waits := s.waits + 1, trigger := d.nonce } : PS) := ⟨_, rfl⟩
              have M9 : Hid (x8.Mid 32 32) := Lib.hid (by rw [hx8]; exact ⟨MK.out.pn, MK.out.own, MK.out.few, MK.out.fl⟩)
              have K9 : Hid (x8.l ≠ []) := Lib.hid (by rw [hx8]; exact KN.out)
              have N9 : Hid (isU64 x8.trigger) := Lib.hid (by rw [hx8]; exact DK.out.nonce)
              have S9 : Hid (x8.still.s = s.s ++ [(d.off, d.body)] ∧ x8.still.bytes = s.bytes + d.body.length) := Lib.hid (by rw [hx8]; exact ⟨KS.out.2.2.2.2.1, KS.out.2.2.2.2.2⟩)
              rw [← hx8] at T20 HT3
              clear hx8
              have KT : Hid (Calls Try.prog 34 #[.pointer (some ⟨p, 0, none⟩)] wc fun e w' => ∃ A c, e = .returned (.tuple #[.slice A (putAckP x8.told).length c, .bool true]) ∧ Rd w' 1 A (putAckP x8.told).length c (U8 (putAckP x8.told)) ∧ (∀ b off, A = some ⟨b, off, none⟩ → 0 < (putAckP x8.told).length → wc.heap.size ≤ b) ∧
                  TkS w w3 F M p hd d A1 c1 (toQ x8.still hv' pl') w') := Lib.hid (by
                obtain ⟨m9, q9⟩ := T20.out.q
                refine (peer_tell wc _ M p _ m9 q9 (Mid.tells M9.out K9.out N9.out hv' pl')).mono ?_
                rintro e w' ⟨A, c, rfl, r1, r2, r3, r4⟩
                exact ⟨A, c, rfl, r1, r2, T20.out.go ⟨m9, r3⟩ (r4.mono fun k _ e => by subst e; exact T20.out.fp)⟩)
              go_wp2_with fail
              (with_reducible refine KT.out.mono ?_)
              rintro e w18 ⟨A', c', rfl, r1, r2, r3⟩
              have RR := Lib.hid (And.intro r1 (And.intro r2 r3))
              clear r1 r2 r3
              go_wp2
              go_ret2
              have hg := HG.out
              have hw := HW.out
              rw [← HT.out, HT3.out] at hg hw
              have FN := RR.out.2.2.fin B3.out hg hw S9.out.1 S9.out.2 BY.out hd2.2 hfew OK5.out
              rw [HT3.out]
              have hsz := B3.out.size
              have hsz2 := T20.out.size
              exact ⟨⟨A', c', rfl, RR.out.1, fun b off e hn => by have := RR.out.2.1 b off e hn; omega⟩, FN.1, FN.2⟩
            · rw [decide_eq_false hT]
              have HT3 := Lib.hid (HT.out.trans (TK2.out.trans (if_neg hT)))
              have hdue : s.due = 18446744073709551615 := by
                rcases WT.out with e | e
                · exact e.2
                · exact absurd (.inl (by omega)) hT
              obtain ⟨mA, tA⟩ := T20.out.cells
              have z9 : wc.cell? ⟨p, 9, none⟩ = some (.int .u64 18446744073709551615) := by rw [← hdue, ← KS.out.2.2.2.1]; exact cell_of_row wc p 9 _ _ _ tA
              have fz9 := frozen_of_row wc p 9 _ _ tA
              have z0 : wc.cell? ⟨p, 0, none⟩ = some (.int .u64 s.delay) := by rw [← KS.out.1]; exact cell_of_row wc p 0 _ _ _ tA
              clear hT TK2 hdue tA
              have KA := Lib.hid (clk_after now s.delay wc hnow NUM.out.1)
              have S9 : Hid (({ x9 with next := max s.next (d.pn + 1), waits := s.waits + 1, trigger := d.nonce, due := min (now + s.delay) 18446744073709551615 } : PS).s = s.s ++ [(d.off, d.body)] ∧ ({ x9 with next := max s.next (d.pn + 1), waits := s.waits + 1, trigger := d.nonce, due := min (now + s.delay) 18446744073709551615 } : PS).bytes = s.bytes + d.body.length) := Lib.hid ⟨KS.out.2.2.2.2.1, KS.out.2.2.2.2.2⟩
              go_wp2_with fail
              refine KA.out.mono ?_
              rintro e w18 ⟨rfl, n18, rfl⟩
              have hsa : sadd now s.delay = min (now + s.delay) 18446744073709551615 := rfl
              rw [hsa]
              clear hsa
              have T22 : Hid (TkS w w3 F M p hd d A1 c1 (toQ { x9 with next := max s.next (d.pn + 1), waits := s.waits + 1, trigger := d.nonce, due := min (now + s.delay) 18446744073709551615 } hv' pl') ((wc.drewN n18).setCell ⟨p, 9, none⟩ (.int .u64 (min (now + s.delay) 18446744073709551615)))) := Lib.hid ((T20.out.below (below_drewN (Below.refl _ _) n18)).put _ (fun _ => rfl) rfl rfl rfl rfl rfl rfl)
              generalize min (now + s.delay) 18446744073709551615 = nd at *
              go_wp2
              go_ret2
              have hg := HG.out
              have hw := HW.out
              rw [← HT.out, HT3.out] at hg hw
              have FN := T22.out.fin B3.out hg hw S9.out.1 S9.out.2 BY.out hd2.2 hfew OK5.out
              rw [HT3.out]
              exact ⟨rfl, FN.1, FN.2⟩


end Go.Proofs.Ytkedfipeebjcjaa

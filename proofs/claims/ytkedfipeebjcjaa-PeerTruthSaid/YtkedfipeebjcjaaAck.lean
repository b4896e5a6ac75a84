/-
  ack.May and the reference's MayAck: one and the same test of an acknowledgment.
-/
import Derived.Test.YtkedfipeebjcjaaTri
import Derived.Test.YtkedfipeebjcjaaLedR
namespace Go.Proofs.Ytkedfipeebjcjaa
set_option linter.unusedSimpArgs false
set_option linter.unusedVariables false
set_option linter.unnecessarySimpa false
open Go.RowKit

/-- An acknowledgment: where its two lists lie, what they hold, the other fields. -/
structure Ak where
  A : Option Addr
  c : Nat
  B : Option Addr
  d : Nat
  sp : List Sp
  mm : List Sp
  tr : Int
  xo : Int
  od : Bool
def Ak.cells (a : Ak) : Array Value := #[.slice a.A a.sp.length a.c, .slice a.B a.mm.length a.d, .int .u64 a.tr, .int .u64 a.xo, .bool a.od]
def Ak.val (a : Ak) : Value := .agg a.cells
structure AkR (w : World) (a : Ak) : Prop where
  rs : Rd w 2 a.A a.sp.length a.c (Ss a.sp)
  rm : Rd w 2 a.B a.mm.length a.d (Ss a.mm)
  us : U2s a.sp
  um : U2s a.mm
  ut : isU64 a.tr
  ux : isU64 a.xo
theorem AkR.below {w w' : World} {a : Ak} (h : AkR w a) (b : Below w.heap.size w w') : AkR w' a := ⟨h.rs.below b, h.rm.below b, h.us, h.um, h.ut, h.ux⟩
structure AkBox (w : World) (a : Ak) (g : Nat) (wr : World) : Prop where
  r : AkR wr a
  t : wr.heap[g]? = some (.cells a.cells 48 (0, 0))
  bel : Below w.heap.size w wr
theorem AkBox.below {w wr wr' : World} {a : Ak} {g : Nat} (h : AkBox w a g wr) (b : Below wr.heap.size wr wr') : AkBox w a g wr' :=
  ⟨h.r.below b, (b.block _ (lt_of_block h.t)).trans h.t, h.bel.trans (b.mono h.bel.size)⟩
theorem AkBox.of {w w1 : World} {a : Ak} (h : AkR w1 a) (b : Below w.heap.size w w1) : AkBox w a w1.heap.size (w1.alloc (.cells a.cells 48)) := by
  have eb := box_below w1 (.cells a.cells 48)
  exact ⟨h.below eb, heap_alloc_new w1 _, b.trans (eb.mono b.size)⟩

def MayP (sp mk : List Sp) : Prop := (1 ≤ sp.length ∧ sp.length ≤ 32 ∧ mk.length ≤ 32) ∧ Good sp ∧ Good mk ∧ InsideP mk sp
instance (sp mk : List Sp) : Decidable (MayP sp mk) := by unfold MayP; exact inferInstance
def mayB (sp mk : List Sp) : Bool := decide (MayP sp mk)
theorem mayB_len {sp mk : List Sp} (h : ¬ (1 ≤ sp.length ∧ sp.length ≤ 32 ∧ mk.length ≤ 32)) : mayB sp mk = false := by
  unfold mayB; exact decide_eq_false fun e => h e.1
theorem mayB_gs {sp mk : List Sp} (h : ¬ Good sp) : mayB sp mk = false := by
  unfold mayB; exact decide_eq_false fun e => h e.2.1
theorem mayB_gm {sp mk : List Sp} (h : ¬ Good mk) : mayB sp mk = false := by
  unfold mayB; exact decide_eq_false fun e => h e.2.2.1
theorem mayB_in {sp mk : List Sp} (h : 1 ≤ sp.length ∧ sp.length ≤ 32 ∧ mk.length ≤ 32) (h1 : Good sp) (h2 : Good mk) : mayB sp mk = decide (InsideP mk sp) := by
  unfold mayB
  by_cases h3 : InsideP mk sp
  · rw [decide_eq_true h3]; exact decide_eq_true ⟨h, h1, h2, h3⟩
  · rw [decide_eq_false h3]; exact decide_eq_false fun e => h3 e.2.2.2
theorem inside_self (a : List Sp) : decide (InsideP a a) = true := decide_eq_true fun s hs => ⟨s, hs, Int.le_refl _, Int.le_refl _⟩

set_option maxHeartbeats 4000000 in
theorem may_any (w : World) (a : Ak) (h : AkR w a) :
    Calls Try.prog 75 #[a.val] w fun e w' => e = .returned (.bool (mayB a.sp a.mm)) ∧ Below w.heap.size w w' := by
  have P0 := Lib.hid (AkBox.of h (Below.refl w.heap.size w))
  have hb0 := box_below w (.cells a.cells 48)
  obtain ⟨A, c, B, d, sp, mk, tr, xo, od⟩ := a
  unfold Ak.val
  simp only [Ak.cells] at hb0 P0 ⊢
  by_cases hl : 1 ≤ sp.length ∧ sp.length ≤ 32 ∧ mk.length ≤ 32
  · have HL := Lib.hid hl
    obtain ⟨l1, l2, l3⟩ := hl
    go_enter Try.func75, Try.ntmps75
    go_wp2_with fail
    generalize hw : w.alloc (.cells #[.slice A sp.length c, .slice B mk.length d, .int .u64 tr, .int .u64 xo, .bool od] 48) = w1 at *
    clear hw
    have HR := Lib.hid P0.out.r
    by_cases hg : Good sp
    · refine (within_yes A A _ _ c c sp sp w1 HR.out.rs HR.out.rs HR.out.us HR.out.us hg hg).mono ?_
      rw [inside_self sp]
      rintro e w2 ⟨rfl, b⟩
      have P2 := Lib.hid (P0.out.below b)
      clear b
      have t0 := cell_of_row w2 w.heap.size 0 _ _ _ P2.out.t
      have t1 := cell_of_row w2 w.heap.size 1 _ _ _ P2.out.t
      have t2 := cell_of_row w2 w.heap.size 2 _ _ _ P2.out.t
      have t3 := cell_of_row w2 w.heap.size 3 _ _ _ P2.out.t
      have t4 := cell_of_row w2 w.heap.size 4 _ _ _ P2.out.t
      simp only [Ak.cells] at t0 t1 t2 t3 t4
      go_wp2_with fail
      by_cases hm : Good mk
      · have hB := Lib.hid (mayB_in HL.out hg hm)
        refine (within_yes B A _ _ d c mk sp w2 P2.out.r.rm P2.out.r.rs HR.out.um HR.out.us hm hg).mono ?_
        generalize decide (InsideP mk sp) = bb at *
        rintro e w3 ⟨rfl, b⟩
        have hb := P2.out.bel.trans (b.mono P2.out.bel.size)
        clear b
        go_wp2
        go_ret
        exact ⟨ret_bool (by rw [hB.out]), hb⟩
      · have hB := Lib.hid (mayB_gm (sp := sp) hm)
        refine (within_no B A _ _ d c mk sp w2 P2.out.r.rm P2.out.r.rs HR.out.um HR.out.us (fun e => hm e.1)).mono ?_
        rintro e w3 ⟨rfl, b⟩
        have hb := P2.out.bel.trans (b.mono P2.out.bel.size)
        clear b
        go_wp2
        go_ret
        exact ⟨ret_bool (by rw [hB.out]), hb⟩
    · have hB := Lib.hid (mayB_gs (mk := mk) hg)
      refine (within_no A A _ _ c c sp sp w1 HR.out.rs HR.out.rs HR.out.us HR.out.us (fun e => hg e.1)).mono ?_
      rintro e w2 ⟨rfl, b⟩
      have hb := P0.out.bel.trans (b.mono P0.out.bel.size)
      clear b
      go_wp2
      go_ret
      exact ⟨ret_bool (by rw [hB.out]), hb⟩
  · rw [mayB_len hl]
    by_cases l1 : 1 ≤ sp.length
    · by_cases l2 : sp.length ≤ 32
      · have l3 : ¬ mk.length ≤ 32 := fun e => hl ⟨l1, l2, e⟩
        clear hl P0
        go_enter Try.func75, Try.ntmps75
        go_wp2
        go_ret
        exact ⟨rfl, hb0⟩
      · clear hl P0
        go_enter Try.func75, Try.ntmps75
        go_wp2
        go_ret
        exact ⟨rfl, hb0⟩
    · clear hl P0
      go_enter Try.func75, Try.ntmps75
      go_wp2
      go_ret
      exact ⟨rfl, hb0⟩

end Go.Proofs.Ytkedfipeebjcjaa

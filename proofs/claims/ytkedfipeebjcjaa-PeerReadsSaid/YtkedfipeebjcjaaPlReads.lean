/-
  The walk of PeerReads.
-/
import Derived.Test.YtkedfipeebjcjaaPlTells
import Derived.Test.YtkedfipeebjcjaaPlwQ
import Derived.Deep.DeepCutAuto
namespace Go.Proofs.Ytkedfipeebjcjaa
set_option linter.unusedSimpArgs false
set_option linter.unusedVariables false
set_option linter.unnecessarySimpa false
open Go.RowKit
attribute [local go_sem ↓] run_min_int run_max_int

theorem Rd.ints {w : World} {kd : IntKind} {A : Option Addr} {n c : Nat} {l : List Int} {k : Nat} (h : Rd w 1 A n c (l.map (Value.int kd))) (hk : k < n) (hl : k < l.length) :
    ∃ b off, A = some ⟨b, off, none⟩ ∧ w.cell? ⟨b, off + k, none⟩ = some (.int kd l[k]) := by
  obtain ⟨b, off, u, e, hx, hc⟩ := h.at_ hk
  have : (l.map (Value.int kd))[k]? = some (.int kd l[k]) := by simp [hl]
  rw [this] at hx
  exact ⟨b, off, e, by rw [hc]; exact hx.symm⟩

theorem min_nat (n0 a T : Nat) (h : a < T) (h0 : 1 ≤ n0) : ∃ k : Nat, 1 ≤ k ∧ a + k ≤ T ∧ min (n0 : Int) ((T : Int) - a) = k := by
  by_cases h1 : n0 ≤ T - a
  · exact ⟨n0, h0, by omega, Int.min_eq_left (by omega)⟩
  · exact ⟨T - a, by omega, by omega, (Int.min_eq_right (by omega)).trans (by omega)⟩
/-- A piece as a packet. -/
structure Pd where
  pn : Nat
  off : Nat
  A : Option Addr
  c : Nat
  b : List Int
def Pd.cells (x : Pd) : List Value := [.int .u64 x.pn, .int .u64 0, .int .u64 x.off, .int .u64 0, .int .i64 2, .slice x.A x.b.length x.c]
def Pd.dat (x : Pd) : DatD := ⟨x.pn, 0, x.off, 0, 2, x.b⟩
def Pd.pc (x : Pd) : Int × List Int := ((x.off : Int), x.b)
structure Pd.Ok (w : World) (t : List Int) (x : Pd) : Prop where
  r : Rd w 1 x.A x.b.length x.c (U8 x.b)
  len : 1 ≤ x.b.length ∧ x.b.length ≤ 300
  off : x.off ≤ 300
  pn : x.pn ≤ 300
  pc : PS.PieceOf t x.pc
  u8 : ∀ y ∈ x.b, 0 ≤ y ∧ y ≤ 255
theorem Pd.Ok.dat {w : World} {t : List Int} {x : Pd} (h : x.Ok w t) : x.dat.Ok := by
  have h1 := h.len; have h2 := h.off; have h3 := h.pn
  refine ⟨?_, ⟨Int.le_refl _, ?_⟩, ⟨?_, ?_⟩, ⟨by show (0 : Int) ≤ 0; omega, by show (0 : Int) < 18446744073709551616; omega⟩, ⟨by show (1 : Int) ≤ 2; omega, by show (2 : Int) ≤ 3; omega⟩, ⟨h1.1, ?_⟩, h.u8⟩
  · show (x.pn : Int) ≤ _; omega
  · show (0 : Int) ≤ x.pn; omega
  · show (0 : Int) ≤ x.off; omega
  · show (x.off : Int) + x.b.length ≤ _; omega
  · show x.b.length ≤ 1500; omega
/-- The pieces so far. -/
structure PiS (w : World) (t : List Int) (pl : List Pd) (a : Nat) : Prop where
  ok : ∀ x ∈ pl, x.Ok w t
  pn : ∀ i, (h : i < pl.length) → pl[i].pn = i
  ord : PS.InOrder t (pl.map Pd.pc) a
  few : pl.length ≤ a
theorem PiS.snoc {w : World} {t : List Int} {pl : List Pd} {a : Nat} (h : PiS w t pl a) {x : Pd} (hx : x.Ok w t) (h1 : x.pn = pl.length) (h2 : x.off = a) : PiS w t (pl ++ [x]) (a + x.b.length) := by
  refine ⟨fun y hy => ?_, fun i hi => ?_, ?_, ?_⟩
  · rcases List.mem_append.1 hy with hy | hy
    · exact h.ok y hy
    · rw [List.mem_singleton] at hy; subst hy; exact hx
  · rw [List.getElem_append]
    split
    · exact h.pn i _
    · rw [List.getElem_singleton, h1]
      simp only [List.length_append, List.length_singleton] at hi
      omega
  · rw [List.map_append]
    have := h.ord.snoc (x := x.pc) (by show (x.off : Int) = a; omega) hx.pc
    have e : ((a : Int) + (x.pc.2.length : Int)) = ((a + x.b.length : Nat) : Int) := by show (a : Int) + (x.b.length : Int) = _; omega
    rw [e] at this
    exact this
  · have := h.few
    have := hx.len.1
    simp only [List.length_append, List.length_singleton]
    omega
theorem PS.takeB_put (s : PS) (d : DatD) (h : d.Ok) (now : Int) : s.takeB (putDatP d) now = s.take d now := by
  unfold PS.takeB
  rw [datP_put d h]

/-- Where the first loop stands. -/
structure Pr1 (w : World) (B : Nat) (t : List Int) (pl : List Pd) (a : Nat) (A : Option Addr) (c : Nat) (W : World) : Prop where
  ps : PiS w t pl a
  o : W.ownsRow B 30 6 (.slice A pl.length c) pl.length (pl.flatMap Pd.cells)
  bel : Below w.heap.size w W
  at_ : B ≤ W.heap.size
/-- Where the second loop stands: the receiver F1 apart from the pieces, which lie from B to D. -/
structure Pr2 (w : World) (B D : Nat) (t : List Int) (pl : List Pd) (A : Option Addr) (c p j last : Nat) (s : PS) (W : World) : Prop where
  ex : ∃ F1 : Nat → Prop, PeP W F1 (fun _ => False) p s ∧ ∀ k, F1 k → w.heap.size ≤ k ∧ (k < B ∨ D ≤ k)
  r : Rd W 6 A pl.length c (pl.flatMap Pd.cells)
  rb : ∀ b off, A = some ⟨b, off, none⟩ → 0 < pl.length → B ≤ b ∧ b < D
  few : s.s.length ≤ j
  ok : ∀ x ∈ s.s, PS.PieceOf t x
  last : ∃ out, PS.IsStream s.s out ∧ out.length = last
  bel : Below w.heap.size w W
/-- Where the third loop stands. -/
structure Pr3 (w : World) (D : Nat) (pl : List Pd) (A : Option Addr) (c q j : Nat) (s : PS) (W : World) : Prop where
  ex : ∃ F1 : Nat → Prop, PeP W F1 (fun _ => False) q s ∧ ∀ k, F1 k → w.heap.size ≤ k ∧ D ≤ k
  r : Rd W 6 A pl.length c (pl.flatMap Pd.cells)
  rb : ∀ b off, A = some ⟨b, off, none⟩ → 0 < pl.length → b < D
  ln : s.Lined j
  ss : s.s = (pl.take j).map Pd.pc
  b : s.bytes = (((pl.take j).map Pd.pc).map fun x => (x.2.length : Int)).sum
  bel : Below w.heap.size w W

set_option maxHeartbeats 8000000 in
set_option maxRecDepth 100000 in
theorem peerReads_any (A0 A1 A2 : Option Addr) (c0 c1 c2 : Nat) (t cu od : List Int) (w : World) (r0 : Rd w 1 A0 t.length c0 (U8 t)) (r1 : Rd w 1 A1 cu.length c1 (cu.map (Value.int .u8))) (r2 : Rd w 1 A2 od.length c2 (od.map (Value.int .u16)))
    (ht : ∀ x ∈ t, 0 ≤ x ∧ x ≤ 255) (hcu : ∀ x ∈ cu, 0 ≤ x ∧ x ≤ 255) (hod : ∀ x ∈ od, 0 ≤ x ∧ x ≤ 65535) :
    Calls Try.prog 3 #[.slice A0 t.length c0, .slice A1 cu.length c1, .slice A2 od.length c2] w fun e w' => e = .returned (.bool true) ∧ Below w.heap.size w w' := by
  obtain ⟨iB, hiB, bz0, bz1, bz2⟩ := info_parts infoByte
  obtain ⟨iD, hiD, dz0, dz1, dz2⟩ := info_parts infoData2
  have cp0 := r0.cap
  have mx0 := r0.max
  have cp1 := r1.cap
  have mx1 := r1.max
  have cp2 := r2.cap
  have mx2 := r2.max
  unfold maxLen at mx0 mx1 mx2
  have R0 := Lib.hid r0
  have R1 := Lib.hid r1
  have R2 := Lib.hid r2
  have HT := Lib.hid ht
  have HC := Lib.hid hcu
  have HO := Lib.hid hod
  clear r0 r1 r2 ht hcu hod
  go_enter Try.func3, Try.ntmps3
  go_wp2_with fail
  refine (peer_new 9 w ⟨by omega, by omega⟩).mono ?_
  rintro e w1 ⟨p, rfl, hP, b1⟩
  have P1 : Hid (PeP w1 (fun k => w.heap.size ≤ k ∧ k < w1.heap.size) (fun _ => False) p (PS.new 9)) := Lib.hid (hP.sub (fun k hk e => ⟨e, hk⟩) (fun _ _ h => .inr h))
  have B1 := Lib.hid b1
  clear hP b1
  go_wp2_with fail
  refine (peerAlive w1).mono ?_
  rintro e w2 ⟨rfl, b2⟩
  have P2 := Lib.hid (P1.out.below b2)
  have B2 := Lib.hid (B1.out.trans (b2.mono B1.out.size))
  have S2 := Lib.hid b2.size
  clear b2
  by_cases h30 : 300 < t.length ∨ 200 < od.length
  · have hd : decide ((300 : Int) < (t.length : Int)) = true ∨ decide ((300 : Int) < (t.length : Int)) = false ∧ decide ((200 : Int) < (od.length : Int)) = true := by
      rcases h30 with h | h
      · exact .inl (decide_eq_true (by omega))
      · by_cases h2 : 300 < t.length
        · exact .inl (decide_eq_true (by omega))
        · exact .inr ⟨decide_eq_false (by omega), decide_eq_true (by omega)⟩
    rcases hd with hd | ⟨hd, hd2⟩
    all_goals
      go_wp2_with fail
      refine (peerAlive w2).mono ?_
      rintro e w3 ⟨rfl, b3⟩
      go_wp2
      go_ret
      exact ⟨rfl, B2.out.trans (b3.mono B2.out.size)⟩
  · have h31 : t.length ≤ 300 := by omega
    have h32 : od.length ≤ 200 := by omega
    have hd : decide ((300 : Int) < (t.length : Int)) = false := decide_eq_false (by omega)
    have hd2 : decide ((200 : Int) < (od.length : Int)) = false := decide_eq_false (by omega)
    clear h30
    go_wp2_with fail
    have T2 : Hid (Pr1 w w2.heap.size t [] 0 none 0 w2) := Lib.hid ⟨⟨(fun x hx => by cases hx), (fun i hi => by cases hi), PS.InOrder.nil t, Nat.le_refl _⟩, World.ownsRow_nil _ _ _ _, B2.out, Nat.le_refl _⟩
    go_loopw [8, 9] (fun sv av wr => ∃ (pl : List Pd) (a : Nat) (A : Option Addr) (c : Nat), sv = .slice A pl.length c ∧ av = .int .i64 a ∧ Hid (Pr1 w w2.heap.size t pl a A c wr ∧ PeP wr (fun k => w.heap.size ≤ k ∧ k < w1.heap.size) (fun _ => False) p (PS.new 9))) (fun _ av _ => t.length - (intOf av).toNat)
    case atStart => exact ⟨[], 0, none, 0, rfl, rfl, Lib.hid ⟨T2.out, P2.out⟩⟩
    case round =>
      obtain ⟨pl, a, A, c, rfl, rfl, S⟩ := hrel
      clear T2 P2
      have hae := S.out.1.ps.ord.end_
      have hfw := S.out.1.ps.few
      by_cases hlt : a < t.length
      · have bel := S.out.1.bel
        have K0 := R0.out.below bel
        have K1 := R1.out.below bel
        have hsz := S.out.1.at_
        have hbel := bel.size
        have hn0 : ∃ n0 : Nat, 1 ≤ n0 ∧ (pl.length < cu.length → ∃ x : Int, cu[pl.length]? = some x ∧ 0 ≤ x ∧ x ≤ 255 ∧ (n0 : Int) = 1 + x % 20) ∧ (¬ pl.length < cu.length → n0 = 1) := by
          by_cases hc : pl.length < cu.length
          · have := HC.out cu[pl.length] (List.getElem_mem hc)
            exact ⟨(1 + cu[pl.length] % 20).toNat, by omega, fun _ => ⟨_, List.getElem?_eq_getElem hc, this.1, this.2, by omega⟩, fun h => absurd hc h⟩
          · exact ⟨1, Nat.le_refl _, fun h => absurd h hc, fun _ => rfl⟩
        obtain ⟨n0, hn0, hy, hn⟩ := hn0
        obtain ⟨k, k1, k2, wm⟩ := min_nat n0 a t.length hlt hn0
        obtain ⟨e, he⟩ : ∃ e : Nat, e = a + k := ⟨_, rfl⟩
        obtain ⟨b, hb⟩ : ∃ b, b = (t.drop a).take k := ⟨_, rfl⟩
        have hbl : b.length = k := by rw [hb, List.length_take, List.length_drop]; omega
        obtain ⟨A9, hrunS, hA9⟩ := piece_run (P := Try.prog) (t := 22) Try.underlying22 hiB bz1 A0 t.length c0 a e (by omega) (by omega) cp0
        rw [show e - a = b.length by omega] at hrunS hA9
        have hr9 := hA9 w _ R0.out
        rw [Nat.mul_one, Nat.mul_one, show ((U8 t).drop a).take b.length = U8 b by rw [hbl, hb]; simp [U8, List.map_drop, List.map_take]] at hr9
        have X : Hid ((⟨pl.length, a, A9, c0 - a, b⟩ : Pd).Ok w t) := Lib.hid ⟨hr9, ⟨by show 1 ≤ b.length; omega, by show b.length ≤ 300; omega⟩, by show a ≤ 300; omega, by show pl.length ≤ 300; omega, ⟨by show (0 : Int) ≤ a; omega, by show (a : Int) + b.length ≤ _; omega, by
          show b = (t.drop ((a : Nat) : Int).toNat).take b.length
          rw [hbl]
          exact hb⟩, fun y hy => HT.out y (by rw [hb] at hy; exact List.mem_of_mem_drop (List.mem_of_mem_take hy))⟩
        have wE : IntKind.i64.wrap ((a : Int) + (k : Int)) = (e : Int) := by rw [IntWalk.i64_in _ (by omega)]; omega
        have wS : IntKind.i64.wrap ((t.length : Int) - (a : Int)) = (t.length : Int) - a := IntWalk.i64_in _ (by omega)
        have wP : IntKind.u64.wrap (pl.length : Int) = pl.length := IntWalk.u64_in _ (by omega)
        have wA : IntKind.u64.wrap (a : Int) = a := IntWalk.u64_in _ (by omega)
        have OW := Lib.hid S.out.1.o
        have PSS := Lib.hid S.out.1.ps
        have PP := Lib.hid S.out.2
        have HE := Lib.hid he
        have HBL := Lib.hid hbl
        have HB := Lib.hid bel
        have ocp := (Rd.of_own S.out.1.o).cap
        clear hA9 hr9 hb he bel S hbl
        by_cases hc : pl.length < cu.length
        · obtain ⟨x, hx, x0, x1, x2⟩ := hy hc
          obtain ⟨bk, of_, rfl, hcell⟩ := K1.ints hc hc
          have hx' : cu[pl.length] = x := by
            rw [List.getElem?_eq_getElem hc] at hx
            exact Option.some.inj hx
          rw [hx'] at hcell
          have hdc : decide ((pl.length : Int) < (cu.length : Int)) = true := decide_eq_true (by omega)
          have wt : Int.tmod x 20 = x % 20 := Int.tmod_eq_emod_of_nonneg x0
          have wi : IntKind.i64.wrap (x % 20) = x % 20 := IntWalk.i64_in _ (by omega)
          have wj : IntKind.i64.wrap (1 + x % 20) = n0 := by rw [IntWalk.i64_in _ (by omega)]; omega
          clear hx hx' hy hn x2
          go_wp2_with (
            at_builtin
            (refine wpList_app1 _ rfl (.tmp 61) (.tmp 74) 28 rfl w2.heap.size 30 iD (.agg #[.int .u64 0, .int .u64 0, .int .u64 0, .int .u64 0, .int .i64 0, .slice none 0 0]) 6 64 Try.underlying28 hiD dz0 dz1 dz2 rfl (by decide) (.slice A pl.length c) pl.length (pl.flatMap Pd.cells) rfl (by first | exact OW.out | exact OW.out.alloc _) #[.int .u64 (pl.length : Int), .int .u64 0, .int .u64 (a : Int), .int .u64 0, .int .i64 2, .slice A9 b.length (c0 - a)] _ rfl (by simp) rfl (by simp [Value.oneCell']) (by unfold maxLen; omega) (by omega) (by first | omega | (simp; omega)) ?_)
            intro v8 w8 hown8 hg8 _
            obtain ⟨A8, c8, hv8, -⟩ := own_slice hown8
            subst hv8
            have OW8 := Lib.hid hown8
            have G8 := Lib.hid hg8
            clear hown8 hg8)
          have C8 : Hid (Chg (fun j => w2.heap.size ≤ j) wr w8) := Lib.hid ((Chg.refl _ wr).grown G8.out (fun j e => .inl (OW.out.lt j e).1))
          have T8 : Hid (Pr1 w w2.heap.size t (pl ++ [⟨pl.length, a, A9, c0 - a, b⟩]) e A8 c8 w8 ∧ PeP w8 (fun k => w.heap.size ≤ k ∧ k < w1.heap.size) (fun _ => False) p (PS.new 9)) := by
            have hpp := PSS.out.snoc X.out rfl rfl
            have he2 : a + b.length = e := by have := HE.out; have := HBL.out; omega
            have hpp : PiS w t (pl ++ [⟨pl.length, a, A9, c0 - a, b⟩]) e := by rw [← he2]; exact hpp
            have hlen : (pl ++ [(⟨pl.length, a, A9, c0 - a, b⟩ : Pd)]).length = pl.length + 1 := by simp
            have hfl : (pl ++ [(⟨pl.length, a, A9, c0 - a, b⟩ : Pd)]).flatMap Pd.cells = pl.flatMap Pd.cells ++ [.int .u64 (pl.length : Int), .int .u64 0, .int .u64 (a : Int), .int .u64 0, .int .i64 2, .slice A9 b.length (c0 - a)] := by simp [Pd.cells]
            refine Lib.hid ⟨⟨hpp, ?_, HB.out.trans (C8.out.below hbel (fun k hk e => by have := B2.out.size; omega)), Nat.le_trans hsz C8.out.size⟩, PP.out.chg C8.out (fun k hk e h => by
              rcases e with e | e
              · have := S2.out; omega
              · exact e) (fun _ _ h => h) (fun _ _ h => .inr h)⟩
            rw [hlen, hfl]
            exact OW8.out
          have hlen : (pl ++ [(⟨pl.length, a, A9, c0 - a, b⟩ : Pd)]).length = pl.length + 1 := by simp
          have HL := Lib.hid hlen
          clear OW8 G8 C8 PP OW PSS HB hlen
          go_wp2
          go_roundw
          case rel => exact ⟨_, e, A8, c8, by rw [HL.out], rfl, T8⟩
          case measure => have := HE.out; simp [intOf]; omega
        · obtain rfl := hn hc
          have wm1 : min (1 : Int) ((t.length : Int) - (a : Int)) = k := by simpa using wm
          have hdc : decide ((pl.length : Int) < (cu.length : Int)) = false := decide_eq_false (by omega)
          clear hy hn wm
          go_wp2_with (
            at_builtin
            (refine wpList_app1 _ rfl (.tmp 61) (.tmp 74) 28 rfl w2.heap.size 30 iD (.agg #[.int .u64 0, .int .u64 0, .int .u64 0, .int .u64 0, .int .i64 0, .slice none 0 0]) 6 64 Try.underlying28 hiD dz0 dz1 dz2 rfl (by decide) (.slice A pl.length c) pl.length (pl.flatMap Pd.cells) rfl (by first | exact OW.out | exact OW.out.alloc _) #[.int .u64 (pl.length : Int), .int .u64 0, .int .u64 (a : Int), .int .u64 0, .int .i64 2, .slice A9 b.length (c0 - a)] _ rfl (by simp) rfl (by simp [Value.oneCell']) (by unfold maxLen; omega) (by omega) (by first | omega | (simp; omega)) ?_)
            intro v8 w8 hown8 hg8 _
            obtain ⟨A8, c8, hv8, -⟩ := own_slice hown8
            subst hv8
            have OW8 := Lib.hid hown8
            have G8 := Lib.hid hg8
            clear hown8 hg8)
          have C8 : Hid (Chg (fun j => w2.heap.size ≤ j) wr w8) := Lib.hid ((Chg.refl _ wr).grown G8.out (fun j e => .inl (OW.out.lt j e).1))
          have T8 : Hid (Pr1 w w2.heap.size t (pl ++ [⟨pl.length, a, A9, c0 - a, b⟩]) e A8 c8 w8 ∧ PeP w8 (fun k => w.heap.size ≤ k ∧ k < w1.heap.size) (fun _ => False) p (PS.new 9)) := by
            have hpp := PSS.out.snoc X.out rfl rfl
            have he2 : a + b.length = e := by have := HE.out; have := HBL.out; omega
            have hpp : PiS w t (pl ++ [⟨pl.length, a, A9, c0 - a, b⟩]) e := by rw [← he2]; exact hpp
            have hlen : (pl ++ [(⟨pl.length, a, A9, c0 - a, b⟩ : Pd)]).length = pl.length + 1 := by simp
            have hfl : (pl ++ [(⟨pl.length, a, A9, c0 - a, b⟩ : Pd)]).flatMap Pd.cells = pl.flatMap Pd.cells ++ [.int .u64 (pl.length : Int), .int .u64 0, .int .u64 (a : Int), .int .u64 0, .int .i64 2, .slice A9 b.length (c0 - a)] := by simp [Pd.cells]
            refine Lib.hid ⟨⟨hpp, ?_, HB.out.trans (C8.out.below hbel (fun k hk e => by have := B2.out.size; omega)), Nat.le_trans hsz C8.out.size⟩, PP.out.chg C8.out (fun k hk e h => by
              rcases e with e | e
              · have := S2.out; omega
              · exact e) (fun _ _ h => h) (fun _ _ h => .inr h)⟩
            rw [hlen, hfl]
            exact OW8.out
          have hlen : (pl ++ [(⟨pl.length, a, A9, c0 - a, b⟩ : Pd)]).length = pl.length + 1 := by simp
          have HL := Lib.hid hlen
          clear OW8 G8 C8 PP OW PSS HB hlen
          go_wp2
          go_roundw
          case rel => exact ⟨_, e, A8, c8, by rw [HL.out], rfl, T8⟩
          case measure => have := HE.out; simp [intOf]; omega
      · obtain rfl : a = t.length := by omega
        obtain ⟨D, hD⟩ : ∃ D, D = wr.heap.size := ⟨_, rfl⟩
        obtain ⟨B, hB⟩ : ∃ B, B = w2.heap.size := ⟨_, rfl⟩
        have PSS := Lib.hid S.out.1.ps
        have T3 : Hid (Pr2 w B D t pl A c p 0 0 (PS.new 9) wr) := by
          subst hD hB
          exact Lib.hid ⟨⟨_, S.out.2, fun k hk => ⟨hk.1, .inl (by have := S2.out; omega)⟩⟩, Rd.of_own S.out.1.o, fun b off e hn => ⟨own_base2 S.out.1.o b off e hn, (Rd.of_own S.out.1.o).lt (by omega) hn b off e⟩, Nat.zero_le _, (fun x hx => by cases hx), ⟨[], ⟨(fun i hi => by cases hi), rfl⟩, rfl⟩, S.out.1.bel⟩
        have hDB : Hid (w.heap.size ≤ B ∧ B ≤ D ∧ D ≤ wr.heap.size) := Lib.hid (by have := S.out.1.at_; have := B2.out.size; omega)
        have hpc := (Rd.of_own S.out.1.o).cap
        have hpm := (Rd.of_own S.out.1.o).max
        unfold maxLen at hpm
        have hpl : pl.length ≤ 300 := by omega
        clear hD hB S hae hfw
        go_wp2_with fail
        rename World => wz
        go_loopw [11, 12] (fun lv iv wr => ∃ (j last : Nat) (s : PS), j ≤ od.length ∧ iv = .int .i64 j ∧ lv = .int .i64 last ∧ Hid (Pr2 w B D t pl A c p j last s wr ∧ D ≤ wr.heap.size)) (fun _ iv _ => od.length - (intOf iv).toNat)
        case atStart => exact ⟨0, 0, _, Nat.zero_le _, rfl, rfl, Lib.hid ⟨T3.out, hDB.out.2.2⟩⟩
        case round =>
          obtain ⟨j, last, s, hj, rfl, rfl, S⟩ := hrel
          clear T3
          by_cases hgo : j < od.length ∧ 0 < pl.length
          · obtain ⟨hjo, hp0⟩ := hgo
            have hdj : decide ((j : Int) < (od.length : Int)) = true := decide_eq_true (by omega)
            have hdp : decide ((0 : Int) < (pl.length : Int)) = true := decide_eq_true (by omega)
            have hdj' : decide (j < od.length) = true := decide_eq_true hjo
            have hdp' : decide (0 < pl.length) = true := decide_eq_true hp0
            have hsz := S.out.2
            have bel := S.out.1.bel
            obtain ⟨bo, oo, rfl, hco⟩ := (R2.out.below bel).ints hjo hjo
            have ho := HO.out od[j] (List.getElem_mem hjo)
            generalize od[j] = y at *
            obtain ⟨m, hm⟩ : ∃ m : Nat, (m : Int) = y % (pl.length : Int) := ⟨(y % (pl.length : Int)).toNat, Int.toNat_of_nonneg (Int.emod_nonneg y (show (pl.length : Int) ≠ 0 by omega))⟩
            have hml : m < pl.length := by have h1 := Int.emod_lt_of_pos y (show (0 : Int) < (pl.length : Int) by omega); rw [← hm] at h1; omega
            have wt : Int.tmod y (pl.length : Int) = (m : Int) := by rw [Int.tmod_eq_emod_of_nonneg ho.1]; exact hm.symm
            have wi : IntKind.i64.wrap y = y := IntWalk.i64_in _ (by omega)
            have wj : IntKind.u64.wrap (j : Int) = j := IntWalk.u64_in _ (by omega)
            have hne : ((pl.length : Int) != 0) = true := bne_iff_ne.2 (show (pl.length : Int) ≠ 0 by omega)
            have hm' : y % (pl.length : Int) = (m : Int) := hm.symm
            obtain ⟨bp, op, eA, hcp⟩ := Rd.elem (f := Pd.cells) (k := 6) (fun _ => rfl) S.out.1.r (by omega) hml
            have XO := Lib.hid (PSS.out.ok pl[m] (List.getElem_mem hml))
            have e0 := hcp 0 _ rfl
            have e1 := hcp 1 _ rfl
            have e2 := hcp 2 _ rfl
            have e3 := hcp 3 _ rfl
            have e4 := hcp 4 _ rfl
            have e5 := hcp 5 _ rfl
            clear hcp hm
            generalize pl[m] = x at *
            generalize hoff : op + m * 6 = o6 at *
            try simp only [Nat.add_zero] at e0
            obtain ⟨F1, PR, hF⟩ := S.out.1.ex
            have HF := Lib.hid hF
            have KP : Hid (Calls Try.prog 11 #[.agg #[.int .u64 (x.pn : Int), .int .u64 0, .int .u64 (x.off : Int), .int .u64 0, .int .i64 2, .slice x.A x.b.length x.c]] wr _) := Lib.hid (ref_putData wr x.dat x.A x.c XO.out.dat (XO.out.r.below bel))
            have P0 := Lib.hid PR
            have RW := Lib.hid S.out.1.r
            have RB := Lib.hid S.out.1.rb
            have FW := Lib.hid S.out.1.few
            have OK := Lib.hid S.out.1.ok
            have LA := Lib.hid S.out.1.last
            have HB := Lib.hid bel
            clear PR hF S bel
            subst eA
            go_wp2_with fail
            refine KP.out.mono ?_
            rintro e w7 ⟨A7, c7, rfl, r7, b7, -⟩
            have P7 := Lib.hid (P0.out.below b7)
            have RW7 := Lib.hid (RW.out.below b7)
            have HB7 := Lib.hid (HB.out.trans (b7.mono HB.out.size))
            have D7 := Lib.hid (Nat.le_trans hsz b7.size)
            have KT := Lib.hid (peer_take w7 F1 (fun _ => False) p s A7 c7 (putDatP x.dat) j P7.out r7 (putDat_u8 _ XO.out.dat) (Nat.le_trans (putDat_len _ XO.out.dat) (by decide)) ⟨by omega, by omega⟩ (by have := FW.out; omega))
            clear r7 b7 KP P0 RW HB e0 e1 e2 e3 e4 e5 hco
            go_wp2_with fail
            refine KT.out.mono ?_
            rintro e w8 ⟨tv, hP, hC⟩
            obtain ⟨A8, c8, rfl, r8, n8⟩ := tv.un
            have P8 : Hid (PeP w8 (GrowB F1 w7 w8) (fun _ => False) p (s.takeB (putDatP x.dat) j).1) := Lib.hid (hP.sub (fun k hk e => ⟨e, hk⟩) (fun _ _ e => .inr e))
            have RW8 := Lib.hid (RW7.out.chg hC (fun b off e hn hf => by have := RB.out b off e hn; have := (HF.out b hf).2; omega))
            have HB8 := Lib.hid (HB7.out.trans (hC.below HB7.out.size (fun k hk hf => by have := (HF.out k hf).1; omega)))
            have D8 := Lib.hid (Nat.le_trans D7.out hC.size)
            have HF8 : Hid (∀ k, GrowB F1 w7 w8 k → w.heap.size ≤ k ∧ (k < B ∨ D ≤ k)) := Lib.hid (fun k hk => hk.1.elim (HF.out k) (fun h => ⟨Nat.le_trans HB7.out.size h, .inr (Nat.le_trans D7.out h)⟩))
            have SE := PS.takeB_put s x.dat XO.out.dat j
            have SS := (PS.take_s s x.dat j).1
            rw [← SE] at SS
            have OK8 : Hid (∀ z ∈ (s.takeB (putDatP x.dat) j).1.s, PS.PieceOf t z) := Lib.hid (by
              rcases SS with e | e
              · rw [e]; exact OK.out
              · rw [e]
                intro z hz
                rcases List.mem_append.1 hz with hz | hz
                · exact OK.out z hz
                · rw [List.mem_singleton] at hz; subst hz; exact XO.out.pc)
            have FW8 := Lib.hid (Nat.le_trans (PS.takeB_few s (putDatP x.dat) j) (Nat.succ_le_succ FW.out))
            have LA8 : Hid (∀ out, PS.IsStream (s.takeB (putDatP x.dat) j).1.s out → last ≤ out.length) := Lib.hid (fun out ho => by
              obtain ⟨o0, i0, l0⟩ := LA.out
              rcases SS with e | e
              · rw [e] at ho
                rw [← i0.unique ho]
                omega
              · rw [e] at ho
                have := i0.grows ho
                omega)
            clear tv hP hC r8 n8 KT P7 RW7 HB7 SE SS
            generalize (s.takeB (putDatP x.dat) j).1 = s1 at *
            generalize (s.takeB (putDatP x.dat) j).2 = o1 at *
            generalize GrowB F1 w7 w8 = G1 at *
            have KS := Lib.hid (peer_stream w8 G1 (fun _ => False) p s1 P8.out)
            go_wp2_with fail
            refine KS.out.mono ?_
            rintro e w9 ⟨A9, c9, out, rfl, I9, r9, b9⟩
            have IP := PS.IsStream.pre OK8.out I9
            have IL := LA8.out out I9
            have P9 := Lib.hid (P8.out.below b9)
            have RW9 := Lib.hid (RW8.out.below b9)
            have HB9 := Lib.hid (HB8.out.trans (b9.mono HB8.out.size))
            have D9 := Lib.hid (Nat.le_trans D8.out b9.size)
            have R0t := (R0.out.below HB9.out).take IP.1
            rw [Nat.mul_one, show (U8 t).take out.length = U8 out by rw [show (U8 t).take out.length = U8 (t.take out.length) by simp [U8, List.map_take], ← IP.2]] at R0t
            have d1 : decide ((out.length : Int) < (last : Int)) = false := decide_eq_false (by omega)
            have d1' : decide (out.length < last) = false := decide_eq_false (by omega)
            have d2' : decide (t.length < out.length) = false := decide_eq_false (by omega)
            have d2 : decide ((t.length : Int) < (out.length : Int)) = false := decide_eq_false (by omega)
            have hol : out.length ≤ t.length := IP.1
            have cv1 := conv_mix (dst := 9) Try.underlying22 Try.underlying5 Try.underlying9 (F := fun _ => False) r9 (fun _ _ _ _ h => h)
            have cv2 := conv_mix (dst := 9) Try.underlying22 Try.underlying5 Try.underlying9 (F := fun _ => False) R0t (fun _ _ _ _ h => h)
            have I9h := Lib.hid I9
            clear b9 KS P8 RW8 HB8 IP IL r9 R0t I9
            go_upto_region 19 with fail
            refine wp_region_chg (fun _ => False) (by kernel_rfl) (by kernel_rfl) ?_
            repeat (refine wpMix_seg 1 _ _ rfl ?_; simp only [List.take_succ_cons, List.take_zero, List.drop_succ_cons, List.drop_zero]; go_big_quiet_step (fail); refine wpQuiet_nil ?_)
            refine wpMix_nil ?_
            have P9 := Lib.hid (P9.out.below (Below.refl _ _).drew)
            have RW9 := Lib.hid (RW9.out.below (Below.refl _ _).drew)
            have HB9 := Lib.hid (HB9.out.trans (Below.refl _ _).drew)
            have D9 : Hid (D ≤ w9.drew.heap.size) := Lib.hid D9.out
            clear cv1 cv2
            generalize w9.drew = w10 at *
            go_wp2
            go_roundw
            case rel => exact ⟨j + 1, out.length, s1, by omega, by go_num, rfl, Lib.hid ⟨⟨⟨G1, P9.out, HF8.out⟩, RW9.out, RB.out, FW8.out, OK8.out, ⟨out, I9h.out, rfl⟩, HB9.out⟩, D9.out⟩⟩
            case measure => simp [intOf]; omega
          · have hd : (decide ((j : Int) < (od.length : Int)) = false ∧ decide (j < od.length) = false) ∨ (decide ((j : Int) < (od.length : Int)) = true ∧ decide (j < od.length) = true) ∧ decide ((0 : Int) < (pl.length : Int)) = false ∧ decide (0 < pl.length) = false := by
              by_cases h1 : j < od.length
              · exact .inr ⟨⟨decide_eq_true (by omega), decide_eq_true h1⟩, decide_eq_false (by omega), decide_eq_false (by omega)⟩
              · exact .inl ⟨decide_eq_false (by omega), decide_eq_false h1⟩
            have RW := Lib.hid S.out.1.r
            have RB := Lib.hid S.out.1.rb
            have HB := Lib.hid S.out.1.bel
            have hsz := S.out.2
            clear S hgo
            rcases hd with ⟨hd, hd'⟩ | ⟨⟨hd, hd'⟩, hd2, hd2'⟩
            all_goals
              go_wp2_with fail
              refine (peer_new 9 wr ⟨by omega, by omega⟩).mono ?_
              rintro e w3 ⟨q, rfl, hP, b3⟩
              obtain ⟨E, hE⟩ : ∃ E, E = wr.heap.size := ⟨_, rfl⟩
              have T3 : Hid (Pr3 w E pl A c q 0 (PS.new 9) w3) := Lib.hid ⟨⟨_, hP, fun k hk => by have := HB.out.size; omega⟩, RW.out.below b3, (fun b off e hn => by have := RB.out b off e hn; omega), PS.Lined.new 9, rfl, rfl, HB.out.trans (b3.mono HB.out.size)⟩
              have hE3 := Lib.hid (show E ≤ w3.heap.size by have := b3.size; omega)
              clear hP b3 RW RB HB hE
              go_wp2_with fail
              rename World => wy
              go_loopw [136] (fun iv wr => ∃ (j : Nat) (s : PS), j ≤ pl.length ∧ iv = .int .i64 j ∧ Hid (Pr3 w E pl A c q j s wr ∧ E ≤ wr.heap.size)) (fun iv _ => pl.length - (intOf iv).toNat)
              case atStart => exact ⟨0, _, Nat.zero_le _, rfl, Lib.hid ⟨T3.out, hE3.out⟩⟩
              case round =>
                obtain ⟨j, s, hj, rfl, S⟩ := hrel
                clear T3 hE3
                by_cases hlt : j < pl.length
                · have hz := S.out.2
                  have bel := S.out.1.bel
                  have wj : IntKind.u64.wrap (j : Int) = j := IntWalk.u64_in _ (by omega)
                  obtain ⟨bp, op, eA, hcp⟩ := Rd.elem (f := Pd.cells) (k := 6) (fun _ => rfl) S.out.1.r (by omega) hlt
                  have XO := Lib.hid (PSS.out.ok pl[j] (List.getElem_mem hlt))
                  have XP := Lib.hid (PSS.out.pn j hlt)
                  have TK := Lib.hid (List.take_succ_eq_append_getElem hlt)
                  have e0 := hcp 0 _ rfl
                  have e1 := hcp 1 _ rfl
                  have e2 := hcp 2 _ rfl
                  have e3 := hcp 3 _ rfl
                  have e4 := hcp 4 _ rfl
                  have e5 := hcp 5 _ rfl
                  clear hcp
                  generalize pl[j] = x at *
                  generalize hoff : op + j * 6 = o6 at *
                  try simp only [Nat.add_zero] at e0
                  obtain ⟨F1, PR, hF⟩ := S.out.1.ex
                  have HF := Lib.hid hF
                  have KP : Hid (Calls Try.prog 11 #[.agg #[.int .u64 (x.pn : Int), .int .u64 0, .int .u64 (x.off : Int), .int .u64 0, .int .i64 2, .slice x.A x.b.length x.c]] wr _) := Lib.hid (ref_putData wr x.dat x.A x.c XO.out.dat (XO.out.r.below bel))
                  have P0 := Lib.hid PR
                  have S0 := Lib.hid S.out.1
                  have hfew : s.s.length ≤ j := by rw [S0.out.ss, List.length_map, List.length_take]; omega
                  clear PR hF S bel
                  subst eA
                  go_wp2_with fail
                  refine KP.out.mono ?_
                  rintro e w7 ⟨A7, c7, rfl, r7, b7, -⟩
                  have P7 := Lib.hid (P0.out.below b7)
                  have RW7 := Lib.hid (S0.out.r.below b7)
                  have HB7 := Lib.hid (S0.out.bel.trans (b7.mono S0.out.bel.size))
                  have D7 := Lib.hid (Nat.le_trans hz b7.size)
                  have KT := Lib.hid (peer_take w7 F1 (fun _ => False) q s A7 c7 (putDatP x.dat) j P7.out r7 (putDat_u8 _ XO.out.dat) (Nat.le_trans (putDat_len _ XO.out.dat) (by decide)) ⟨by omega, by omega⟩ (by omega))
                  clear r7 b7 KP e0 e1 e2 e3 e4 e5
                  go_wp2_with fail
                  refine KT.out.mono ?_
                  rintro e w8 ⟨tv, hP, hC⟩
                  obtain ⟨A8, c8, rfl, r8, n8⟩ := tv.un
                  have P8 : Hid (PeP w8 (GrowB F1 w7 w8) (fun _ => False) q (s.takeB (putDatP x.dat) j).1) := Lib.hid (hP.sub (fun k hk e => ⟨e, hk⟩) (fun _ _ e => .inr e))
                  have RW8 := Lib.hid (RW7.out.chg hC (fun b off e hn hf => by have := S0.out.rb b off e hn; have := (HF.out b hf).2; omega))
                  have HB8 := Lib.hid (HB7.out.trans (hC.below HB7.out.size (fun k hk hf => by have := (HF.out k hf).1; omega)))
                  have D8 := Lib.hid (Nat.le_trans D7.out hC.size)
                  have HF8 : Hid (∀ k, GrowB F1 w7 w8 k → w.heap.size ≤ k ∧ E ≤ k) := Lib.hid (fun k hk => hk.1.elim (HF.out k) (fun h => ⟨Nat.le_trans HB7.out.size h, Nat.le_trans D7.out h⟩))
                  have SE := PS.takeB_put s x.dat XO.out.dat j
                  have hpn : x.dat.pn = j := by show (x.pn : Int) = j; rw [XP.out]
                  have FR := S0.out.ln.fresh P0.out.good.mid (d := x.dat) hpn
                  have LN := S0.out.ln.take P0.out.good XO.out.dat hpn rfl (by show (2 : Int) ≠ 3; decide) j
                  have SS := (PS.take_s s x.dat j).2 FR
                  rw [← SE] at SS LN
                  have T8 : Hid (Pr3 w E pl (some ⟨bp, op, none⟩) c q (j + 1) (s.takeB (putDatP x.dat) j).1 w8) := Lib.hid ⟨⟨_, P8.out, HF8.out⟩, RW8.out, S0.out.rb, LN, by rw [SS.1, S0.out.ss, TK.out, List.map_append]; rfl, by
                    rw [SS.2, S0.out.b, TK.out, List.map_append, List.map_append, List.sum_append]
                    show _ + (x.b.length : Int) = _
                    simp only [List.map_cons, List.map_nil, List.sum_cons, List.sum_nil]
                    show _ + (x.b.length : Int) = _ + ((x.b.length : Int) + 0)
                    omega, HB8.out⟩
                  clear tv hP hC r8 n8 KT P7 RW7 HB7 SE SS LN FR hpn P8 RW8 HB8 HF8 S0 P0 TK
                  go_wp2
                  go_roundw
                  case rel => exact ⟨j + 1, _, by omega, by go_num, Lib.hid ⟨T8.out, D8.out⟩⟩
                  case measure => simp [intOf]; omega
                · obtain rfl : j = pl.length := by omega
                  obtain ⟨F1, PR, hF⟩ := S.out.1.ex
                  have bel := S.out.1.bel
                  have h1 := S.out.1.ss
                  have h2 := S.out.1.b
                  rw [List.take_length] at h1 h2
                  have h3 := PSS.out.ord.sum
                  have I1 : Hid (PS.IsStream s.s t) := Lib.hid (by rw [h1]; exact PSS.out.ord.whole)
                  have I2 : Hid (s.bytes = (t.length : Int)) := Lib.hid (by rw [h2]; exact h3)
                  have PP := Lib.hid (PR.below (Below.refl wr.heap.size wr).drew)
                  have BB := Lib.hid (show Below w.heap.size w wr.drew from bel.trans (Below.refl _ _).drew)
                  have wT : IntKind.u64.wrap (t.length : Int) = t.length := IntWalk.u64_in _ (by omega)
                  have cv2 := conv_mix (dst := 9) Try.underlying22 Try.underlying5 Try.underlying9 (F := fun _ => False) (R0.out.below bel) (fun _ _ _ _ h => h)
                  clear PR hF bel h1 h2 h3 S
                  go_upto_region 30 with fail
                  refine wp_region_chgL (fun _ => False) [2] (by kernel_rfl) (by kernel_rfl) ?_
                  repeat (first | (refine wpMixL_seg rfl rfl ?_; go_big_quiet_step (fail); refine wpQuiet_nil ?_) | (refine wpMixL_late rfl rfl ?_; go_big_quiet_step (fail); refine wpQuiet_nil ?_))
                  generalize wr.drew = w9 at *
                  refine wpMixL_bar rfl (by rfl) ?_
                  go_wp2_with fail
                  refine (peer_stream w9 F1 (fun _ => False) q s PP.out).mono ?_
                  rintro e w10 ⟨A10, c10, out, rfl, I10, r10, b10⟩
                  go_wp2
                  refine ⟨chg_mixF (chg_below b10), ?_⟩
                  obtain rfl := I1.out.unique I10
                  have PP10 := Lib.hid (PP.out.below b10)
                  have BB10 := Lib.hid (BB.out.trans (b10.mono BB.out.size))
                  have cv1 := conv_mix (dst := 9) Try.underlying22 Try.underlying5 Try.underlying9 (F := fun _ => False) r10 (fun _ _ _ _ h => h)
                  clear b10 r10 I10 PP BB
                  repeat (first | (refine wpMixL_seg rfl rfl ?_; go_big_quiet_step (fail); refine wpQuiet_nil ?_) | (refine wpMixL_late rfl rfl ?_; go_big_quiet_step (fail); refine wpQuiet_nil ?_))
                  have KB := peer_pbytes w10 F1 (fun _ => False) q s PP10.out
                  rw [I2.out] at KB
                  have KB := Lib.hid KB
                  refine wpMixL_bar rfl (by rfl) ?_
                  go_wp2_with fail
                  refine (KB.out).mono ?_
                  rintro e w11 ⟨rfl, rfl⟩
                  go_wp2
                  refine ⟨chg_mixF (Chg.refl _ _), ?_⟩
                  repeat (first | (refine wpMixL_seg rfl rfl ?_; go_big_quiet_step (fail); refine wpQuiet_nil ?_) | (refine wpMixL_late rfl rfl ?_; go_big_quiet_step (fail); refine wpQuiet_nil ?_))
                  refine wpMixL_nil ?_
                  go_wp2
                  go_ret
                  exact ⟨rfl, BB10.out⟩

end Go.Proofs.Ytkedfipeebjcjaa

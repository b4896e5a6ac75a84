/-
  The laws of chapter 27: a Pack, its packet, its bytes. · The laws of chapter 27: a Pack's bytes.
-/
import Derived.Test.YtkedfipeebjcjaaPdt
namespace Go.Proofs.Ytkedfipeebjcjaa
set_option linter.unusedSimpArgs false
set_option linter.unusedVariables false
set_option linter.unnecessarySimpa false
open Go.RowKit
attribute [local go_sem ↓] run_min_int run_max_int

/-- A datagram that comes. -/
structure Pk where
  kind : Int
  n : Int
  ecn : Int
  pn : Int
  least : Int
  off : Int
  nonce : Int
  wait : Int
  tick : Bool
  A : Option Addr
  c : Nat
  b : List Int
def Pk.cells (x : Pk) : List Value := [.int .u8 x.kind, .int .u8 x.n, .int .u8 x.ecn, .int .u16 x.pn, .int .u16 x.least, .int .u16 x.off, .int .u64 x.nonce, .int .u32 x.wait, .bool x.tick, .slice x.A x.b.length x.c]
structure Pk.Ok (x : Pk) : Prop where
  k : 0 ≤ x.kind ∧ x.kind ≤ 255
  n : 0 ≤ x.n ∧ x.n ≤ 255
  e : 0 ≤ x.ecn ∧ x.ecn ≤ 255
  p : 0 ≤ x.pn ∧ x.pn ≤ 65535
  l : 0 ≤ x.least ∧ x.least ≤ 65535
  o : 0 ≤ x.off ∧ x.off ≤ 65535
  nn : isU64 x.nonce
  w : 0 ≤ x.wait ∧ x.wait ≤ 4294967295
  u8 : ∀ y ∈ x.b, 0 ≤ y ∧ y ≤ 255
def bodyK (off : Int) (k : Nat) : List Int := (List.range k).map fun (i : Nat) => (off + i) % 256
theorem bodyK_succ (off : Int) (k : Nat) : bodyK off (k + 1) = bodyK off k ++ [(off + k) % 256] := by simp [bodyK, List.range_succ]
theorem bodyK_len (off : Int) (k : Nat) : (bodyK off k).length = k := by simp [bodyK]
theorem bodyK_u8 (off : Int) (k : Nat) : ∀ x ∈ bodyK off k, 0 ≤ x ∧ x ≤ 255 := by
  intro x hx
  obtain ⟨i, _, rfl⟩ := List.mem_map.1 hx
  have h1 := Int.emod_nonneg (off + (i : Int)) (show (256 : Int) ≠ 0 by decide)
  have h2 := Int.emod_lt_of_pos (off + (i : Int)) (show (0 : Int) < 256 by decide)
  omega
/-- Its packet. -/
def Pk.dat (x : Pk) : DatD := ⟨x.pn % 150, if x.least % 4 > 0 then 0 else x.least % (x.pn % 150 + 1), x.off % 300, x.nonce, 1 + x.ecn % 3, bodyK (x.off % 300) ((x.n % 20).toNat + 1)⟩
theorem Pk.dat_ok (x : Pk) (h : x.Ok) : x.dat.Ok := by
  have h1 := h.p; have h2 := h.l; have h3 := h.o; have h4 := h.e; have h5 := h.n
  refine ⟨by show x.pn % 150 ≤ _; omega, ?_, ?_, h.nn, by show 1 ≤ 1 + x.ecn % 3 ∧ 1 + x.ecn % 3 ≤ 3; omega, ?_, bodyK_u8 _ _⟩
  · show 0 ≤ (if x.least % 4 > 0 then 0 else x.least % (x.pn % 150 + 1)) ∧ (if x.least % 4 > 0 then 0 else x.least % (x.pn % 150 + 1)) ≤ x.pn % 150
    split
    · omega
    · have a := Int.emod_nonneg x.least (show x.pn % 150 + 1 ≠ 0 by omega)
      have b := Int.emod_lt_of_pos x.least (show 0 < x.pn % 150 + 1 by omega)
      omega
  · show 0 ≤ x.off % 300 ∧ x.off % 300 + ((bodyK (x.off % 300) ((x.n % 20).toNat + 1)).length : Int) ≤ _
    rw [bodyK_len]
    omega
  · show 1 ≤ (bodyK (x.off % 300) ((x.n % 20).toNat + 1)).length ∧ (bodyK (x.off % 300) ((x.n % 20).toNat + 1)).length ≤ 1500
    rw [bodyK_len]
    omega
/-- What comes. -/
def Pk.bytes (x : Pk) : List Int := if x.kind % 8 = 0 then x.b.take 200 else putDatP x.dat
theorem Pk.bytes_u8 (x : Pk) (h : x.Ok) : ∀ y ∈ x.bytes, 0 ≤ y ∧ y ≤ 255 := by
  unfold Pk.bytes
  split
  · exact fun y hy => h.u8 y (List.mem_of_mem_take hy)
  · exact putDat_u8 _ (x.dat_ok h)
theorem Pk.bytes_len (x : Pk) (h : x.Ok) : x.bytes.length ≤ 2000 := by
  unfold Pk.bytes
  split
  · rw [List.length_take]; omega
  · exact putDat_len _ (x.dat_ok h)

theorem boxes3 (w : World) (p z d : Array Value) (tp tz td : TypeId) : (((w.alloc (.cells p tp)).alloc (.cells z tz)).alloc (.cells d td)).heap[w.heap.size]? = some (.cells p tp (0, 0)) ∧ (((w.alloc (.cells p tp)).alloc (.cells z tz)).alloc (.cells d td)).heap[w.heap.size + 1]? = some (.cells z tz (0, 0)) ∧
    (((w.alloc (.cells p tp)).alloc (.cells z tz)).alloc (.cells d td)).heap[w.heap.size + 1 + 1]? = some (.cells d td (0, 0)) ∧ Below w.heap.size w (((w.alloc (.cells p tp)).alloc (.cells z tz)).alloc (.cells d td)) := by
  have h1 := heap_alloc_new w (.cells p tp)
  have h2 := heap_alloc_new (w.alloc (.cells p tp)) (.cells z tz)
  have h3 := heap_alloc_new ((w.alloc (.cells p tp)).alloc (.cells z tz)) (.cells d td)
  have b1 := box_below w (.cells p tp)
  have b2 := box_below (w.alloc (.cells p tp)) (.cells z tz)
  have b3 := box_below ((w.alloc (.cells p tp)).alloc (.cells z tz)) (.cells d td)
  have s1 : (w.alloc (.cells p tp)).heap.size = w.heap.size + 1 := by rw [World.size_alloc]
  have s2 : ((w.alloc (.cells p tp)).alloc (.cells z tz)).heap.size = w.heap.size + 1 + 1 := by rw [World.size_alloc, World.size_alloc]
  rw [s1] at h2 b2
  rw [s2] at h3 b3
  exact ⟨(b3.block _ (by omega)).trans ((b2.block _ (by omega)).trans h1), (b3.block _ (by omega)).trans h2, h3, b1.trans ((b2.mono (by omega)).trans (b3.mono (by omega)))⟩
/-- Where the walk of Data stands. -/
structure DkS (w : World) (x : Pk) (k : Nat) (A : Option Addr) (c : Nat) (W : World) : Prop where
  p : W.heap[w.heap.size]? = some (.cells #[.int .u8 x.kind, .int .u8 x.n, .int .u8 x.ecn, .int .u16 x.pn, .int .u16 x.least, .int .u16 x.off, .int .u64 x.nonce, .int .u32 x.wait, .bool x.tick, .slice x.A x.b.length x.c] 41 (0, 0))
  z : W.heap[w.heap.size + 1]? = some (.cells zDat 30 (0, 0))
  t : W.heap[w.heap.size + 1 + 1]? = some (.cells #[.int .u64 x.dat.pn, .int .u64 x.dat.least, .int .u64 x.dat.off, .int .u64 x.dat.nonce, .int .i64 x.dat.ecn, .slice A k c] 30 (0, 0))
  o : W.ownsRow (w.heap.size + 3) 5 1 (.slice A k c) k (U8 (bodyK x.dat.off k))
  bel : Below w.heap.size w W
theorem DkS.step {w W W' : World} {x : Pk} {k c c' : Nat} {A A' : Option Addr} (h : DkS w x k A c W) (hg : W.grownBy W' (Value.slice A k c).ownBlock) (o : W'.ownsRow (w.heap.size + 3) 5 1 (.slice A' (k + 1) c') (k + 1) (U8 (bodyK x.dat.off k) ++ [.int .u8 ((x.dat.off + k) % 256)])) :
    DkS w x (k + 1) A' c' (W'.setCell ⟨w.heap.size + 1 + 1, 5, none⟩ (.slice A' (k + 1) c')) := by
  have hC1 : Chg (fun j => w.heap.size + 3 ≤ j) W W' := (Chg.refl _ _).grown hg (fun g e => .inl (h.o.lt g e).1)
  have hC2 : Chg (fun j => j = w.heap.size + 1 + 1) W' (W'.setCell ⟨w.heap.size + 1 + 1, 5, none⟩ (.slice A' (k + 1) c')) := (Chg.refl (fun j => j = w.heap.size + 1 + 1) W').setCell (p := ⟨w.heap.size + 1 + 1, 5, none⟩) (.inl rfl) _
  refine ⟨hC2.blk (hC1.blk h.p (by omega)) (by omega), hC2.blk (hC1.blk h.z (by omega)) (by omega), heap_setCell_same W' (w.heap.size + 1 + 1) 5 _ _ (.slice A' (k + 1) c') (hC1.blk h.t (by omega)), ?_, ?_⟩
  · rw [bodyK_succ, U8_append]
    exact own_chg o hC2 (fun g e e2 => by have := (o.lt g e).1; omega)
  · have b1 := h.bel.trans (hC1.below h.bel.size (fun j hj e => by omega))
    exact b1.trans (hC2.below b1.size (fun j hj e => by omega))

set_option maxHeartbeats 2000000 in
set_option maxRecDepth 100000 in
theorem pk_data (w : World) (x : Pk) (h : x.Ok) :
    Calls Try.prog 41 #[.agg #[.int .u8 x.kind, .int .u8 x.n, .int .u8 x.ecn, .int .u16 x.pn, .int .u16 x.least, .int .u16 x.off, .int .u64 x.nonce, .int .u32 x.wait, .bool x.tick, .slice x.A x.b.length x.c]] w fun e w' => ∃ A c, e = .returned (.agg (x.dat.cells A x.dat.body.length c)) ∧ Rd w' 1 A x.dat.body.length c (U8 x.dat.body) ∧ Below w.heap.size w w' := by
  obtain ⟨iB, hiB, bz0, bz1, bz2⟩ := info_parts infoByte
  have h1 := h.p; have h2 := h.l; have h3 := h.o; have h4 := h.e; have h5 := h.n
  have HBL : Hid (x.dat.body = bodyK x.dat.off ((x.n % 20).toNat + 1)) := Lib.hid rfl
  have HOF : Hid (x.dat.off = x.off % 300) := Lib.hid rfl
  obtain ⟨m, hm⟩ : ∃ m : Nat, (m : Int) = x.n % 20 := ⟨(x.n % 20).toNat, by omega⟩
  have HM : Hid ((x.n % 20).toNat = m) := Lib.hid (by omega)
  have HM2 := Lib.hid hm
  have hm20 : m < 20 := by omega
  clear hm
  go_enter Try.func41, Try.ntmps41
  go_upto_region 3 with fail
  by_cases hq : 0 < x.least % 4
  all_goals
    first
      | have HLE : Hid (x.dat.least = 0) := Lib.hid (if_pos hq)
      | have HLE : Hid (x.dat.least = x.least % (x.pn % 150 + 1)) := Lib.hid (if_neg hq)
    go_upto_region 5 with fail
    go_wp2_with fail
    go_loopw [4] (fun i wr => ∃ (k : Nat) (A : Option Addr) (c : Nat), i = .int .i64 k ∧ k ≤ m + 1 ∧ Hid (DkS w x k A c wr)) (fun i _ => m + 1 - (intOf i).toNat)
    case atStart =>
      refine ⟨0, none, 0, rfl, Nat.zero_le _, Lib.hid ⟨(boxes3 w _ _ _ _ _ _).1, (boxes3 w _ _ _ _ _ _).2.1, ?_, World.ownsRow_nil _ _ _ _, (boxes3 w _ _ _ _ _ _).2.2.2⟩⟩
      rw [HLE.out]
      exact (boxes3 w _ _ _ _ _ _).2.2.1
    case round =>
      obtain ⟨k, A, c, rfl, hk, S⟩ := hrel
      have t5 := cell_of_row wr (w.heap.size + 1 + 1) 5 _ _ _ S.out.t
      have ft5 := frozen_of_row wr (w.heap.size + 1 + 1) 5 _ _ S.out.t
      have t2 : wr.cell? ⟨w.heap.size + 1 + 1, 2, none⟩ = some (.int .u64 (x.off % 300)) := by rw [← HOF.out]; exact cell_of_row wr (w.heap.size + 1 + 1) 2 _ _ _ S.out.t
      have p1 : wr.cell? ⟨w.heap.size, 1, none⟩ = some (.int .u8 x.n) := cell_of_row wr w.heap.size 1 _ _ _ S.out.p
      have wn : Int.tmod x.n 20 = (m : Int) := by rw [Int.tmod_eq_emod_of_nonneg (by omega)]; exact HM2.out.symm
      have wn2 : x.n % 20 = (m : Int) := HM2.out.symm
      have wk : IntKind.i64.wrap (x.off % 300) = x.off % 300 := IntWalk.i64_in _ (by omega)
      have hgs := S.out.bel.size
      have hsz := lt_of_block S.out.t
      have hcp := (Rd.of_own S.out.o).cap
      by_cases hlt : k ≤ m
      · have wb : IntKind.u8.wrap (x.off % 300 + (k : Int)) = (x.off % 300 + k) % 256 := by simp [IntKind.wrap, IntKind.bits, IntKind.signed]
        go_wp2_with (
          at_builtin
          refine wpList_app1 _ rfl (.tmp 43) (.tmp 50) 22 rfl (w.heap.size + 3) 5 iB (.int .u8 0) 1 1 Try.underlying22 hiB bz0 bz1 bz2 rfl (by decide) (.slice A k c) k (U8 (bodyK x.dat.off k)) rfl S.out.o #[.int .u8 ((x.off % 300 + k) % 256)] _ rfl (by simp) rfl (by simp [Value.oneCell']) (by unfold maxLen; omega) (by omega) (by omega) ?_
          intro v8 w8 hown8 hg8 _
          obtain ⟨A8, c8, hv8, -⟩ := own_slice hown8
          subst hv8
          rw [← HOF.out] at hown8
          have S8 := Lib.hid (S.out.step hg8 hown8)
          have B8 : Chg (fun j => w.heap.size + 3 ≤ j) wr w8 := (Chg.refl _ _).grown hg8 (fun g e => .inl (S.out.o.lt g e).1)
          have T8 := B8.blk S.out.t (by omega)
          have y5 := cell_of_row w8 (w.heap.size + 1 + 1) 5 _ _ _ T8
          have fy5 := frozen_of_row w8 (w.heap.size + 1 + 1) 5 _ _ T8
          clear hown8 hg8 T8 B8)
        go_roundw
        case rel => exact ⟨k + 1, A8, c8, by go_num, by omega, S8⟩
        case measure => simp [intOf]; omega
      · have HK1 : Hid (k = m + 1) := Lib.hid (by omega)
        have hkm : (m : Int) < k := by omega
        have hkd : decide ((k : Int) ≤ (m : Int)) = false := decide_eq_false (by omega)
        have TT := Lib.hid S.out.t
        have OO := Lib.hid S.out.o
        have BB := Lib.hid S.out.bel
        have ZZ : Hid (wr.heap[w.heap.size + 1]? = some (.cells #[.int .u64 0, .int .u64 0, .int .u64 0, .int .u64 0, .int .i64 0, .slice none 0 0] 30 (0, 0))) := Lib.hid S.out.z
        have hlen : Hid (x.dat.body.length = k) := Lib.hid (by rw [HBL.out, bodyK_len, HM.out, HK1.out])
        have HB2 : Hid (x.dat.body = bodyK x.dat.off k) := Lib.hid (by rw [HBL.out, HM.out, HK1.out])
        clear t5 ft5 t2 S HLE HOF wk HBL HM hk hlt hcp hgs hsz
        go_upto_region 9 with fail
        obtain ⟨d, hd⟩ : ∃ d, d = x.dat := ⟨_, rfl⟩
        rw [← hd] at TT OO HB2 hlen
        have HD := Lib.hid hd
        clear hd
        have E5 : Hid (((((((wr.setCell ⟨w.heap.size + 1, 0, none⟩ (.int .u64 d.pn)).setCell ⟨w.heap.size + 1, 1, none⟩ (.int .u64 d.least)).setCell ⟨w.heap.size + 1, 2, none⟩ (.int .u64 d.off)).setCell ⟨w.heap.size + 1, 3, none⟩ (.int .u64 d.nonce)).setCell ⟨w.heap.size + 1, 4, none⟩ (.int .i64 d.ecn)).setCell ⟨w.heap.size + 1, 5, none⟩ (.slice A k c)).heap[w.heap.size + 1]? = some (.cells #[.int .u64 d.pn, .int .u64 d.least, .int .u64 d.off, .int .u64 d.nonce, .int .i64 d.ecn, .slice A k c] 30 (0, 0))) := Lib.hid (heap_setCell_same _ (w.heap.size + 1) 5 _ _ (.slice A k c) (heap_setCell_same _ (w.heap.size + 1) 4 _ _ (.int .i64 d.ecn) (heap_setCell_same _ (w.heap.size + 1) 3 _ _ (.int .u64 d.nonce) (heap_setCell_same _ (w.heap.size + 1) 2 _ _ (.int .u64 d.off) (heap_setCell_same _ (w.heap.size + 1) 1 _ _ (.int .u64 d.least) (heap_setCell_same wr (w.heap.size + 1) 0 _ _ (.int .u64 d.pn) ZZ.out))))))
        have CC : Hid (Chg (fun j => j = w.heap.size + 1) wr ((((((wr.setCell ⟨w.heap.size + 1, 0, none⟩ (.int .u64 d.pn)).setCell ⟨w.heap.size + 1, 1, none⟩ (.int .u64 d.least)).setCell ⟨w.heap.size + 1, 2, none⟩ (.int .u64 d.off)).setCell ⟨w.heap.size + 1, 3, none⟩ (.int .u64 d.nonce)).setCell ⟨w.heap.size + 1, 4, none⟩ (.int .i64 d.ecn)).setCell ⟨w.heap.size + 1, 5, none⟩ (.slice A k c))) := Lib.hid (((((((Chg.refl (fun j => j = w.heap.size + 1) wr).setCell (p := ⟨w.heap.size + 1, 0, none⟩) (.inl rfl) _).setCell (p := ⟨w.heap.size + 1, 1, none⟩) (.inl rfl) _).setCell (p := ⟨w.heap.size + 1, 2, none⟩) (.inl rfl) _).setCell (p := ⟨w.heap.size + 1, 3, none⟩) (.inl rfl) _).setCell (p := ⟨w.heap.size + 1, 4, none⟩) (.inl rfl) _).setCell (p := ⟨w.heap.size + 1, 5, none⟩) (.inl rfl) _)
        have zz := ZZ.out
        have tt := TT.out
        have y0 := cell_of_row wr (w.heap.size + 1 + 1) 0 _ _ _ tt
        have y1 := cell_of_row wr (w.heap.size + 1 + 1) 1 _ _ _ tt
        have y2 := cell_of_row wr (w.heap.size + 1 + 1) 2 _ _ _ tt
        have y3 := cell_of_row wr (w.heap.size + 1 + 1) 3 _ _ _ tt
        have y4 := cell_of_row wr (w.heap.size + 1 + 1) 4 _ _ _ tt
        have y5 := cell_of_row wr (w.heap.size + 1 + 1) 5 _ _ _ tt
        have z0 := cell_of_row wr (w.heap.size + 1) 0 _ _ _ zz
        have fz0 := frozen_of_row wr (w.heap.size + 1) 0 _ _ zz
        have z1 := cell_of_row wr (w.heap.size + 1) 1 _ _ _ zz
        have fz1 := frozen_of_row wr (w.heap.size + 1) 1 _ _ zz
        have z2 := cell_of_row wr (w.heap.size + 1) 2 _ _ _ zz
        have fz2 := frozen_of_row wr (w.heap.size + 1) 2 _ _ zz
        have z3 := cell_of_row wr (w.heap.size + 1) 3 _ _ _ zz
        have fz3 := frozen_of_row wr (w.heap.size + 1) 3 _ _ zz
        have z4 := cell_of_row wr (w.heap.size + 1) 4 _ _ _ zz
        have fz4 := frozen_of_row wr (w.heap.size + 1) 4 _ _ zz
        have z5 := cell_of_row wr (w.heap.size + 1) 5 _ _ _ zz
        have fz5 := frozen_of_row wr (w.heap.size + 1) 5 _ _ zz
        clear zz tt wn wn2 p1 HM2 hm20 hkm hkd
        go_wp2
        (try simp only [Exit.inBlock, Exit.then])
        rw [← HD.out, hlen.out]
        refine bodyPost_ret (results_cell_row rfl _ _ (w.heap.size + 1) _ _ _ _ rfl E5.out Try.underlying30 rfl infoData) rfl ⟨A, c, rfl, ?_, ?_⟩
        · rw [HB2.out]
          have hne : ∀ b off, A = some ⟨b, off, none⟩ → b ≠ w.heap.size + 1 := fun b off e => by
            have := own_base2 OO.out b off e (by rw [HK1.out]; omega)
            omega
          exact (Rd.of_own OO.out).chg CC.out (fun b off e hn e2 => hne b off e e2)
        · exact BB.out.trans (CC.out.below BB.out.size (fun j hj e => by omega))

end Go.Proofs.Ytkedfipeebjcjaa

namespace Go.Proofs.Ytkedfipeebjcjaa
set_option linter.unusedSimpArgs false
set_option linter.unusedVariables false
set_option linter.unnecessarySimpa false
open Go.RowKit
attribute [local go_sem ↓] run_min_int run_max_int

set_option maxHeartbeats 2000000 in
set_option maxRecDepth 100000 in
theorem pk_bytes (w : World) (x : Pk) (h : x.Ok) (hr : Rd w 1 x.A x.b.length x.c (U8 x.b)) :
    Calls Try.prog 14 #[.agg #[.int .u8 x.kind, .int .u8 x.n, .int .u8 x.ecn, .int .u16 x.pn, .int .u16 x.least, .int .u16 x.off, .int .u64 x.nonce, .int .u32 x.wait, .bool x.tick, .slice x.A x.b.length x.c]] w fun e w' => ∃ A c, e = .returned (.slice A x.bytes.length c) ∧ Rd w' 1 A x.bytes.length c (U8 x.bytes) ∧ Below w.heap.size w w' ∧ ∀ b off, A = some ⟨b, off, none⟩ → 0 < x.bytes.length → (0 < x.b.length ∧ x.A = some ⟨b, off, none⟩) ∨ w.heap.size ≤ b := by
  have hk0 := h.k
  have e1 := box_below w (.cells #[.int .u8 x.kind, .int .u8 x.n, .int .u8 x.ecn, .int .u16 x.pn, .int .u16 x.least, .int .u16 x.off, .int .u64 x.nonce, .int .u32 x.wait, .bool x.tick, .slice x.A x.b.length x.c] 41)
  have B1 := Lib.hid e1
  have R1 := Lib.hid (hr.below e1)
  have KD := Lib.hid (pk_data (w.alloc (.cells #[.int .u8 x.kind, .int .u8 x.n, .int .u8 x.ecn, .int .u16 x.pn, .int .u16 x.least, .int .u16 x.off, .int .u64 x.nonce, .int .u32 x.wait, .bool x.tick, .slice x.A x.b.length x.c] 41)) x h)
  have HO := Lib.hid h
  have hmx := hr.max
  have hcp := hr.cap
  have wm : Int.tmod x.kind 8 = x.kind % 8 := Int.tmod_eq_emod_of_nonneg (by omega)
  clear h e1
  by_cases hk : x.kind % 8 = 0
  · have HB : Hid (x.bytes = x.b.take 200) := Lib.hid (if_pos hk)
    have k1 : (x.kind % 8 == 0) = true := by simp [hk]
    obtain ⟨m, hm⟩ : ∃ m : Nat, m = min x.b.length 200 := ⟨_, rfl⟩
    have HM := Lib.hid hm
    have hm1 : min (x.b.length : Int) 200 = m := by omega
    have hml : m ≤ x.b.length := by omega
    have TK : Hid (x.b.take 200 = x.b.take m ∧ (x.b.take 200).length = m) := Lib.hid ⟨by
      by_cases h1 : x.b.length ≤ 200
      · rw [List.take_of_length_le h1, hm, Nat.min_eq_left h1, List.take_length]
      · rw [hm, Nat.min_eq_right (by omega)], by rw [List.length_take]; omega⟩
    clear hm hk KD
    unfold maxLen at hmx
    go_enter Try.func14, Try.ntmps14
    go_wp2
    go_ret
    rw [HB.out, TK.out.2, TK.out.1]
    have hr9 := R1.out.take hml
    rw [Nat.mul_one, show (U8 x.b).take m = U8 (x.b.take m) by simp [U8, List.map_take]] at hr9
    refine ⟨x.A, x.c, rfl, hr9, B1.out, fun b off e hn => .inl ⟨?_, e⟩⟩
    have : m ≤ x.b.length := hml
    omega
  · have HB : Hid (x.bytes = putDatP x.dat) := Lib.hid (if_neg hk)
    have k1 : (x.kind % 8 == 0) = false := by simp [hk]
    clear hk R1
    go_enter Try.func14, Try.ntmps14
    go_wp2_with fail
    refine KD.out.mono ?_
    rintro e w2 ⟨A2, c2, rfl, r2, b2⟩
    have KP := Lib.hid (ref_putData w2 x.dat A2 c2 (x.dat_ok HO.out) r2)
    have B2 := Lib.hid (B1.out.trans (b2.mono B1.out.size))
    clear KD r2 b2
    go_wp2_with fail
    refine KP.out.mono ?_
    rintro e w3 ⟨A3, c3, rfl, r3, b3, n3⟩
    have N3 := Lib.hid n3
    have S2 := Lib.hid B2.out.size
    have R3 := Lib.hid r3
    have B3 := Lib.hid (B2.out.trans (b3.mono B2.out.size))
    clear r3 b3 n3 KP
    go_wp2
    go_ret
    rw [HB.out]
    exact ⟨A3, c3, rfl, R3.out, B3.out, fun b off e hn => .inr (Nat.le_trans S2.out (N3.out b off e))⟩

end Go.Proofs.Ytkedfipeebjcjaa

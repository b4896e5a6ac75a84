/-
  A frame that comes: Shot.Frame. · The law's example (alive). · Frames that come one behind the other: where a law's loop stands.
-/
import Derived.Test.YtpfmhkkglaghgaaGreatGuB
import Derived.Test.YtpfmhkkglaghgaaGreatOct7
import Derived.Test.YtpfmhkkglaghgaaGreatAskR
import Derived.Test.YtpfmhkkglaghgaaGreatDo
import Derived.Deep.DeepCutAuto
import Derived.Deep.RegionHeld3
namespace Go.Proofs.YtpfmhkkglaghgaaGreat
set_option linter.unusedSimpArgs false
set_option linter.unusedVariables false
set_option linter.unnecessarySimpa false
open Go.RowKit
attribute [local go_sem ↓] run_min_int run_max_int

structure Sh where
  kind : Int
  A : Option Addr
  c : Nat
  b : List Int
  k : W4
  x : Int
  right : Bool
  wait : Int
def Sh.vals (s : Sh) : List Value := [.int .i64 s.kind, .slice s.A s.b.length s.c, .int .u16 s.k.a, .int .u16 s.k.b, .int .u16 s.k.c, .int .u16 s.k.d, .int .u64 s.x, .bool s.right, .int .u16 s.wait]
def Sh.val (s : Sh) : Value := .agg #[.int .i64 s.kind, .slice s.A s.b.length s.c, .int .u16 s.k.a, .int .u16 s.k.b, .int .u16 s.k.c, .int .u16 s.k.d, .int .u64 s.x, .bool s.right, .int .u16 s.wait]
structure Sh.ok (w : World) (s : Sh) : Prop where
  r : Rd w 1 s.A s.b.length s.c (U8 s.b)
  by_ : ∀ x ∈ s.b, 0 ≤ x ∧ x ≤ 255
  k : s.k.ok
  x : isU64 s.x
  w : 0 ≤ s.wait ∧ s.wait ≤ 65535
theorem Sh.ok.below {w w' : World} {s : Sh} (h : s.ok w) (b : Below w.heap.size w w') : s.ok w' := ⟨h.r.below b, h.by_, h.k, h.x, h.w⟩
theorem and7 (b : Int) (h : isU64 b) : bits .and .u64 b 7 = b % 8 := by
  obtain ⟨h0, h1⟩ := h
  rw [u64_and _ _ h0 h1 (by omega) (by omega)]
  obtain ⟨n, rfl⟩ : ∃ n : Nat, b = n := ⟨b.toNat, by omega⟩
  have := and_nat n 3
  simp only [Int.toNat_natCast]
  have e : (7 : Int).toNat = 2 ^ 3 - 1 := rfl
  rw [e, this]
  omega
theorem rowGo_u8 : ∀ (l : List Sp) (low : Int), 0 ≤ low → Gd l → (∀ s ∈ l, low ≤ s.1) → ∀ x ∈ rowGo low l, 0 ≤ x ∧ x ≤ 255
  | [], _, _, _, _ => fun x hx => by simp [rowGo] at hx
  | s :: l, low, h0, hg, hl => fun x hx => by
    have hs := hg.1 s (List.mem_cons_self ..)
    have h1 := hs.1
    have h2 : s.2 ≤ 4611686018427387903 := hs.2
    have h3 := hl s (List.mem_cons_self ..)
    simp only [rowGo, List.mem_append] at hx
    rcases hx with hx | hx | hx
    · exact putN_u8 _ (by omega) (by omega) x hx
    · exact putN_u8 _ (by omega) (by omega) x hx
    · exact rowGo_u8 l (s.2 + 2) (by omega) hg.tail (fun y hy => by have := (List.pairwise_cons.1 hg.2).1 y hy; omega) x hx
theorem rowBytes_u8 {l : List Sp} (hg : Gd l) (h0 : ∀ s ∈ l, 0 ≤ s.1) (hl : l.length ≤ 32) : ∀ x ∈ rowBytes l, 0 ≤ x ∧ x ≤ 255 := by
  intro x hx
  rcases List.mem_cons.1 hx with rfl | hx
  · omega
  · exact rowGo_u8 l 0 (Int.le_refl _) hg h0 x hx
theorem putAck_u8 {a : AckD} (h1 : Gd a.sp) (h2 : Gd a.mm) (p1 : ∀ s ∈ a.sp, 0 ≤ s.1) (p2 : ∀ s ∈ a.mm, 0 ≤ s.1) (l2 : a.sp.length ≤ 32) (l3 : a.mm.length ≤ 32) : (∀ x ∈ putAckP a, 0 ≤ x ∧ x ≤ 255) ∧ (putAckP a).length ≤ 2000 := by
  refine ⟨fun x hx => ?_, ?_⟩
  · simp only [putAckP, List.mem_cons, List.mem_append, eightN] at hx
    rcases hx with rfl | hx | hx | hx | hx | hx
    · omega
    · exact rowBytes_u8 h1 p1 l2 x hx
    · exact rowBytes_u8 h2 p2 l3 x hx
    · exact bytesN_u8 _ _ x hx
    · exact bytesN_u8 _ _ x hx
    · rcases hx with rfl | hx
      · split <;> omega
      · cases hx
  · have e1 := rowBytes_le h1 p1 l2
    have e2 := rowBytes_le h2 p2 l3
    simp [putAckP, eightN]
    omega
/-- What a frame is. -/
def FrameVal (w w' : World) (s : Sh) (e : Ending) : Prop := ∃ (A : Option Addr) (c : Nat) (l : List Int), e = .returned (.slice A l.length c) ∧ Rd w' 1 A l.length c (U8 l) ∧ (∀ x ∈ l, 0 ≤ x ∧ x ≤ 255) ∧ l.length ≤ 70368744177664 ∧ Below w.heap.size w w' ∧
  (∀ b off, A = some ⟨b, off, none⟩ → 0 < l.length → (∃ off', s.A = some ⟨b, off', none⟩ ∧ 0 < s.b.length) ∨ w.heap.size ≤ b)

theorem sumU (s : LS) (cl mk : List Sp) (g : s.Good) : isU64 (s.sum cl mk).1 := by
  unfold LS.sum
  split
  · exact LS.sumX_u64 _ _ g.keptOk
  · exact ⟨by decide, by decide⟩
theorem Asked.parts {w : World} {a : Ak} (h : Asked a) (r : AkR w a) : Gd a.sp ∧ Gd a.mm ∧ (∀ s ∈ a.sp, 0 ≤ s.1) ∧ (∀ s ∈ a.mm, 0 ≤ s.1) ∧ 1 ≤ a.sp.length ∧ a.sp.length ≤ 32 ∧ a.mm.length ≤ 32 ∧ insideB a.mm a.sp = true := by
  have h2 := h.two
  refine ⟨h.good.gd, by rw [h.mm]; exact Gd.nil, fun s hs => (r.us s hs).1.1, fun s hs => (r.um s hs).1.1, h.one, by omega, by rw [h.mm]; simp, by rw [h.mm]; rfl⟩

end Go.Proofs.YtpfmhkkglaghgaaGreat

namespace Go.Proofs.YtpfmhkkglaghgaaGreat
set_option linter.unusedSimpArgs false
set_option linter.unusedVariables false
set_option linter.unnecessarySimpa false
open Go.RowKit

def s9 : Snt := ⟨0, 0, 1, 9, 0, false, false, 0⟩
def l9 : LS := ((LS.new 4 99).send s9).1
def d9 : AckD := ⟨[(0, 0)], [], 9, 9, false⟩
def f9 : List Int := putAckP d9
def o91 : GOut := (GS.new 1 10).take l9 [] 1
def o92 : GOut := o91.g.take o91.s f9 2
def o93 : GOut := o92.g.take o92.s f9 3
theorem vals9 : (o91.v.kind = 1 ∧ o91.v.why = 1 ∧ o91.v.pn = 0 ∧ o91.v.ch = false) ∧ (o92.v.kind = 2 ∧ o92.v.why = 0 ∧ o92.v.pn = 0 ∧ o92.v.ch = false) ∧ o92.a.xo = 9 ∧ (o93.v.kind = 1 ∧ o93.v.why = 3 ∧ o93.v.pn = 0 ∧ o93.v.ch = true) ∧ (o93.g.mal = 1 ∧ o93.g.drp = 1 ∧ o93.g.tak = 1 ∧ o93.g.cha = 1 ∧ o93.g.lat = 0) ∧ o93.g.over = false := by decide +kernel
theorem ok9 : s9.ok := ⟨⟨by simp [s9], by simp [s9]⟩, ⟨by simp [s9], by simp [s9]⟩, ⟨by simp [s9], by simp [s9]⟩, ⟨by simp [s9], by simp [s9]⟩, ⟨by simp [s9], by simp [s9]⟩, ⟨by simp [s9], by simp [s9]⟩⟩

theorem Vd.eq_ {a b : Vd} (h : a.kind = b.kind ∧ a.why = b.why ∧ a.pn = b.pn ∧ a.ch = b.ch) : a = b := by
  obtain ⟨k, w, p, c⟩ := a
  obtain ⟨k', w', p', c'⟩ := b
  obtain ⟨h1, h2, h3, h4⟩ := h
  simp only at h1 h2 h3 h4
  subst h1 h2 h3 h4
  rfl

/-- The program's ledger and guard, clear of N. -/
structure AlC (N : Nat → Prop) (p b : Nat) (s : LS) (g : GS) (W : World) : Prop where
  ex : ∃ T F E, LedP W T p s ∧ GuaP W F E b g ∧ (∀ k, T k → ¬ F k ∧ ¬ E k) ∧ ∀ k, T k ∨ F k ∨ E k → k < W.heap.size ∧ ¬ N k
theorem AlC.good {N : Nat → Prop} {p b : Nat} {s : LS} {g : GS} {W : World} (h : AlC N p b s g W) : s.Good ∧ g.Good := by
  obtain ⟨T, F, E, hL, hG, -⟩ := h.ex
  exact ⟨hL.good, hG.good⟩
/-- What has come is kept clear of. -/
theorem AlC.grow {N : Nat → Prop} {p b : Nat} {s : LS} {g : GS} {W W' : World} (h : AlC N p b s g W) (q : Below W.heap.size W W') : AlC (fun k => N k ∨ (W.heap.size ≤ k ∧ k < W'.heap.size)) p b s g W' := by
  obtain ⟨T, F, E, hL, hG, hd, hs⟩ := h.ex
  refine ⟨T, F, E, hL.below q, hG.below q, hd, fun k hk => ⟨Nat.lt_of_lt_of_le (hs k hk).1 q.size, fun hn => hn.elim (hs k hk).2 (fun e => by have := (hs k hk).1; omega)⟩⟩
theorem AlC.sub {N N' : Nat → Prop} {p b : Nat} {s : LS} {g : GS} {W : World} (h : AlC N p b s g W) (hN : ∀ k, k < W.heap.size → N' k → N k) : AlC N' p b s g W := by
  obtain ⟨T, F, E, hL, hG, hd, hs⟩ := h.ex
  exact ⟨T, F, E, hL, hG, hd, fun k hk => ⟨(hs k hk).1, fun hn => (hs k hk).2 (hN k (hs k hk).1 hn)⟩⟩
theorem AlC.below {N : Nat → Prop} {p b : Nat} {s : LS} {g : GS} {W W' : World} (h : AlC N p b s g W) (q : Below W.heap.size W W') : AlC N p b s g W' := (h.grow q).sub fun _ _ h => .inl h
/-- What turns blocks of N alone. -/
theorem AlC.chg {N Z : Nat → Prop} {p b : Nat} {s : LS} {g : GS} {W W' : World} (h : AlC N p b s g W) (hc : Chg Z W W') (hZ : ∀ k, k < W.heap.size → Z k → N k) : AlC N p b s g W' := by
  obtain ⟨T, F, E, hL, hG, hd, hs⟩ := h.ex
  have hsz := hc.size
  exact ⟨T, F, E, hL.chg hc (fun k hk ht hz => (hs k (.inl ht)).2 (hZ k hk hz)) (fun _ _ h => h), hG.chg hc (fun k hk hf hz => (hs k (.inr hf)).2 (hZ k hk hz)) (fun _ _ h => h) (fun _ _ h => h) hG.dj, hd, fun k hk => ⟨Nat.lt_of_lt_of_le (hs k hk).1 hsz, (hs k hk).2⟩⟩
theorem alc_take (N : Nat → Prop) (p b : Nat) (s : LS) (g : GS) (W : World) (A : Option Addr) (c : Nat) (l : List Int) (now : Int) (h : AlC N p b s g W) (hN : ∀ k, N k → k < W.heap.size) (hr : Rd W 1 A l.length c (U8 l)) (hb : ∀ x ∈ l, 0 ≤ x ∧ x ≤ 255) (hl : l.length ≤ 70368744177664) (hnow : isU64 now) :
    Calls Tryz.prog 28 #[.pointer (some ⟨b, 0, none⟩), .pointer (some ⟨p, 0, none⟩), .slice A l.length c, .int .u64 now] W fun e W' => ∃ a : Ak, e = .returned (.tuple #[(g.take s l now).v.val, a.val]) ∧ a.is (g.take s l now).a ∧ AkE W' (fun k => W.heap.size ≤ k) a ∧ AlC N p b (g.take s l now).s (g.take s l now).g W' ∧ Chg (fun k => ¬ N k) W W' := by
  obtain ⟨T, F, E, hL, hG, hd, hs⟩ := h.ex
  refine (gua_take W T F E p b s g A c l now hL hG (fun k hk => (hs k hk).1) hd hr hb hl hnow).mono ?_
  rintro e W' ⟨a, rfl, ia, hA, lp, ⟨F', E', gp, hF', hE'⟩, hc⟩
  have hsz := hc.size
  refine ⟨a, rfl, ia, hA, ⟨T, fun k => F' k ∧ k < W'.heap.size, fun k => E' k ∧ k < W'.heap.size, lp, gp.sub (fun k hk h => ⟨h, hk⟩) (fun k hk h => ⟨h, hk⟩) (fun k hk hf => gp.dj k hk.1 hf.1), fun k ht => ?_, fun k hk => ?_⟩, hc.mono fun k _ hk hn => hk.elim (fun ht => (hs k (.inl ht)).2 hn) (fun hf => (hs k (.inr (.inl hf))).2 hn)⟩
  · have h1 := (hs k (.inl ht)).1
    exact ⟨fun hf => (hF' k hf.1).elim (hd k ht).1 (fun e => by omega), fun he => (hE' k he.1).elim (hd k ht).2 (fun e => by omega)⟩
  · rcases hk with hk | hk | hk
    · exact ⟨by have := (hs k (.inl hk)).1; omega, (hs k (.inl hk)).2⟩
    · exact ⟨hk.2, fun hn => (hF' k hk.1).elim (fun e => (hs k (.inr (.inl e))).2 hn) (fun e => by have := hN k hn; omega)⟩
    · exact ⟨hk.2, fun hn => (hE' k hk.1).elim (fun e => (hs k (.inr (.inr e))).2 hn) (fun e => by have := hN k hn; omega)⟩
end Go.Proofs.YtpfmhkkglaghgaaGreat

namespace Go.Proofs.YtpfmhkkglaghgaaGreat
set_option linter.unusedSimpArgs false
set_option linter.unusedVariables false
set_option linter.unnecessarySimpa false
open Go.RowKit

def Shs (l : List Sh) : List Value := l.flatMap Sh.vals
structure Shots (w : World) (A : Option Addr) (n c : Nat) (l : List Sh) : Prop where
  rd : Rd w 9 A n c (Shs l)
  ok : ∀ s ∈ l, s.ok w
theorem Shots.below {w w' : World} {A : Option Addr} {n c : Nat} {l : List Sh} (h : Shots w A n c l) (b : Below w.heap.size w w') : Shots w' A n c l := ⟨h.rd.below b, fun s hs => (h.ok s hs).below b⟩
theorem Shots.count {w : World} {A : Option Addr} {n c : Nat} {l : List Sh} (h : Shots w A n c l) : l.length = n := Rd.count (f := Sh.vals) (k := 9) (fun _ => rfl) h.rd (by omega)
/-- The cells of one. -/
structure ShAt (W : World) (bb off : Nat) (s : Sh) : Prop where
  c0 : W.cell? ⟨bb, off, none⟩ = some (.int .i64 s.kind)
  c1 : W.cell? ⟨bb, off + 1, none⟩ = some (.slice s.A s.b.length s.c)
  c2 : W.cell? ⟨bb, off + 2, none⟩ = some (.int .u16 s.k.a)
  c3 : W.cell? ⟨bb, off + 3, none⟩ = some (.int .u16 s.k.b)
  c4 : W.cell? ⟨bb, off + 4, none⟩ = some (.int .u16 s.k.c)
  c5 : W.cell? ⟨bb, off + 5, none⟩ = some (.int .u16 s.k.d)
  c6 : W.cell? ⟨bb, off + 6, none⟩ = some (.int .u64 s.x)
  c7 : W.cell? ⟨bb, off + 7, none⟩ = some (.bool s.right)
  c8 : W.cell? ⟨bb, off + 8, none⟩ = some (.int .u16 s.wait)
theorem Shots.at_ {w : World} {A : Option Addr} {n c : Nat} {l : List Sh} (h : Shots w A n c l) {i : Nat} (hi : i < l.length) : ∃ b off, A = some ⟨b, off, none⟩ ∧ ShAt w b (off + i * 9) l[i] ∧ b < w.heap.size := by
  obtain ⟨b, off, e, hc⟩ := Rd.elem (f := Sh.vals) (k := 9) (fun _ => rfl) h.rd (by omega) hi
  have hn := h.count
  exact ⟨b, off, e, ⟨hc 0 _ rfl, hc 1 _ rfl, hc 2 _ rfl, hc 3 _ rfl, hc 4 _ rfl, hc 5 _ rfl, hc 6 _ rfl, hc 7 _ rfl, hc 8 _ rfl⟩, h.rd.lt (by omega) (by omega) b off e⟩
theorem ShAt.chg {W W' : World} {bb off : Nat} {s : Sh} {Z : Nat → Prop} (h : ShAt W bb off s) (hc : Chg Z W W') (hz : ¬ Z bb) : ShAt W' bb off s :=
  ⟨hc.cell h.c0 hz, hc.cell h.c1 hz, hc.cell h.c2 hz, hc.cell h.c3 hz, hc.cell h.c4 hz, hc.cell h.c5 hz, hc.cell h.c6 hz, hc.cell h.c7 hz, hc.cell h.c8 hz⟩

def P2 (x y : Nat) : Array Value := #[.pointer (some ⟨x, 0, none⟩), .pointer (some ⟨y, 0, none⟩)]
/-- The cells that the region reads. -/
def GtK (h1 h2 p r a b bb off : Nat) (sh : Sh) (W : World) : Prop :=
  W.cell? ⟨h2, 0, none⟩ = some (.pointer (some ⟨a, 0, none⟩)) ∧ W.cell? ⟨h2, 1, none⟩ = some (.pointer (some ⟨b, 0, none⟩)) ∧ W.cell? ⟨h1, 0, none⟩ = some (.pointer (some ⟨p, 0, none⟩)) ∧ W.cell? ⟨h1, 1, none⟩ = some (.pointer (some ⟨r, 0, none⟩)) ∧
  W.cell? ⟨bb, off, none⟩ = some (.int .i64 sh.kind) ∧ W.cell? ⟨bb, off + 1, none⟩ = some (.slice sh.A sh.b.length sh.c) ∧ W.cell? ⟨bb, off + 2, none⟩ = some (.int .u16 sh.k.a) ∧ W.cell? ⟨bb, off + 3, none⟩ = some (.int .u16 sh.k.b) ∧ W.cell? ⟨bb, off + 4, none⟩ = some (.int .u16 sh.k.c) ∧ W.cell? ⟨bb, off + 5, none⟩ = some (.int .u16 sh.k.d) ∧ W.cell? ⟨bb, off + 6, none⟩ = some (.int .u64 sh.x) ∧ W.cell? ⟨bb, off + 7, none⟩ = some (.bool sh.right) ∧ W.cell? ⟨bb, off + 8, none⟩ = some (.int .u16 sh.wait)
theorem GtK.chg {h1 h2 p r a b bb off : Nat} {sh : Sh} {W W' : World} {Z : Nat → Prop} (h : GtK h1 h2 p r a b bb off sh W) (hc : Chg Z W W') (z1 : ¬ Z h1) (z2 : ¬ Z h2) (z3 : ¬ Z bb) : GtK h1 h2 p r a b bb off sh W' := by
  obtain ⟨e1, e2, e3, e4, c0, c1, c2, c3, c4, c5, c6, c7, c8⟩ := h
  exact ⟨hc.cell e1 z2, hc.cell e2 z2, hc.cell e3 z1, hc.cell e4 z1, hc.cell c0 z3, hc.cell c1 z3, hc.cell c2 z3, hc.cell c3 z3, hc.cell c4 z3, hc.cell c5 z3, hc.cell c6 z3, hc.cell c7 z3, hc.cell c8 z3⟩
/-- What a region of a frame and its take leaves, wherever its variable is made. -/
structure GtTook (w wr W vB : World) (h1 h2 p r a b : Nat) (o : GOut) : Prop where
  bel : Below wr.heap.size wr W
  both : ∃ X E, BothG vB X E p r a b o.s o.g ∧ ∀ k, X k ∨ E k → (w.heap.size ≤ k ∧ k < wr.heap.size ∧ k ≠ h1 ∧ k ≠ h2) ∨ W.heap.size ≤ k
  chg : Chg (fun k => w.heap.size ≤ k ∧ k < wr.heap.size ∧ k ≠ h1 ∧ k ≠ h2) W vB
theorem take_len (g : GS) (s : LS) (f : List Int) (now : Int) : (g.take s f now).s.all.length = s.all.length := by
  have hu : ∀ x, (s.use x).1.all.length = s.all.length := fun x => by
    unfold LS.use
    split
    · simp [LS.put]
    · rfl
  rcases GS.take_cases g s f now with ⟨-, e⟩ | ⟨-, e⟩ | ⟨-, d, -, ⟨y, -, -, e⟩ | ⟨x, y, z, -, -, -, e⟩ | ⟨x, -, -, e⟩⟩ <;> rw [e]
  · exact hu x
  · exact hu x
end Go.Proofs.YtpfmhkkglaghgaaGreat

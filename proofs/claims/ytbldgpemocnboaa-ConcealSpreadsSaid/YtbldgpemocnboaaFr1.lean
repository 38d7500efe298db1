/- plane.Frame as eleven cells and three blocks of bytes; NewFrame, walked. -/
import Derived.Test.YtbldgpemocnboaaPl3
namespace Go.Proofs.Ytbldgpemocnboaa
open Go.RowKit
attribute [local go_sem ↓] run_imax run_imin

abbrev FRT : TypeId := 43
/-- A right frame: how many macroblocks each way; the blocks of its three planes' samples, how long these are, the samples. -/
structure Fr where
  c : Nat
  r : Nat
  bY : Nat
  bU : Nat
  bV : Nat
  cY : Nat
  cU : Nat
  cV : Nat
  sY : Nat → Int
  sU : Nat → Int
  sV : Nat → Int
def Fr.cells (f : Fr) : Array Value := #[.int .i64 (f.c : Int), .int .i64 (f.r : Int), .int .i64 (16 * (f.c : Int)), .int .i64 (16 * (f.r : Int)), .slice (some ⟨f.bY, 0, none⟩) (16 * f.c * (16 * f.r)) f.cY,
  .int .i64 (8 * (f.c : Int)), .int .i64 (8 * (f.r : Int)), .slice (some ⟨f.bU, 0, none⟩) (8 * f.c * (8 * f.r)) f.cU, .int .i64 (8 * (f.c : Int)), .int .i64 (8 * (f.r : Int)), .slice (some ⟨f.bV, 0, none⟩) (8 * f.c * (8 * f.r)) f.cV]
def Fr.val (f : Fr) : Value := .agg f.cells
/-- Its samples lie in memory. -/
structure Fr.Mem (f : Fr) (w : World) : Prop where
  hc : f.c ≤ 8
  hr : f.r ≤ 8
  y : PB w f.bY (16 * f.c * (16 * f.r)) f.sY
  u : PB w f.bU (8 * f.c * (8 * f.r)) f.sU
  v : PB w f.bV (8 * f.c * (8 * f.r)) f.sV
  yu : f.bY ≠ f.bU
  yv : f.bY ≠ f.bV
  uv : f.bU ≠ f.bV
/-- All three blocks lie from B on. -/
structure Fr.From (f : Fr) (B : Nat) : Prop where
  y : B ≤ f.bY
  u : B ≤ f.bU
  v : B ≤ f.bV
section
variable {f : Fr} {w w' : World}
theorem Fr.Mem.later (h : f.Mem w) (hb : Below w.heap.size w w') : f.Mem w' := ⟨h.hc, h.hr, h.y.later hb, h.u.later hb, h.v.later hb, h.yu, h.yv, h.uv⟩
theorem Fr.Mem.alloc (h : f.Mem w) (o : Obj) : f.Mem (w.alloc o) := ⟨h.hc, h.hr, h.y.alloc o, h.u.alloc o, h.v.alloc o, h.yu, h.yv, h.uv⟩
theorem Fr.Mem.drewN (h : f.Mem w) (q : Nat) : f.Mem (w.drewN q) := ⟨h.hc, h.hr, h.y.drewN q, h.u.drewN q, h.v.drewN q, h.yu, h.yv, h.uv⟩
theorem Fr.Mem.other (h : f.Mem w) {c : Nat} (h1 : c ≠ f.bY) (h2 : c ≠ f.bU) (h3 : c ≠ f.bV) (k : Nat) (x : Value) : f.Mem (w.setCell ⟨c, k, none⟩ x) :=
  ⟨h.hc, h.hr, h.y.other h1 k x, h.u.other h2 k x, h.v.other h3 k x, h.yu, h.yv, h.uv⟩
theorem Fr.Mem.setRow (h : f.Mem w) {c : Nat} (h1 : c ≠ f.bY) (h2 : c ≠ f.bU) (h3 : c ≠ f.bV) (cs : Array Value) : f.Mem (w.setRow c cs) :=
  ⟨h.hc, h.hr, h.y.setRow h1 cs, h.u.setRow h2 cs, h.v.setRow h3 cs, h.yu, h.yv, h.uv⟩
theorem Fr.Mem.wr {b : Nat} (h : f.Mem w) (hw : Wr b w w') (h1 : f.bY ≠ b) (h2 : f.bU ≠ b) (h3 : f.bV ≠ b) : f.Mem w' :=
  ⟨h.hc, h.hr, h.y.wr hw h1, h.u.wr hw h2, h.v.wr hw h3, h.yu, h.yv, h.uv⟩
theorem Fr.From.mono {B B' : Nat} (h : f.From B) (hB : B' ≤ B) : f.From B' := ⟨Nat.le_trans hB h.y, Nat.le_trans hB h.u, Nat.le_trans hB h.v⟩
/-- A block below those of the frame. -/
theorem Fr.From.ne {B b : Nat} (h : f.From B) (hb : b < B) : b ≠ f.bY ∧ b ≠ f.bU ∧ b ≠ f.bV := by
  have := h.y; have := h.u; have := h.v; omega
end
def frFlat (c r b1 b2 b3 : Nat) (v : Int) : Fr := ⟨c, r, b1, b2, b3, 16 * c * (16 * r), 8 * c * (8 * r), 8 * c * (8 * r), fun _ => v, fun _ => v, fun _ => v⟩
/-- What NewFrame gives. -/
def NewFrP (c r : Nat) (v : Int) (w : World) (e : Ending) (w' : World) : Prop :=
  ∃ b1 b2 b3, e = .returned (frFlat c r b1 b2 b3 v).val ∧ (frFlat c r b1 b2 b3 v).From w.heap.size ∧ (frFlat c r b1 b2 b3 v).Mem w' ∧ Below w.heap.size w w'

set_option maxHeartbeats 1000000 in
theorem newFrame_any (x y v : Int) (c r : Nat) (w : World) (hx : imin (imax x 0) 8 = c) (hy : imin (imax y 0) 8 = r) (hv : 0 ≤ v ∧ v ≤ 255) :
    Calls Try.prog 41 #[.int .i64 x, .int .i64 y, .int .u8 v] w (NewFrP c r v w) := by
  have hc : c ≤ 8 := by rw [imin_eq, imax_eq] at hx; omega
  have hr : r ≤ 8 := by rw [imin_eq, imax_eq] at hy; omega
  have e1 : ∀ n : Nat, n ≤ 8 → imin (imax (16 * (n : Int)) 0) 1024 = ((16 * n : Nat) : Int) := by intro n hn; rw [imin_eq, imax_eq]; omega
  have e2 : ∀ n : Nat, n ≤ 8 → imin (imax (8 * (n : Int)) 0) 1024 = ((8 * n : Nat) : Int) := by intro n hn; rw [imin_eq, imax_eq]; omega
  replace e1 := Lib.hid e1
  replace e2 := Lib.hid e2
  go_enter Try.func41, Try.ntmps41
  go_wp2_with fail
  replace hx := Lib.hid hx; replace hy := Lib.hid hy
  refine (new_any _ _ v (16 * c) (16 * r) _ (e1.out c hc) (e1.out r hr) hv).mono ?_
  rintro e w1 ⟨b1, rfl, g1, P1, B1⟩
  go_wp2_with fail
  refine (new_any _ _ v (8 * c) (8 * r) _ (e2.out c hc) (e2.out r hr) hv).mono ?_
  rintro e w2 ⟨b2, rfl, g2, P2, B2⟩
  go_wp2_with fail
  refine (new_any _ _ v (8 * c) (8 * r) _ (e2.out c hc) (e2.out r hr) hv).mono ?_
  rintro e w3 ⟨b3, rfl, g3, P3, B3⟩
  have g4 := P1.lt; have g5 := P2.lt
  have HZ : Ob w3 w.heap.size FRT #[.int .i64 0, .int .i64 0, .int .i64 0, .int .i64 0, .slice none 0 0, .int .i64 0, .int .i64 0, .slice none 0 0, .int .i64 0, .int .i64 0, .slice none 0 0] :=
    (((Ob.new_at FRT _ rfl).later B1).later B2).later B3
  replace P2 := P2.later B3
  replace P1 := (P1.later B2).later B3
  have HW : Below w.heap.size w w3 := below_step (below_step (((Below.refl _ _).alloc (Nat.le_refl _) _).trans (B1.mono (by simp))) B2) B3
  clear B1 B2 B3
  simp only [plV, World.size_alloc] at *
  go_wp2_with (refine wpList_store_ob HZ rfl _ _ _ rfl rfl _ rfl (by kernel_rfl) rfl rfl ?_)
  refine bodyPost_ret (results_ob rfl _ (HZ.setRow_same _) rfl Try.underlying43 (by kernel_rfl)) rfl ⟨b1, b2, b3, ?_, ⟨by show _ ≤ b1; omega, by show _ ≤ b2; omega, by show _ ≤ b3; omega⟩, ⟨hc, hr, P1.setRow (by omega) _, P2.setRow (by omega) _, P3.setRow (by omega) _, by show b1 ≠ b2; omega, by show b1 ≠ b3; omega, by show b2 ≠ b3; omega⟩, below_setRow HW (Nat.le_refl _) _⟩
  simp [Fr.val, Fr.cells, frFlat]
end Go.Proofs.Ytbldgpemocnboaa

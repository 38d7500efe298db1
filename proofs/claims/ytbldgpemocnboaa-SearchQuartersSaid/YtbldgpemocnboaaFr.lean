/- plane.Frame as eleven cells and three blocks of bytes; NewFrame, walked. | Frame's Check, Block, Middle, walked. | Frame's Middle, walked; kinescopelaw06.Awake. -/
import Derived.Test.YtbldgpemocnboaaPl
namespace Go.Proofs.Ytbldgpemocnboaa
open Go.RowKit
attribute [local go_sem ↓] run_imax run_imin

abbrev FRT : TypeId := 43
/-- A right frame: how many macroblocks each way; the blocks of its three planes' samples, how long these are, the samples. -/
structure Fr where
  c : Nat
  r : Nat
  bY : Nat
  bU : Nat
  bV : Nat
  cY : Nat
  cU : Nat
  cV : Nat
  sY : Nat → Int
  sU : Nat → Int
  sV : Nat → Int
def Fr.cells (f : Fr) : Array Value := #[.int .i64 (f.c : Int), .int .i64 (f.r : Int), .int .i64 (16 * (f.c : Int)), .int .i64 (16 * (f.r : Int)), .slice (some ⟨f.bY, 0, none⟩) (16 * f.c * (16 * f.r)) f.cY,
  .int .i64 (8 * (f.c : Int)), .int .i64 (8 * (f.r : Int)), .slice (some ⟨f.bU, 0, none⟩) (8 * f.c * (8 * f.r)) f.cU, .int .i64 (8 * (f.c : Int)), .int .i64 (8 * (f.r : Int)), .slice (some ⟨f.bV, 0, none⟩) (8 * f.c * (8 * f.r)) f.cV]
def Fr.val (f : Fr) : Value := .agg f.cells
/-- Its samples lie in memory. -/
structure Fr.Mem (f : Fr) (w : World) : Prop where
  hc : f.c ≤ 8
  hr : f.r ≤ 8
  y : PB w f.bY (16 * f.c * (16 * f.r)) f.sY
  u : PB w f.bU (8 * f.c * (8 * f.r)) f.sU
  v : PB w f.bV (8 * f.c * (8 * f.r)) f.sV
  yu : f.bY ≠ f.bU
  yv : f.bY ≠ f.bV
  uv : f.bU ≠ f.bV
/-- All three blocks lie from B on. -/
structure Fr.From (f : Fr) (B : Nat) : Prop where
  y : B ≤ f.bY
  u : B ≤ f.bU
  v : B ≤ f.bV
section
variable {f : Fr} {w w' : World}
theorem Fr.Mem.later (h : f.Mem w) (hb : Below w.heap.size w w') : f.Mem w' := ⟨h.hc, h.hr, h.y.later hb, h.u.later hb, h.v.later hb, h.yu, h.yv, h.uv⟩
theorem Fr.Mem.alloc (h : f.Mem w) (o : Obj) : f.Mem (w.alloc o) := ⟨h.hc, h.hr, h.y.alloc o, h.u.alloc o, h.v.alloc o, h.yu, h.yv, h.uv⟩
theorem Fr.Mem.drewN (h : f.Mem w) (q : Nat) : f.Mem (w.drewN q) := ⟨h.hc, h.hr, h.y.drewN q, h.u.drewN q, h.v.drewN q, h.yu, h.yv, h.uv⟩
theorem Fr.Mem.other (h : f.Mem w) {c : Nat} (h1 : c ≠ f.bY) (h2 : c ≠ f.bU) (h3 : c ≠ f.bV) (k : Nat) (x : Value) : f.Mem (w.setCell ⟨c, k, none⟩ x) :=
  ⟨h.hc, h.hr, h.y.other h1 k x, h.u.other h2 k x, h.v.other h3 k x, h.yu, h.yv, h.uv⟩
theorem Fr.Mem.setRow (h : f.Mem w) {c : Nat} (h1 : c ≠ f.bY) (h2 : c ≠ f.bU) (h3 : c ≠ f.bV) (cs : Array Value) : f.Mem (w.setRow c cs) :=
  ⟨h.hc, h.hr, h.y.setRow h1 cs, h.u.setRow h2 cs, h.v.setRow h3 cs, h.yu, h.yv, h.uv⟩
theorem Fr.Mem.wr {b : Nat} (h : f.Mem w) (hw : Wr b w w') (h1 : f.bY ≠ b) (h2 : f.bU ≠ b) (h3 : f.bV ≠ b) : f.Mem w' :=
  ⟨h.hc, h.hr, h.y.wr hw h1, h.u.wr hw h2, h.v.wr hw h3, h.yu, h.yv, h.uv⟩
theorem Fr.From.mono {B B' : Nat} (h : f.From B) (hB : B' ≤ B) : f.From B' := ⟨Nat.le_trans hB h.y, Nat.le_trans hB h.u, Nat.le_trans hB h.v⟩
/-- A block below those of the frame. -/
theorem Fr.From.ne {B b : Nat} (h : f.From B) (hb : b < B) : b ≠ f.bY ∧ b ≠ f.bU ∧ b ≠ f.bV := by
  have := h.y; have := h.u; have := h.v; omega
end
def frFlat (c r b1 b2 b3 : Nat) (v : Int) : Fr := ⟨c, r, b1, b2, b3, 16 * c * (16 * r), 8 * c * (8 * r), 8 * c * (8 * r), fun _ => v, fun _ => v, fun _ => v⟩
/-- What NewFrame gives. -/
def NewFrP (c r : Nat) (v : Int) (w : World) (e : Ending) (w' : World) : Prop :=
  ∃ b1 b2 b3, e = .returned (frFlat c r b1 b2 b3 v).val ∧ (frFlat c r b1 b2 b3 v).From w.heap.size ∧ (frFlat c r b1 b2 b3 v).Mem w' ∧ Below w.heap.size w w'

set_option maxHeartbeats 1000000 in
theorem newFrame_any (x y v : Int) (c r : Nat) (w : World) (hx : imin (imax x 0) 8 = c) (hy : imin (imax y 0) 8 = r) (hv : 0 ≤ v ∧ v ≤ 255) :
    Calls Try.prog 41 #[.int .i64 x, .int .i64 y, .int .u8 v] w (NewFrP c r v w) := by
  have hc : c ≤ 8 := by rw [imin_eq, imax_eq] at hx; omega
  have hr : r ≤ 8 := by rw [imin_eq, imax_eq] at hy; omega
  have e1 : ∀ n : Nat, n ≤ 8 → imin (imax (16 * (n : Int)) 0) 1024 = ((16 * n : Nat) : Int) := by intro n hn; rw [imin_eq, imax_eq]; omega
  have e2 : ∀ n : Nat, n ≤ 8 → imin (imax (8 * (n : Int)) 0) 1024 = ((8 * n : Nat) : Int) := by intro n hn; rw [imin_eq, imax_eq]; omega
  replace e1 := Lib.hid e1
  replace e2 := Lib.hid e2
  go_enter Try.func41, Try.ntmps41
  go_wp2_with fail
  replace hx := Lib.hid hx; replace hy := Lib.hid hy
  refine (new_any _ _ v (16 * c) (16 * r) _ (e1.out c hc) (e1.out r hr) hv).mono ?_
  rintro e w1 ⟨b1, rfl, g1, P1, B1⟩
  go_wp2_with fail
  refine (new_any _ _ v (8 * c) (8 * r) _ (e2.out c hc) (e2.out r hr) hv).mono ?_
  rintro e w2 ⟨b2, rfl, g2, P2, B2⟩
  go_wp2_with fail
  refine (new_any _ _ v (8 * c) (8 * r) _ (e2.out c hc) (e2.out r hr) hv).mono ?_
  rintro e w3 ⟨b3, rfl, g3, P3, B3⟩
  have g4 := P1.lt; have g5 := P2.lt
  have HZ : Ob w3 w.heap.size FRT #[.int .i64 0, .int .i64 0, .int .i64 0, .int .i64 0, .slice none 0 0, .int .i64 0, .int .i64 0, .slice none 0 0, .int .i64 0, .int .i64 0, .slice none 0 0] :=
    (((Ob.new_at FRT _ rfl).later B1).later B2).later B3
  replace P2 := P2.later B3
  replace P1 := (P1.later B2).later B3
  have HW : Below w.heap.size w w3 := below_step (below_step (((Below.refl _ _).alloc (Nat.le_refl _) _).trans (B1.mono (by simp))) B2) B3
  clear B1 B2 B3
  simp only [plV, World.size_alloc] at *
  go_wp2_with (refine wpList_store_ob HZ rfl _ _ _ rfl rfl _ rfl (by kernel_rfl) rfl rfl ?_)
  refine bodyPost_ret (results_ob rfl _ (HZ.setRow_same _) rfl Try.underlying43 (by kernel_rfl)) rfl ⟨b1, b2, b3, ?_, ⟨by show _ ≤ b1; omega, by show _ ≤ b2; omega, by show _ ≤ b3; omega⟩, ⟨hc, hr, P1.setRow (by omega) _, P2.setRow (by omega) _, P3.setRow (by omega) _, by show b1 ≠ b2; omega, by show b1 ≠ b3; omega, by show b2 ≠ b3; omega⟩, below_setRow HW (Nat.le_refl _) _⟩
  simp [Fr.val, Fr.cells, frFlat]
end Go.Proofs.Ytbldgpemocnboaa

namespace Go.Proofs.Ytbldgpemocnboaa
open Go.RowKit
attribute [local go_sem ↓] run_imax run_imin

theorem mul_bd16 {c r : Nat} (h1 : c ≤ 8) (h2 : r ≤ 8) : 0 ≤ 16 * (c : Int) * (16 * (r : Int)) ∧ 16 * (c : Int) * (16 * (r : Int)) ≤ 16384 := by
  have h : 16 * c * (16 * r) ≤ 128 * 128 := Nat.mul_le_mul (by omega) (by omega)
  have e : 16 * (c : Int) * (16 * (r : Int)) = ((16 * c * (16 * r) : Nat) : Int) := by simp
  rw [e]; omega
theorem mul_bd8 {c r : Nat} (h1 : c ≤ 8) (h2 : r ≤ 8) : 0 ≤ 8 * (c : Int) * (8 * (r : Int)) ∧ 8 * (c : Int) * (8 * (r : Int)) ≤ 4096 := by
  have h : 8 * c * (8 * r) ≤ 64 * 64 := Nat.mul_le_mul (by omega) (by omega)
  have e : 8 * (c : Int) * (8 * (r : Int)) = ((8 * c * (8 * r) : Nat) : Int) := by simp
  rw [e]; omega
set_option maxRecDepth 1000000 in
set_option maxHeartbeats 4000000 in
theorem check_ok (f : Fr) (w : World) (h1 : 0 < f.c) (h2 : f.c ≤ 8) (h3 : 0 < f.r) (h4 : f.r ≤ 8) :
    Calls Try.prog 68 #[f.val] w fun e w' => e = .returned (.int .i64 0) ∧ Below w.heap.size w w' := by
  obtain ⟨c, r, bY, bU, bV, cY, cU, cV, sY, sU, sV⟩ := f
  simp only [Fr.val, Fr.cells] at *
  have a1 : ¬ c = 0 := by omega
  have a2 : ¬ r = 0 := by omega
  have a3 : ¬ 8 < c := by omega
  have a4 : ¬ 8 < r := by omega
  obtain ⟨b1, b2⟩ := mul_bd16 h2 h4
  obtain ⟨b3, b4⟩ := mul_bd8 h2 h4
  go_enter Try.func68, Try.ntmps68
  go_wp2_with fail
  go_ret
  exact ⟨rfl, (Below.refl _ _).alloc (Nat.le_refl _) _⟩

theorem plV_16 (c r p n m : Nat) : plV (16 * c) (16 * r) p n m = .agg #[.int .i64 (16 * (c : Int)), .int .i64 (16 * (r : Int)), .slice (some ⟨p, 0, none⟩) n m] := by simp [plV]
theorem plV_8 (c r p n m : Nat) : plV (8 * c) (8 * r) p n m = .agg #[.int .i64 (8 * (c : Int)), .int .i64 (8 * (r : Int)), .slice (some ⟨p, 0, none⟩) n m] := by simp [plV]

/-- Block: the plane, and where in it. -/
def blkY (f : Fr) (mb k : Nat) : Value := .tuple #[plV (16 * f.c) (16 * f.r) f.bY (16 * f.c * (16 * f.r)) f.cY, .int .i64 (16 * ((mb : Int) % (f.c : Int)) + 8 * ((k : Int) % 2)), .int .i64 (16 * ((mb : Int) / (f.c : Int)) + 8 * ((k : Int) / 2))]
def blkU (f : Fr) (mb : Nat) : Value := .tuple #[plV (8 * f.c) (8 * f.r) f.bU (8 * f.c * (8 * f.r)) f.cU, .int .i64 (8 * ((mb : Int) % (f.c : Int))), .int .i64 (8 * ((mb : Int) / (f.c : Int)))]
def blkV (f : Fr) (mb : Nat) : Value := .tuple #[plV (8 * f.c) (8 * f.r) f.bV (8 * f.c * (8 * f.r)) f.cV, .int .i64 (8 * ((mb : Int) % (f.c : Int))), .int .i64 (8 * ((mb : Int) / (f.c : Int)))]
theorem mb_bd (mb c : Nat) (h : mb ≤ 1000000) : 0 ≤ (mb : Int) % (c : Int) ∧ (mb : Int) % (c : Int) ≤ 1000000 ∧ 0 ≤ (mb : Int) / (c : Int) ∧ (mb : Int) / (c : Int) ≤ 1000000 := by
  have h1 := Nat.mod_le mb c
  have h2 := Nat.div_le_self mb c
  have h3 : (mb : Int) % (c : Int) = ((mb % c : Nat) : Int) := by simp
  have h4 : (mb : Int) / (c : Int) = ((mb / c : Nat) : Int) := by simp
  rw [h3, h4]
  generalize mb % c = x at *
  generalize mb / c = y at *
  omega

set_option maxRecDepth 100000 in
set_option maxHeartbeats 1000000 in
theorem frBlockY (f : Fr) (mb k : Nat) (w : World) (h1 : 0 < f.c) (h2 : f.c ≤ 8) (hm : mb ≤ 1000000) (hk : k < 4) :
    Calls Try.prog 52 #[f.val, .int .i64 (mb : Int), .int .i64 (k : Int)] w fun e w' => e = .returned (blkY f mb k) ∧ Below w.heap.size w w' := by
  obtain ⟨c, r, bY, bU, bV, cY, cU, cV, sY, sU, sV⟩ := f
  simp only [Fr.val, Fr.cells, blkY, plV_16] at *
  obtain ⟨m1, m2, m3, m4⟩ := mb_bd mb c hm
  have hi : imax (c : Int) 1 = c := by rw [imax_eq]; omega
  have hk1 : decide ((k : Int) < 4) = true := by simp; omega
  have hk2 : (0 : Int) ≤ k := by omega
  go_enter Try.func52, Try.ntmps52
  go_wp2_with fail
  replace hi := Lib.hid hi
  go_quiet (fail)
  go_wp2_with fail
  exact bodyPost_ret (v := .tuple #[.agg _, .int .i64 _, .int .i64 _]) (by simp [results, Try.results52, go_sem]) rfl ⟨rfl, by ((repeat (first | exact Below.refl _ _ | assumption | refine Below.setCell ?_ (by first | omega | (simp; done) | (simp; omega)) _ | refine Below.alloc ?_ (by first | omega | (simp; done) | (simp; omega)) _ | refine below_drewN ?_ _ | refine Below.drew ?_ | refine below_setRow ?_ (by first | omega | (simp; done) | (simp; omega)) _)))⟩

set_option maxRecDepth 100000 in
set_option maxHeartbeats 1000000 in
theorem frBlockU (f : Fr) (mb : Nat) (w : World) (h1 : 0 < f.c) (h2 : f.c ≤ 8) (hm : mb ≤ 1000000) :
    Calls Try.prog 52 #[f.val, .int .i64 (mb : Int), .int .i64 4] w fun e w' => e = .returned (blkU f mb) ∧ Below w.heap.size w w' := by
  obtain ⟨c, r, bY, bU, bV, cY, cU, cV, sY, sU, sV⟩ := f
  simp only [Fr.val, Fr.cells, blkU, plV_8] at *
  obtain ⟨m1, m2, m3, m4⟩ := mb_bd mb c hm
  have hi : imax (c : Int) 1 = c := by rw [imax_eq]; omega
  go_enter Try.func52, Try.ntmps52
  go_wp2_with fail
  replace hi := Lib.hid hi
  go_quiet (fail)
  go_wp2_with fail
  exact bodyPost_ret (v := .tuple #[.agg _, .int .i64 _, .int .i64 _]) (by simp [results, Try.results52, go_sem]) rfl ⟨rfl, by ((repeat (first | exact Below.refl _ _ | assumption | refine Below.setCell ?_ (by first | omega | (simp; done) | (simp; omega)) _ | refine Below.alloc ?_ (by first | omega | (simp; done) | (simp; omega)) _ | refine below_drewN ?_ _ | refine Below.drew ?_ | refine below_setRow ?_ (by first | omega | (simp; done) | (simp; omega)) _)))⟩

set_option maxRecDepth 100000 in
set_option maxHeartbeats 1000000 in
theorem frBlockV (f : Fr) (mb : Nat) (w : World) (h1 : 0 < f.c) (h2 : f.c ≤ 8) (hm : mb ≤ 1000000) :
    Calls Try.prog 52 #[f.val, .int .i64 (mb : Int), .int .i64 5] w fun e w' => e = .returned (blkV f mb) ∧ Below w.heap.size w w' := by
  obtain ⟨c, r, bY, bU, bV, cY, cU, cV, sY, sU, sV⟩ := f
  simp only [Fr.val, Fr.cells, blkV, plV_8] at *
  obtain ⟨m1, m2, m3, m4⟩ := mb_bd mb c hm
  have hi : imax (c : Int) 1 = c := by rw [imax_eq]; omega
  go_enter Try.func52, Try.ntmps52
  go_wp2_with fail
  replace hi := Lib.hid hi
  go_quiet (fail)
  go_wp2_with fail
  exact bodyPost_ret (v := .tuple #[.agg _, .int .i64 _, .int .i64 _]) (by simp [results, Try.results52, go_sem]) rfl ⟨rfl, by ((repeat (first | exact Below.refl _ _ | assumption | refine Below.setCell ?_ (by first | omega | (simp; done) | (simp; omega)) _ | refine Below.alloc ?_ (by first | omega | (simp; done) | (simp; omega)) _ | refine below_drewN ?_ _ | refine Below.drew ?_ | refine below_setRow ?_ (by first | omega | (simp; done) | (simp; omega)) _)))⟩
end Go.Proofs.Ytbldgpemocnboaa

namespace Go.Proofs.Ytbldgpemocnboaa
open Go.RowKit
attribute [local go_sem ↓] run_imax run_imin

def sumTo (g : Nat → Int) : Nat → Int
  | 0 => 0
  | k + 1 => sumTo g k + g k
theorem sumTo_bd {g : Nat → Int} {K : Int} (h : ∀ k, 0 ≤ g k ∧ g k ≤ K) (n : Nat) : 0 ≤ sumTo g n ∧ sumTo g n ≤ K * n := by
  induction n with
  | zero => simp [sumTo]
  | succ n ih =>
    have := h n
    have e : K * ((n + 1 : Nat) : Int) = K * n + K := by rw [Int.natCast_add]; simp [Int.mul_add]
    rw [e]
    unfold sumTo; omega
theorem sumTo_congr {g h : Nat → Int} (n : Nat) (e : ∀ k, k < n → g k = h k) : sumTo g n = sumTo h n := by
  induction n with
  | zero => rfl
  | succ n ih => unfold sumTo; rw [ih (fun k hk => e k (by omega)), e n (by omega)]
/-- One of a macroblock's blocks of light. -/
def lightF (f : Fr) (mb k : Nat) : Nat → Int := blockF (16 * f.c) (16 * f.r) f.sY (16 * ((mb : Int) % (f.c : Int)) + 8 * ((k : Int) % 2)) (16 * ((mb : Int) / (f.c : Int)) + 8 * ((k : Int) / 2))
def midS (f : Fr) (mb : Nat) : Nat → Int := sumTo fun k => sumTo (lightF f mb k) 64
theorem lightF_bd {f : Fr} {w : World} (h : f.Mem w) (mb k i : Nat) : 0 ≤ lightF f mb k i ∧ lightF f mb k i ≤ 255 := plAt_bd h.y _ _
theorem midS_bd {f : Fr} {w : World} (h : f.Mem w) (mb k : Nat) : 0 ≤ midS f mb k ∧ midS f mb k ≤ 16320 * k :=
  sumTo_bd (fun k => by have := sumTo_bd (fun i => lightF_bd h mb k i) 64; omega) k

set_option maxRecDepth 100000 in
set_option maxHeartbeats 2000000 in
theorem middle_any (f : Fr) (mb : Nat) (w : World) (h1 : 0 < f.c) (hM : f.Mem w) (hm : mb ≤ 1000000) :
    Calls Try.prog 95 #[f.val, .int .i64 (mb : Int)] w fun e w' => e = .returned (.int .i64 (midS f mb 4 / 256)) ∧ Below w.heap.size w w' := by
  have h2 := hM.hc
  unfold Fr.val
  go_enter Try.func95, Try.ntmps95
  have HO : Ob (w.alloc (.cells f.cells FRT)) w.heap.size FRT f.cells := Ob.new_at _ _ rfl
  have HW : Below w.heap.size w (w.alloc (.cells f.cells FRT)) := by ((repeat (first | exact Below.refl _ _ | assumption | refine Below.setCell ?_ (by first | omega | (simp; done) | (simp; omega)) _ | refine Below.alloc ?_ (by first | omega | (simp; done) | (simp; omega)) _ | refine below_drewN ?_ _ | refine Below.drew ?_ | refine below_setRow ?_ (by first | omega | (simp; done) | (simp; omega)) _)))
  replace hM := hM.alloc (.cells f.cells FRT)
  go_wp2_with fail
  generalize w.alloc (.cells f.cells FRT) = w2 at *
  go_loopw [5, 12] (fun s i wr => ∃ k : Nat, k ≤ 4 ∧ i = .int .i64 k ∧ s = .int .i64 (midS f mb k) ∧ Ob wr w.heap.size FRT f.cells ∧ f.Mem wr ∧ Below w.heap.size w wr) (fun _ i _ => 4 - (intOf i).toNat)
  case atStart => exact ⟨0, by omega, rfl, rfl, HO, hM, HW⟩
  case round =>
    clear HO hM HW
    obtain ⟨k, hk, rfl, rfl, HO, hM, HW⟩ := hrel
    obtain ⟨mb1, mb2⟩ := midS_bd hM mb k
    by_cases hk8 : k < 4
    · have hd : decide ((k : Int) < 4) = true := by simp; omega
      have i1 : (0 : Int) ≤ k := by omega
      obtain ⟨m1, m2, m3, m4⟩ := mb_bd mb f.c hm
      have hst := Lib.hid (show midS f mb (k + 1) = midS f mb k + sumTo (lightF f mb k) 64 from rfl)
      have hlb := fun i => lightF_bd hM mb k i
      have hsb := Lib.hid (sumTo_bd hlb)
      replace hlb := Lib.hid hlb
      generalize hS : midS f mb k = S at *
      replace hS := Lib.hid hS
      go_wp2_with (refine wpList_load_ob HO rfl _ _ rfl rfl Try.underlying43 (by kernel_rfl) ?_)
      refine (frBlockY f mb k _ h1 h2 hm hk8).mono ?_
      rintro e w3 ⟨rfl, hb⟩
      replace HO := HO.later hb; replace hM := hM.later hb; replace HW := below_step HW hb
      clear hb
      simp only [blkY, plV_16]
      go_wp2_with fail
      rw [← plV_16]
      refine (block_any (16 * f.c) (16 * f.r) _ _ _ _ _ _ (by omega) (by have := hM.hr; omega) (hM.y.alloc _) (by omega) (by omega) (by omega) (by omega)).mono ?_
      rintro e w4 ⟨rfl, hb⟩
      replace HO := (HO.alloc _).later hb; replace hM := (hM.alloc _).later hb; replace HW := below_step (HW.alloc HW.size _) hb
      clear hb
      go_wp2_with fail
      generalize hg : lightF f mb k = g at *
      replace hg := Lib.hid hg
      have hg2 : blockF (16 * f.c) (16 * f.r) f.sY (16 * ((mb : Int) % (f.c : Int)) + 8 * ((k : Int) % 2)) (16 * ((mb : Int) / (f.c : Int)) + 8 * ((k : Int) / 2)) = g := hg.out
      rw [hg2]
      clear hg2
      go_loop [5, 27] (fun s i => ∃ j : Nat, j ≤ 64 ∧ i = .int .i64 j ∧ s = .int .i64 (S + sumTo g j)) (fun _ i => 64 - (intOf i).toNat)
      case atStart => exact ⟨0, by omega, rfl, by simp [sumTo]⟩
      case round =>
        obtain ⟨j, hj, rfl, rfl⟩ := hrel
        have hsj := hsb.out j
        by_cases hj8 : j < 64
        · have hd : decide ((j : Int) < 64) = true := by simp; omega
          have i2 : (0 : Int) ≤ j := by omega
          have i3 : (j : Int) < 64 := by omega
          have hgj := hlb.out j
          have hix : ∀ W, (Instr.index 27 (.agg (fcells 64 (ival g))) (.int .i64 (j : Int))).run Try.prog W = .ok (.int .i64 (g j)) W := fun W =>
            run_index_fcells W _ _ 64 (ival g) j und28 (by kernel_rfl) (by kernel_rfl) (by omega) (by omega)
          have hst2 := Lib.hid (show sumTo g (j + 1) = sumTo g j + g j from rfl)
          go_wp2_with fail
          go_round
          case rel => exact ⟨j + 1, by omega, by go_num, by rw [hst2.out]; go_num⟩
          case measure => simp [intOf]; omega
        · obtain rfl : j = 64 := by omega
          go_wp2_with fail
          exact ⟨⟨k + 1, by omega, by go_num, by rw [hst.out], HO, hM, HW⟩, by simp [intOf]; omega⟩
    · obtain rfl : k = 4 := by omega
      go_wp2_with fail
      go_ret
      exact ⟨rfl, HW⟩

theorem sumTo_const (v : Int) (n : Nat) : sumTo (fun _ => v) n = v * n := by
  induction n with
  | zero => simp [sumTo]
  | succ n ih => unfold sumTo; rw [ih, Int.natCast_add]; simp [Int.mul_add]
theorem plAt_flat {W H : Nat} (hW : 0 < W) (hH : 0 < H) (v x y : Int) : plAt W H (fun _ => v) x y = v := by
  unfold plAt; rw [if_neg (by omega)]
theorem mid_flat (c r b1 b2 b3 mb : Nat) (v : Int) (hc : 0 < c) (hr : 0 < r) : midS (frFlat c r b1 b2 b3 v) mb 4 / 256 = v := by
  have h : ∀ k, lightF (frFlat c r b1 b2 b3 v) mb k = fun _ => v := by
    intro k; funext i
    exact plAt_flat (W := 16 * c) (H := 16 * r) (by omega) (by omega) v (16 * ((mb : Int) % (c : Int)) + 8 * ((k : Int) % 2) + (i % 8 : Nat)) (16 * ((mb : Int) / (c : Int)) + 8 * ((k : Int) / 2) + (i / 8 : Nat))
  unfold midS
  simp only [h, sumTo_const]
  omega

set_option maxHeartbeats 1000000 in
theorem awake6 (w : World) :
    Calls Try.prog 30 #[] w fun e w' => e = .returned (.bool true) ∧ Below w.heap.size w w' := by
  go_enter Try.func30, Try.ntmps30
  go_wp2_with fail
  refine (newFrame_any _ _ 7 1 1 _ (by decide) (by decide) (by omega)).mono ?_
  rintro e w1 ⟨b1, b2, b3, rfl, _, hM, hb⟩
  have HO : Ob (w1.alloc (.cells (frFlat 1 1 b1 b2 b3 7).cells FRT)) w1.heap.size FRT (frFlat 1 1 b1 b2 b3 7).cells := Ob.new_at _ _ rfl
  replace hM := hM.alloc (.cells (frFlat 1 1 b1 b2 b3 7).cells FRT)
  replace hb := hb.alloc hb.size (.cells (frFlat 1 1 b1 b2 b3 7).cells FRT)
  have hmid := Lib.hid (mid_flat 1 1 b1 b2 b3 0 7 (by omega) (by omega))
  have g1 : 0 < (frFlat 1 1 b1 b2 b3 7).c := by simp [frFlat]
  have g2 : 0 < (frFlat 1 1 b1 b2 b3 7).r := by simp [frFlat]
  generalize frFlat 1 1 b1 b2 b3 7 = f at *
  unfold Fr.val Fr.cells
  go_wp2_with (refine wpList_load_ob HO rfl _ _ rfl rfl Try.underlying43 (by kernel_rfl) ?_)
  refine (check_ok f _ g1 hM.hc g2 hM.hr).mono ?_
  rintro e w3 ⟨rfl, hb3⟩
  replace HO := HO.later hb3; replace hM := hM.later hb3; replace hb := below_step hb hb3
  clear hb3
  go_wp2_with (refine wpList_load_ob_g HO rfl _ _ rfl rfl Try.underlying43 (by kernel_rfl) ?_)
  refine (middle_any f 0 _ g1 hM (by omega)).mono ?_
  rw [hmid.out]
  rintro e w4 ⟨rfl, hb4⟩
  go_wp2_with fail
  go_ret
  exact ⟨rfl, below_step hb hb4⟩
end Go.Proofs.Ytbldgpemocnboaa

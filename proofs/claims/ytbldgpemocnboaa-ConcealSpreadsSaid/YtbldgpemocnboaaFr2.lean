/- Frame's Check, Block, Middle, walked. -/
import Derived.Test.YtbldgpemocnboaaFr1
namespace Go.Proofs.Ytbldgpemocnboaa
open Go.RowKit
attribute [local go_sem ↓] run_imax run_imin

theorem mul_bd16 {c r : Nat} (h1 : c ≤ 8) (h2 : r ≤ 8) : 0 ≤ 16 * (c : Int) * (16 * (r : Int)) ∧ 16 * (c : Int) * (16 * (r : Int)) ≤ 16384 := by
  have h : 16 * c * (16 * r) ≤ 128 * 128 := Nat.mul_le_mul (by omega) (by omega)
  have e : 16 * (c : Int) * (16 * (r : Int)) = ((16 * c * (16 * r) : Nat) : Int) := by simp
  rw [e]; omega
theorem mul_bd8 {c r : Nat} (h1 : c ≤ 8) (h2 : r ≤ 8) : 0 ≤ 8 * (c : Int) * (8 * (r : Int)) ∧ 8 * (c : Int) * (8 * (r : Int)) ≤ 4096 := by
  have h : 8 * c * (8 * r) ≤ 64 * 64 := Nat.mul_le_mul (by omega) (by omega)
  have e : 8 * (c : Int) * (8 * (r : Int)) = ((8 * c * (8 * r) : Nat) : Int) := by simp
  rw [e]; omega
set_option maxRecDepth 1000000 in
set_option maxHeartbeats 4000000 in
theorem check_ok (f : Fr) (w : World) (h1 : 0 < f.c) (h2 : f.c ≤ 8) (h3 : 0 < f.r) (h4 : f.r ≤ 8) :
    Calls Try.prog 68 #[f.val] w fun e w' => e = .returned (.int .i64 0) ∧ Below w.heap.size w w' := by
  obtain ⟨c, r, bY, bU, bV, cY, cU, cV, sY, sU, sV⟩ := f
  simp only [Fr.val, Fr.cells] at *
  have a1 : ¬ c = 0 := by omega
  have a2 : ¬ r = 0 := by omega
  have a3 : ¬ 8 < c := by omega
  have a4 : ¬ 8 < r := by omega
  obtain ⟨b1, b2⟩ := mul_bd16 h2 h4
  obtain ⟨b3, b4⟩ := mul_bd8 h2 h4
  go_enter Try.func68, Try.ntmps68
  go_wp2_with fail
  go_ret
  exact ⟨rfl, (Below.refl _ _).alloc (Nat.le_refl _) _⟩

theorem plV_16 (c r p n m : Nat) : plV (16 * c) (16 * r) p n m = .agg #[.int .i64 (16 * (c : Int)), .int .i64 (16 * (r : Int)), .slice (some ⟨p, 0, none⟩) n m] := by simp [plV]
theorem plV_8 (c r p n m : Nat) : plV (8 * c) (8 * r) p n m = .agg #[.int .i64 (8 * (c : Int)), .int .i64 (8 * (r : Int)), .slice (some ⟨p, 0, none⟩) n m] := by simp [plV]

/-- Block: the plane, and where in it. -/
def blkY (f : Fr) (mb k : Nat) : Value := .tuple #[plV (16 * f.c) (16 * f.r) f.bY (16 * f.c * (16 * f.r)) f.cY, .int .i64 (16 * ((mb : Int) % (f.c : Int)) + 8 * ((k : Int) % 2)), .int .i64 (16 * ((mb : Int) / (f.c : Int)) + 8 * ((k : Int) / 2))]
def blkU (f : Fr) (mb : Nat) : Value := .tuple #[plV (8 * f.c) (8 * f.r) f.bU (8 * f.c * (8 * f.r)) f.cU, .int .i64 (8 * ((mb : Int) % (f.c : Int))), .int .i64 (8 * ((mb : Int) / (f.c : Int)))]
def blkV (f : Fr) (mb : Nat) : Value := .tuple #[plV (8 * f.c) (8 * f.r) f.bV (8 * f.c * (8 * f.r)) f.cV, .int .i64 (8 * ((mb : Int) % (f.c : Int))), .int .i64 (8 * ((mb : Int) / (f.c : Int)))]
theorem mb_bd (mb c : Nat) (h : mb ≤ 1000000) : 0 ≤ (mb : Int) % (c : Int) ∧ (mb : Int) % (c : Int) ≤ 1000000 ∧ 0 ≤ (mb : Int) / (c : Int) ∧ (mb : Int) / (c : Int) ≤ 1000000 := by
  have h1 := Nat.mod_le mb c
  have h2 := Nat.div_le_self mb c
  have h3 : (mb : Int) % (c : Int) = ((mb % c : Nat) : Int) := by simp
  have h4 : (mb : Int) / (c : Int) = ((mb / c : Nat) : Int) := by simp
  rw [h3, h4]
  generalize mb % c = x at *
  generalize mb / c = y at *
  omega

set_option maxRecDepth 100000 in
set_option maxHeartbeats 1000000 in
theorem frBlockY (f : Fr) (mb k : Nat) (w : World) (h1 : 0 < f.c) (h2 : f.c ≤ 8) (hm : mb ≤ 1000000) (hk : k < 4) :
    Calls Try.prog 52 #[f.val, .int .i64 (mb : Int), .int .i64 (k : Int)] w fun e w' => e = .returned (blkY f mb k) ∧ Below w.heap.size w w' := by
  obtain ⟨c, r, bY, bU, bV, cY, cU, cV, sY, sU, sV⟩ := f
  simp only [Fr.val, Fr.cells, blkY, plV_16] at *
  obtain ⟨m1, m2, m3, m4⟩ := mb_bd mb c hm
  have hi : imax (c : Int) 1 = c := by rw [imax_eq]; omega
  have hk1 : decide ((k : Int) < 4) = true := by simp; omega
  have hk2 : (0 : Int) ≤ k := by omega
  go_enter Try.func52, Try.ntmps52
  go_wp2_with fail
  replace hi := Lib.hid hi
  go_quiet (fail)
  go_wp2_with fail
  exact bodyPost_ret (v := .tuple #[.agg _, .int .i64 _, .int .i64 _]) (by simp [results, Try.results52, go_sem]) rfl ⟨rfl, by ((repeat (first | exact Below.refl _ _ | assumption | refine Below.setCell ?_ (by first | omega | (simp; done) | (simp; omega)) _ | refine Below.alloc ?_ (by first | omega | (simp; done) | (simp; omega)) _ | refine below_drewN ?_ _ | refine Below.drew ?_ | refine below_setRow ?_ (by first | omega | (simp; done) | (simp; omega)) _)))⟩

set_option maxRecDepth 100000 in
set_option maxHeartbeats 1000000 in
theorem frBlockU (f : Fr) (mb : Nat) (w : World) (h1 : 0 < f.c) (h2 : f.c ≤ 8) (hm : mb ≤ 1000000) :
    Calls Try.prog 52 #[f.val, .int .i64 (mb : Int), .int .i64 4] w fun e w' => e = .returned (blkU f mb) ∧ Below w.heap.size w w' := by
  obtain ⟨c, r, bY, bU, bV, cY, cU, cV, sY, sU, sV⟩ := f
  simp only [Fr.val, Fr.cells, blkU, plV_8] at *
  obtain ⟨m1, m2, m3, m4⟩ := mb_bd mb c hm
  have hi : imax (c : Int) 1 = c := by rw [imax_eq]; omega
  go_enter Try.func52, Try.ntmps52
  go_wp2_with fail
  replace hi := Lib.hid hi
  go_quiet (fail)
  go_wp2_with fail
  exact bodyPost_ret (v := .tuple #[.agg _, .int .i64 _, .int .i64 _]) (by simp [results, Try.results52, go_sem]) rfl ⟨rfl, by ((repeat (first | exact Below.refl _ _ | assumption | refine Below.setCell ?_ (by first | omega | (simp; done) | (simp; omega)) _ | refine Below.alloc ?_ (by first | omega | (simp; done) | (simp; omega)) _ | refine below_drewN ?_ _ | refine Below.drew ?_ | refine below_setRow ?_ (by first | omega | (simp; done) | (simp; omega)) _)))⟩

set_option maxRecDepth 100000 in
set_option maxHeartbeats 1000000 in
theorem frBlockV (f : Fr) (mb : Nat) (w : World) (h1 : 0 < f.c) (h2 : f.c ≤ 8) (hm : mb ≤ 1000000) :
    Calls Try.prog 52 #[f.val, .int .i64 (mb : Int), .int .i64 5] w fun e w' => e = .returned (blkV f mb) ∧ Below w.heap.size w w' := by
  obtain ⟨c, r, bY, bU, bV, cY, cU, cV, sY, sU, sV⟩ := f
  simp only [Fr.val, Fr.cells, blkV, plV_8] at *
  obtain ⟨m1, m2, m3, m4⟩ := mb_bd mb c hm
  have hi : imax (c : Int) 1 = c := by rw [imax_eq]; omega
  go_enter Try.func52, Try.ntmps52
  go_wp2_with fail
  replace hi := Lib.hid hi
  go_quiet (fail)
  go_wp2_with fail
  exact bodyPost_ret (v := .tuple #[.agg _, .int .i64 _, .int .i64 _]) (by simp [results, Try.results52, go_sem]) rfl ⟨rfl, by ((repeat (first | exact Below.refl _ _ | assumption | refine Below.setCell ?_ (by first | omega | (simp; done) | (simp; omega)) _ | refine Below.alloc ?_ (by first | omega | (simp; done) | (simp; omega)) _ | refine below_drewN ?_ _ | refine Below.drew ?_ | refine below_setRow ?_ (by first | omega | (simp; done) | (simp; omega)) _)))⟩
end Go.Proofs.Ytbldgpemocnboaa

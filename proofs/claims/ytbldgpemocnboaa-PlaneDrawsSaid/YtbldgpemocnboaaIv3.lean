/- The document's answer of layer 13 (floor, At), walked. -/
import Derived.Test.YtbldgpemocnboaaIv2
namespace Go.Proofs.Ytbldgpemocnboaa
open Go.RowKit Go.Sort
attribute [local go_sem ↓] run_imax run_imin

theorem floor_any (n : Int) (w : World) (h : -9223372036854775808 ≤ n) (h2 : n ≤ 9223372036854775807) :
    Calls Try.prog 111 #[.int .i64 n] w fun e w' => e = .returned (.tuple #[.int .i64 (n / 2), .int .i64 (n % 2)]) ∧ w = w' := by
  have e1 : n.tmod 2 = n % 2 ∨ n.tmod 2 = -1 ∧ n % 2 = 1 := by rw [Int.tmod_eq_emod]; split <;> omega
  rcases e1 with e1 | ⟨e1, e2⟩
  · have d1 : decide (n % 2 < 0) = false := by simp; omega
    have e3 : (n - n % 2).tdiv 2 = n / 2 := by rw [Int.tdiv_eq_ediv_of_dvd (by omega)]; omega
    go_enter Try.func111, Try.ntmps111
    go_wp2
    go_ret2
    exact ⟨rfl, rfl⟩
  · have e3 : (n - 1).tdiv 2 = n / 2 := by rw [Int.tdiv_eq_ediv_of_dvd (by omega)]; omega
    have b1 : -9223372036854775807 ≤ n := by omega
    rw [e2]
    clear e2
    go_enter Try.func111, Try.ntmps111
    go_wp2
    go_ret2
    exact ⟨rfl, rfl⟩

set_option maxHeartbeats 2000000 in
theorem refAt_any (W H b c : Nat) (s : Nat → Int) (x y : Int) (w : World) (hW : 0 < W) (hH : 0 < H) (hW2 : W ≤ 1024) (hH2 : H ≤ 1024) (hP : PB w b (W * H) s) :
    Calls Try.prog 123 #[plV W H b (W * H) c, .int .i64 x, .int .i64 y] w fun r w' => r = .returned (.int .i64 (plAt W H s x y)) ∧ Below w.heap.size w w' := by
  have hi := idx_lt x y hW hH
  have hsz := size_le hW2 hH2
  have hx := cl_lt x hW
  have hy := cl_lt y hH
  have hc := hP.cell hi
  have hr : plAt W H s x y = s (cl y H * W + cl x W) := by unfold plAt; rw [if_neg (by omega)]
  rw [hr]
  clear hr
  obtain ⟨hv1, hv2⟩ := hP.bd hi
  have hm : cl y H * W ≤ 1048576 := by omega
  have d3 : decide ((W : Int) * (H : Int) ≤ (cl y H : Int) * (W : Int) + (cl x W : Int)) = false := by
    have : (((cl y H * W + cl x W : Nat)) : Int) < ((W * H : Nat) : Int) := by omega
    simpa using this
  obtain ⟨mx, hmx⟩ : ∃ mx : Nat, (W : Int) - 1 = (mx : Int) := ⟨W - 1, by omega⟩
  obtain ⟨my, hmy⟩ : ∃ my : Nat, (H : Int) - 1 = (my : Int) := ⟨H - 1, by omega⟩
  have hlt := hP.lt
  have kx : (cl x W = 0 ∧ x < 0) ∨ (x = (cl x W : Int) ∧ (cl x W : Int) ≤ mx) ∨ (cl x W = mx ∧ (mx : Int) < x) := by unfold cl; omega
  have ky : (cl y H = 0 ∧ y < 0) ∨ (y = (cl y H : Int) ∧ (cl y H : Int) ≤ my) ∨ (cl y H = my ∧ (my : Int) < y) := by unfold cl; omega
  generalize cl x W = cx at *
  generalize cl y H = cy at *
  unfold plV
  rcases kx with ⟨rfl, kx⟩ | ⟨rfl, kx⟩ | ⟨rfl, kx⟩ <;> rcases ky with ⟨rfl, ky⟩ | ⟨rfl, ky⟩ | ⟨rfl, ky⟩
  all_goals
    try simp only [Nat.zero_mul, Nat.zero_add, Nat.add_zero, Int.natCast_zero, Int.zero_mul, Int.zero_add, Int.add_zero] at hc d3 hv1 hv2 ⊢
    first | (have dx1 : decide (x < 0) = true := by simp; omega) | (have dx1 : decide (x < 0) = false := by simp; omega) | skip
    first | (have dx2 : decide ((mx : Int) < x) = true := by simp; omega) | (have dx2 : decide ((mx : Int) < (cx : Int)) = false := by simp; omega) | skip
    first | (have dy1 : decide (y < 0) = true := by simp; omega) | (have dy1 : decide (y < 0) = false := by simp; omega) | skip
    first | (have dy2 : decide ((my : Int) < y) = true := by simp; omega) | (have dy2 : decide ((my : Int) < (cy : Int)) = false := by simp; omega) | skip
    go_enter Try.func123, Try.ntmps123
    go_wp2_with fail
    go_ret
    exact ⟨rfl, by ((repeat (first | exact Below.refl _ _ | assumption | refine Below.setCell ?_ (by first | omega | (simp; done) | (simp; omega)) _ | refine Below.alloc ?_ (by first | omega | (simp; done) | (simp; omega)) _ | refine below_drewN ?_ _ | refine Below.drew ?_ | refine below_setRow ?_ (by first | omega | (simp; done) | (simp; omega)) _)))⟩
end Go.Proofs.Ytbldgpemocnboaa

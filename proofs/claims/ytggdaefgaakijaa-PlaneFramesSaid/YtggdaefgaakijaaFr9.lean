/- plane.Frame's Check of frames that are not right, walked. -/
import Derived.Test.YtggdaefgaakijaaCell
namespace Go.Proofs.Ytggdaefgaakijaa
open Go.RowKit Go.Sort
attribute [local go_sem ↓] run_imax run_imin

set_option maxRecDepth 1000000 in
set_option maxHeartbeats 4000000 in
theorem check_size (C R : Int) (x2 x3 x4 x5 x6 x7 x8 x9 x10 : Value) (w : World) (h : C < 1 ∨ 8 < C ∨ R < 1 ∨ 8 < R) :
    Calls Try.prog 43 #[.agg #[.int .i64 C, .int .i64 R, x2, x3, x4, x5, x6, x7, x8, x9, x10]] w fun e w' => e = .returned (.int .i64 6) ∧ Below w.heap.size w w' := by
  have h' : C < 1 ∨ ¬ C < 1 ∧ 8 < C ∨ ¬ C < 1 ∧ ¬ 8 < C ∧ R < 1 ∨ ¬ C < 1 ∧ ¬ 8 < C ∧ ¬ R < 1 ∧ 8 < R := by omega
  clear h
  rcases h' with h1 | ⟨h1, h2⟩ | ⟨h1, h2, h3⟩ | ⟨h1, h2, h3, h4⟩
  all_goals
    first | (have d1 : decide (C < 1) = true := by simpa using h1) | (have d1 : decide (C < 1) = false := by simpa using h1)
    first | (have d2 : decide (8 < C) = true := by simpa using h2) | (have d2 : decide (8 < C) = false := by simpa using h2) | skip
    first | (have d3 : decide (R < 1) = true := by simpa using h3) | (have d3 : decide (R < 1) = false := by simpa using h3) | skip
    first | (have d4 : decide (8 < R) = true := by simpa using h4) | skip
    go_enter Try.func43, Try.ntmps43
    go_wp2_with fail
    go_ret
    exact ⟨rfl, by ((repeat (first | exact Below.refl _ _ | assumption | refine Below.setCell ?_ (by first | omega | (simp; done) | (simp; omega)) _ | refine Below.alloc ?_ (by first | omega | (simp; done) | (simp; omega)) _ | refine below_drewN ?_ _ | refine Below.drew ?_ | refine below_setRow ?_ (by first | omega | (simp; done) | (simp; omega)) _)))⟩

set_option maxRecDepth 1000000 in
set_option maxHeartbeats 4000000 in
theorem check_bent0 (c r : Int) (x2 x3 x4 x5 x6 x7 x8 x9 x10 : Value) (w : World) (hc : 1 ≤ c ∧ c ≤ 3) (hr : 1 ≤ r ∧ r ≤ 3) (h2 : x2 = .int .i64 (16 * c)) :
    Calls Try.prog 43 #[.agg #[.int .i64 (c + 1), .int .i64 r, x2, x3, x4, x5, x6, x7, x8, x9, x10]] w fun e w' => e = .returned (.int .i64 4) ∧ Below w.heap.size w w' := by
  subst h2
  have d1 : decide (c + 1 < 1) = false := by simp; omega
  have d2 : decide (8 < c + 1) = false := by simp; omega
  have d3 : decide (r < 1) = false := by simp; omega
  have d4 : decide (8 < r) = false := by simp; omega
  have d5 : ¬ (16 * c = 16 * (c + 1)) := by omega
  have d6 : (16 * c == 16 * (c + 1)) = false := by simp; omega
  go_enter Try.func43, Try.ntmps43
  go_wp2_with fail
  go_ret
  exact ⟨rfl, by ((repeat (first | exact Below.refl _ _ | assumption | refine Below.setCell ?_ (by first | omega | (simp; done) | (simp; omega)) _ | refine Below.alloc ?_ (by first | omega | (simp; done) | (simp; omega)) _ | refine below_drewN ?_ _ | refine Below.drew ?_ | refine below_setRow ?_ (by first | omega | (simp; done) | (simp; omega)) _)))⟩
set_option maxRecDepth 1000000 in
set_option maxHeartbeats 4000000 in
theorem check_bent1 (c r : Int) (x3 x4 x5 x6 x7 x8 x9 x10 : Value) (w : World) (hc : 1 ≤ c ∧ c ≤ 3) (hr : 1 ≤ r ∧ r ≤ 3) :
    Calls Try.prog 43 #[.agg #[.int .i64 c, .int .i64 r, .int .i64 (16 * c - 1), x3, x4, x5, x6, x7, x8, x9, x10]] w fun e w' => e = .returned (.int .i64 4) ∧ Below w.heap.size w w' := by
  have d1 : decide (c < 1) = false := by simp; omega
  have d2 : decide (8 < c) = false := by simp; omega
  have d3 : decide (r < 1) = false := by simp; omega
  have d4 : decide (8 < r) = false := by simp; omega
  have d5 : ¬ (16 * c - 1 = 16 * c) := by omega
  have d6 : (16 * c - 1 == 16 * c) = false := by simp; omega
  go_enter Try.func43, Try.ntmps43
  go_wp2_with fail
  go_ret
  exact ⟨rfl, by ((repeat (first | exact Below.refl _ _ | assumption | refine Below.setCell ?_ (by first | omega | (simp; done) | (simp; omega)) _ | refine Below.alloc ?_ (by first | omega | (simp; done) | (simp; omega)) _ | refine below_drewN ?_ _ | refine Below.drew ?_ | refine below_setRow ?_ (by first | omega | (simp; done) | (simp; omega)) _)))⟩
set_option maxRecDepth 1000000 in
set_option maxHeartbeats 4000000 in
theorem check_bent3 (c r : Int) (x4 x7 x10 : Value) (w : World) (hc : 1 ≤ c ∧ c ≤ 3) (hr : 1 ≤ r ∧ r ≤ 3) :
    Calls Try.prog 43 #[.agg #[.int .i64 c, .int .i64 r, .int .i64 (16 * c), .int .i64 (16 * r), x4, .int .i64 (8 * c), .int .i64 (8 * r), x7, .int .i64 (8 * c), .int .i64 (8 * r + 1), x10]] w fun e w' => e = .returned (.int .i64 4) ∧ Below w.heap.size w w' := by
  have d1 : decide (c < 1) = false := by simp; omega
  have d2 : decide (8 < c) = false := by simp; omega
  have d3 : decide (r < 1) = false := by simp; omega
  have d4 : decide (8 < r) = false := by simp; omega
  have d5 : ¬ (8 * r + 1 = 8 * r) := by omega
  have d6 : (8 * r + 1 == 8 * r) = false := by simp; omega
  go_enter Try.func43, Try.ntmps43
  go_wp2_with fail
  go_ret
  exact ⟨rfl, by ((repeat (first | exact Below.refl _ _ | assumption | refine Below.setCell ?_ (by first | omega | (simp; done) | (simp; omega)) _ | refine Below.alloc ?_ (by first | omega | (simp; done) | (simp; omega)) _ | refine below_drewN ?_ _ | refine Below.drew ?_ | refine below_setRow ?_ (by first | omega | (simp; done) | (simp; omega)) _)))⟩
set_option maxRecDepth 1000000 in
set_option maxHeartbeats 4000000 in
theorem check_bent2 (c r : Nat) (p1 p2 p3 : Option Addr) (k1 k2 k3 : Nat) (w : World) (hc : 1 ≤ c ∧ c ≤ 3) (hr : 1 ≤ r ∧ r ≤ 3) :
    Calls Try.prog 43 #[.agg #[.int .i64 (c : Int), .int .i64 (r : Int), .int .i64 (16 * (c : Int)), .int .i64 (16 * (r : Int)), .slice p1 (16 * c * (16 * r)) k1, .int .i64 (8 * (c : Int)), .int .i64 (8 * (r : Int)), .slice p2 (8 * c * (8 * r) - 1) k2, .int .i64 (8 * (c : Int)), .int .i64 (8 * (r : Int)), .slice p3 (8 * c * (8 * r)) k3]] w fun e w' => e = .returned (.int .i64 4) ∧ Below w.heap.size w w' := by
  obtain ⟨c1, c2⟩ := hc
  obtain ⟨r1, r2⟩ := hr
  have hc3 : c = 1 ∨ c = 2 ∨ c = 3 := by omega
  have hr3 : r = 1 ∨ r = 2 ∨ r = 3 := by omega
  rcases hc3 with rfl | rfl | rfl <;> rcases hr3 with rfl | rfl | rfl
  all_goals
    go_enter Try.func43, Try.ntmps43
    go_wp2_with fail
    go_ret
    exact ⟨rfl, by ((repeat (first | exact Below.refl _ _ | assumption | refine Below.setCell ?_ (by first | omega | (simp; done) | (simp; omega)) _ | refine Below.alloc ?_ (by first | omega | (simp; done) | (simp; omega)) _ | refine below_drewN ?_ _ | refine Below.drew ?_ | refine below_setRow ?_ (by first | omega | (simp; done) | (simp; omega)) _)))⟩
section
variable {w w' : World} {T : TypeId} {cs ds : Array Value} (h : (w.alloc (.cells cs T)).setRow w.heap.size ds = w')
include h
theorem cellT_ob : Ob w' w.heap.size T ds := by rw [← h]; exact (Ob.new_at (w := w) T cs rfl).setRow_same _
theorem cellT_keep {b : Nat} {U : TypeId} {es : Array Value} (H : Ob w b U es) : Ob w' b U es := by rw [← h]; have := H.lt; exact (H.alloc _).setRow (by omega) _
theorem cellT_pb {b n : Nat} {s : Nat → Int} (H : PB w b n s) : PB w' b n s := by rw [← h]; have := H.lt; exact (H.alloc _).setRow (by omega) _
theorem cellT_mem {f : Fr} (H : f.Mem w) : f.Mem w' := ⟨H.hc, H.hr, cellT_pb h H.y, cellT_pb h H.u, cellT_pb h H.v, H.yu, H.yv, H.uv⟩
theorem cellT_below {B : Nat} {a : World} (H : Below B a w) (hB : B ≤ w.heap.size) : Below B a w' := by rw [← h]; exact below_setRow (H.alloc hB _) hB _
end
end Go.Proofs.Ytggdaefgaakijaa

/- Walks of quant.Level, quant.Back, quant.First, FirstLevel, FirstBack and of the document's Back, First, Step: what they return, for all ints within the bounds that each theorem names. -/
import Derived.Test.YtbldgpemocnboaaArr
namespace Go.Proofs.Ytbldgpemocnboaa
open Go.RowKit
attribute [local go_sem ↓] run_imax run_imin

def qback (l s : Int) : Int := if 0 < l then l * s + s / 2 else if l < 0 then l * s - s / 2 else 0

theorem tdiv_bd (n d : Int) (h0 : -9223372036854775808 ≤ n) (h1 : n ≤ 9223372036854775807) (hm : 1 ≤ d) : -9223372036854775808 ≤ n.tdiv d ∧ n.tdiv d ≤ 9223372036854775807 := by
  have h3 : (n.tdiv d).natAbs ≤ n.natAbs := by rw [Int.natAbs_tdiv]; exact Nat.div_le_self _ _
  by_cases hn : 0 ≤ n
  · have := Int.tdiv_nonneg hn (show 0 ≤ d by omega)
    omega
  · have h4 := Int.tdiv_nonneg (show 0 ≤ -n by omega) (show 0 ≤ d by omega)
    rw [Int.neg_tdiv] at h4
    omega

theorem mul_bd (l s L S : Int) (hl : -L ≤ l) (hl' : l ≤ L) (hs : 0 ≤ s) (hs' : s ≤ S) (hL : 0 ≤ L) : -(L * S) ≤ l * s ∧ l * s ≤ L * S := by
  constructor
  · calc -(L * S) ≤ -(L * s) := Int.neg_le_neg (Int.mul_le_mul_of_nonneg_left hs' hL)
      _ = (-L) * s := by rw [Int.neg_mul]
      _ ≤ l * s := Int.mul_le_mul_of_nonneg_right hl hs
  · calc l * s ≤ L * s := Int.mul_le_mul_of_nonneg_right hl' hs
      _ ≤ L * S := Int.mul_le_mul_of_nonneg_left hs' hL

set_option maxHeartbeats 400000 in
theorem level_any (n s : Int) (w : World) (h0 : -9223372036854775808 ≤ n) (h1 : n ≤ 9223372036854775807) :
    Calls Try.prog 86 #[.int .i64 n, .int .i64 s] w fun e w' => e = .returned (.int .i64 (imin (imax (n.tdiv (imax s 1)) (-2047)) 2047)) ∧ w = w' := by
  have hm : 1 ≤ imax s 1 := by rw [imax_eq]; omega
  obtain ⟨hq1, hq2⟩ := tdiv_bd n (imax s 1) h0 h1 hm
  go_enter Try.func86, Try.ntmps86
  go_wp2
  go_ret
  exact ⟨ret_int rfl, rfl⟩

theorem lev_bd (l : Int) : -2047 ≤ imin (imax l (-2047)) 2047 ∧ imin (imax l (-2047)) 2047 ≤ 2047 := by rw [imin_eq, imax_eq]; omega
theorem stp_bd (s : Int) : 1 ≤ imin (imax s 1) 65536 ∧ imin (imax s 1) 65536 ≤ 65536 := by rw [imin_eq, imax_eq]; omega

set_option maxHeartbeats 400000 in
theorem back_any (l s : Int) (w : World) :
    Calls Try.prog 87 #[.int .i64 l, .int .i64 s] w fun e w' => e = .returned (.int .i64 (qback (imin (imax l (-2047)) 2047) (imin (imax s 1) 65536))) ∧ w = w' := by
  obtain ⟨hl, hl'⟩ := lev_bd l
  obtain ⟨hs, hs'⟩ := stp_bd s
  obtain ⟨hp, hp'⟩ := mul_bd _ _ 2047 65536 hl hl' (by omega : 0 ≤ imin (imax s 1) 65536) hs' (by omega)
  go_enter Try.func87, Try.ntmps87
  go_wp2
  all_goals
    go_ret
    exact ⟨ret_int (by unfold qback; split <;> (try split) <;> omega), rfl⟩

set_option maxHeartbeats 400000 in
theorem rback_any (l s : Int) (w : World) (hl : -2047 ≤ l) (hl' : l ≤ 2047) (hs : 0 ≤ s) (hs' : s ≤ 65536) :
    Calls Try.prog 92 #[.int .i64 l, .int .i64 s] w fun e w' => e = .returned (.int .i64 (qback l s)) ∧ w = w' := by
  obtain ⟨hp, hp'⟩ := mul_bd l s 2047 65536 hl hl' hs hs' (by omega)
  obtain ⟨hq, hq'⟩ := mul_bd (-l) s 2047 65536 (by omega) (by omega) hs hs' (by omega)
  have hn := Lib.hid (Int.neg_mul l s)
  go_enter Try.func92, Try.ntmps92
  go_wp2
  all_goals
    go_ret
    have hn := hn.out
    exact ⟨ret_int (by unfold qback; split <;> (try split) <;> omega), rfl⟩

theorem qp_bd (q : Int) : 1 ≤ imin (imax q 1) 31 ∧ imin (imax q 1) 31 ≤ 31 := by rw [imin_eq, imax_eq]; omega

/-- The first step of a qp from 1 to 31. -/
def qfirst (q : Int) : Int := 64 * imax 2 (q / 2)

theorem qfirst_bd (q : Int) (h1 : q ≤ 31) : 128 ≤ qfirst q ∧ qfirst q ≤ 960 := by unfold qfirst; rw [imax_eq]; omega

set_option maxHeartbeats 400000 in
theorem first_any (q : Int) (w : World) :
    Calls Try.prog 93 #[.int .i64 q] w fun e w' => e = .returned (.int .i64 (qfirst (imin (imax q 1) 31))) ∧ w = w' := by
  obtain ⟨h1, h2⟩ := qp_bd q
  have h3 : 2 ≤ imax 2 (imin (imax q 1) 31 / 2) ∧ imax 2 (imin (imax q 1) 31 / 2) ≤ 15 := by rw [imax_eq 2]; omega
  go_enter Try.func93, Try.ntmps93
  go_wp2
  go_ret
  exact ⟨ret_int rfl, rfl⟩

set_option maxHeartbeats 400000 in
theorem rfirst_any (q : Int) (w : World) (h1 : 1 ≤ q) (h2 : q ≤ 31) :
    Calls Try.prog 27 #[.int .i64 q] w fun e w' => e = .returned (.int .i64 (qfirst q)) ∧ w = w' := by
  go_enter Try.func27, Try.ntmps27
  go_wp2
  all_goals
    go_ret
    exact ⟨ret_int (by unfold qfirst; rw [imax_eq]; omega), rfl⟩

set_option maxHeartbeats 400000 in
theorem firstLevel_any (n q : Int) (w : World) (h1 : n ≤ 1099511627776) :
    Calls Try.prog 90 #[.int .i64 n, .int .i64 q] w fun e w' => e = .returned (.int .i64 (imin ((imax n 0 + qfirst (imin (imax q 1) 31) / 2) / qfirst (imin (imax q 1) 31)) 127)) ∧ w = w' := by
  obtain ⟨h2, h3⟩ := qfirst_bd _ (qp_bd q).2
  have h4 : 0 ≤ imax n 0 ∧ imax n 0 ≤ 1099511627776 := by rw [imax_eq]; omega
  go_enter Try.func90, Try.ntmps90
  go_wp2_with (go_at_call 93; (with_reducible refine (first_any _ _).mono ?_); rintro e w' ⟨rfl, rfl⟩)
  go_ret
  exact ⟨ret_int rfl, rfl⟩

theorem fl_bd (n : Int) : 0 ≤ imin (imax n 0) 127 ∧ imin (imax n 0) 127 ≤ 127 := by rw [imin_eq, imax_eq]; omega

set_option maxHeartbeats 400000 in
theorem firstBack_any (n q : Int) (w : World) :
    Calls Try.prog 91 #[.int .i64 n, .int .i64 q] w fun e w' => e = .returned (.int .i64 (imin (imax n 0) 127 * qfirst (imin (imax q 1) 31))) ∧ w = w' := by
  obtain ⟨h2, h3⟩ := qfirst_bd _ (qp_bd q).2
  obtain ⟨h4, h5⟩ := fl_bd n
  obtain ⟨h6, h7⟩ := mul_bd (imin (imax n 0) 127) (qfirst (imin (imax q 1) 31)) 127 960 (by omega) h5 (by omega) h3 (by omega)
  go_enter Try.func91, Try.ntmps91
  go_wp2_with (go_at_call 93; (with_reducible refine (first_any _ _).mono ?_); rintro e w' ⟨rfl, rfl⟩)
  go_ret
  exact ⟨ret_int rfl, rfl⟩

set_option maxHeartbeats 400000 in
theorem awake8 (w : World) :
    Calls Try.prog 20 #[] w fun e w' => e = .returned (.bool true) ∧ w = w' := by
  have e1 : imin (imax (Int.tdiv (-35) (imax 16 1)) (-2047)) 2047 = -2 := by decide
  have e2 : qback (imin (imax (-2) (-2047)) 2047) (imin (imax 16 1) 65536) = -40 := by decide
  go_enter Try.func20, Try.ntmps20
  go_wp2_with (first | (go_at_call 86; (with_reducible refine (level_any _ _ _ (by omega) (by omega)).mono ?_); rintro e w' ⟨rfl, rfl⟩) | (go_at_call 87; (with_reducible refine (back_any _ _ _).mono ?_); rintro e w' ⟨rfl, rfl⟩))
  go_ret
  exact ⟨rfl, rfl⟩
end Go.Proofs.Ytbldgpemocnboaa

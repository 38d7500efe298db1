/- Walks of the laws QuantLevels and QuantFirsts: true at every input. No condition but that the arguments are ints. -/
import Derived.Test.YtdgdpicfloekeaaQ1
namespace Go.Proofs.Ytdgdpicfloekeaa
open Go.RowKit
attribute [local go_sem ↓] run_imax run_imin

theorem near_pos (m S : Int) (hS : 1 ≤ S) (h1 : 0 ≤ m) (h2 : m < 2047 * S) :
    0 ≤ m / S ∧ m / S ≤ 2046 ∧ -S < qback (m / S) S - m ∧ qback (m / S) S - m < S ∧ qback (-(m / S)) S = -qback (m / S) S := by
  have hq0 : 0 ≤ m / S := Int.ediv_nonneg h1 (by omega)
  have hq1 : m / S < 2047 := Int.ediv_lt_of_lt_mul (by omega) h2
  have hr0 := Int.emod_nonneg m (show S ≠ 0 by omega)
  have hr1 := Int.emod_lt_of_pos m (show 0 < S by omega)
  have hd := Int.mul_ediv_add_emod m S
  rw [Int.mul_comm] at hd
  generalize m / S = q at *
  generalize m % S = r at *
  have hn := Int.neg_mul q S
  refine ⟨hq0, by omega, ?_⟩
  unfold qback
  by_cases h : 0 < q
  · rw [if_pos h, if_neg (by omega), if_pos (by omega)]; omega
  · have : q = 0 := by omega
    subst this
    simp; omega

/-- The plain law of QuantLevels: a number that no level cuts off comes back nearer than a step. -/
theorem near_step (m S : Int) (hS : 1 ≤ S) (hS' : S ≤ 65536) (h1 : -(2047 * S) < m) (h2 : m < 2047 * S) :
    -S < qback (imin (imax (imin (imax (m.tdiv (imax S 1)) (-2047)) 2047) (-2047)) 2047) (imin (imax S 1) 65536) - m ∧ qback (imin (imax (imin (imax (m.tdiv (imax S 1)) (-2047)) 2047) (-2047)) 2047) (imin (imax S 1) 65536) - m < S := by
  have e1 : imax S 1 = S := by rw [imax_eq]; omega
  have e2 : imin S 65536 = S := by rw [imin_eq]; omega
  rw [e1, e2]
  rcases (show 0 ≤ m ∨ m < 0 by omega) with h0 | h0
  · obtain ⟨a, b, c, d, _⟩ := near_pos m S hS h0 h2
    rw [Int.tdiv_eq_ediv_of_nonneg h0]
    have e3 : imin (imax (imin (imax (m / S) (-2047)) 2047) (-2047)) 2047 = m / S := by simp only [imin_eq, imax_eq]; omega
    rw [e3]; exact ⟨c, d⟩
  · obtain ⟨a, b, c, d, f⟩ := near_pos (-m) S hS (by omega) (by omega)
    have e4 : m.tdiv S = -(-m / S) := by
      rw [← Int.tdiv_eq_ediv_of_nonneg (show 0 ≤ -m by omega), Int.neg_tdiv, Int.neg_neg]
    rw [e4]
    have e3 : imin (imax (imin (imax (-(-m / S)) (-2047)) 2047) (-2047)) 2047 = -(-m / S) := by simp only [imin_eq, imax_eq]; omega
    rw [e3, f]; omega

theorem tmod_bd (n d : Int) (hd : 0 < d) : -d < n.tmod d ∧ n.tmod d < d := by
  have h1 := Int.tmod_lt_of_pos n hd
  have h2 := Int.tmod_lt_of_pos (-n) hd
  rw [Int.neg_tmod] at h2
  omega

set_option maxHeartbeats 400000 in
theorem quantLevels_walk (n s l : Int) (w : World) (h0 : -9223372036854775808 ≤ n) (h1 : n ≤ 9223372036854775807) :
    Calls Try.prog 3 #[.int .i64 n, .int .i64 s, .int .i64 l] w fun e w' => e = .returned (.bool true) ∧ w = w' := by
  by_cases hr : n < -1099511627776 ∨ 1099511627776 < n
  · rcases hr with hr | hr
    · go_enter Try.func3, Try.ntmps3
      go_wp2_with (go_at_call 13; (with_reducible refine (awake8 _).mono ?_); rintro e w' ⟨rfl, rfl⟩)
      go_ret
      exact ⟨rfl, rfl⟩
    · go_enter Try.func3, Try.ntmps3
      go_wp2_with (go_at_call 13; (with_reducible refine (awake8 _).mono ?_); rintro e w' ⟨rfl, rfl⟩)
      go_ret
      exact ⟨rfl, rfl⟩
  · have hlo : -1099511627776 ≤ n := by omega
    have hhi : n ≤ 1099511627776 := by omega
    clear hr
    have hm : 1 ≤ imax s 1 := by rw [imax_eq]; omega
    obtain ⟨hq1, hq2⟩ := tdiv_bd n (imax s 1) h0 h1 hm
    obtain ⟨hs1, hs2⟩ := stp_bd s
    obtain ⟨hl1, hl2⟩ := lev_bd l
    obtain ⟨hm1, hm2⟩ := tmod_bd n (2047 * imin (imax s 1) 65536) (by omega)
    obtain ⟨hf1, hf2⟩ := near_step (n.tmod (2047 * imin (imax s 1) 65536)) (imin (imax s 1) 65536) hs1 hs2 hm1 hm2
    go_enter Try.func3, Try.ntmps3
    go_wp2_with (first
      | (go_at_call 13; (with_reducible refine (awake8 _).mono ?_); rintro e w' ⟨rfl, rfl⟩)
      | (go_at_call 14; (with_reducible refine (level_any _ _ _ (by omega) (by omega)).mono ?_); rintro e w' ⟨rfl, rfl⟩)
      | (go_at_call 15; (with_reducible refine (back_any _ _ _).mono ?_); rintro e w' ⟨rfl, rfl⟩)
      | (go_at_call 16; (with_reducible refine (rback_any _ _ _ (by omega) (by omega) (by omega) (by omega)).mono ?_); rintro e w' ⟨rfl, rfl⟩))
    go_ret
    exact ⟨ret_bool (by rw [decide_eq_true_iff, imax_eq (qback _ _ - _)]; omega), rfl⟩

theorem first_near (m F : Int) (hF : 128 ≤ F) (hF' : F ≤ 960) (h0 : 0 ≤ m) (h1 : m ≤ 127 * F + F / 2) :
    -(F / 2) ≤ imin (imax (imin ((m + F / 2) / F) 127) 0) 127 * F - m ∧ imin (imax (imin ((m + F / 2) / F) 127) 0) 127 * F - m ≤ F / 2 := by
  have hd := Int.mul_ediv_add_emod (m + F / 2) F
  have hr0 := Int.emod_nonneg (m + F / 2) (show F ≠ 0 by omega)
  have hr1 := Int.emod_lt_of_pos (m + F / 2) (show 0 < F by omega)
  rw [Int.mul_comm] at hd
  have hq0 : 0 ≤ (m + F / 2) / F := Int.ediv_nonneg (by omega) (by omega)
  have hq1 : (m + F / 2) / F < 129 := Int.ediv_lt_of_lt_mul (by omega) (by omega)
  generalize (m + F / 2) / F = q at *
  by_cases h : q = 128
  · subst h
    have e : imin (imax (imin 128 127) 0) 127 = 127 := by decide
    rw [e]; omega
  · have e : imin (imax (imin q 127) 0) 127 = q := by simp only [imin_eq, imax_eq]; omega
    rw [e]; omega

set_option maxHeartbeats 400000 in
theorem quantFirsts_walk (n q l : Int) (w : World) :
    Calls Try.prog 4 #[.int .i64 n, .int .i64 q, .int .i64 l] w fun e w' => e = .returned (.bool true) ∧ w = w' := by
  by_cases hr : n < -1099511627776 ∨ 1099511627776 < n
  · rcases hr with hr | hr
    · go_enter Try.func4, Try.ntmps4
      go_wp2_with (go_at_call 13; (with_reducible refine (awake8 _).mono ?_); rintro e w' ⟨rfl, rfl⟩)
      go_ret
      exact ⟨rfl, rfl⟩
    · go_enter Try.func4, Try.ntmps4
      go_wp2_with (go_at_call 13; (with_reducible refine (awake8 _).mono ?_); rintro e w' ⟨rfl, rfl⟩)
      go_ret
      exact ⟨rfl, rfl⟩
  · have hlo : -1099511627776 ≤ n := by omega
    have hhi : n ≤ 1099511627776 := by omega
    clear hr
    have hn0 : 0 ≤ imax n 0 ∧ imax n 0 ≤ 1099511627776 := by rw [imax_eq]; omega
    obtain ⟨hn1, hn2⟩ := hn0
    obtain ⟨hq1, hq2⟩ := qp_bd q
    obtain ⟨hF1, hF2⟩ := qfirst_bd _ hq2
    obtain ⟨hl1, hl2⟩ := fl_bd l
    obtain ⟨hp1, hp2⟩ := mul_bd (imin (imax l 0) 127) (qfirst (imin (imax q 1) 31)) 127 960 (by omega) hl2 (by omega) hF2 (by omega)
    have hm : 0 ≤ imax n 0 % 16321 ∧ imax n 0 % 16321 < 16321 := by omega
    obtain ⟨hm1, hm2⟩ := hm
    have hx : imax (imax n 0 % 16321) 0 = imax n 0 % 16321 := by rw [imax_eq (_ % _)]; omega
    obtain ⟨hf1, hf2⟩ := first_near (imax n 0 % 16321) (qfirst (imin (imax q 1) 31)) hF1 hF2 hm1 (by omega)
    go_enter Try.func4, Try.ntmps4
    go_wp2_with (first
      | (go_at_call 13; (with_reducible refine (awake8 _).mono ?_); rintro e w' ⟨rfl, rfl⟩)
      | (go_at_call 18; (with_reducible refine (first_any _ _).mono ?_); rintro e w' ⟨rfl, rfl⟩)
      | (go_at_call 17; (with_reducible refine (rfirst_any _ _ (by omega) (by omega)).mono ?_); rintro e w' ⟨rfl, rfl⟩)
      | (go_at_call 19; (with_reducible refine (firstLevel_any _ _ _ (by omega)).mono ?_); rintro e w' ⟨rfl, rfl⟩)
      | (go_at_call 20; (with_reducible refine (firstBack_any _ _ _).mono ?_); rintro e w' ⟨rfl, rfl⟩))
    go_ret
    exact ⟨ret_bool (by rw [decide_eq_true_iff, imax_eq (_ - _)]; omega), rfl⟩
end Go.Proofs.Ytdgdpicfloekeaa

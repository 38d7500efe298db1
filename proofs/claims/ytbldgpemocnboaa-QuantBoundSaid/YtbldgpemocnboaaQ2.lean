/- Walks of the laws QuantLevels and QuantFirsts: true at every input. No condition but that the arguments are ints. -/
import Derived.Test.YtbldgpemocnboaaQ1
namespace Go.Proofs.Ytbldgpemocnboaa
open Go.RowKit
attribute [local go_sem ↓] run_imax run_imin

theorem near_pos (m S : Int) (hS : 1 ≤ S) (h1 : 0 ≤ m) (h2 : m < 2047 * S) :
    0 ≤ m / S ∧ m / S ≤ 2046 ∧ -S < qback (m / S) S - m ∧ qback (m / S) S - m < S ∧ qback (-(m / S)) S = -qback (m / S) S := by
  have hq0 : 0 ≤ m / S := Int.ediv_nonneg h1 (by omega)
  have hq1 : m / S < 2047 := Int.ediv_lt_of_lt_mul (by omega) h2
  have hr0 := Int.emod_nonneg m (show S ≠ 0 by omega)
  have hr1 := Int.emod_lt_of_pos m (show 0 < S by omega)
  have hd := Int.mul_ediv_add_emod m S
  rw [Int.mul_comm] at hd
  generalize m / S = q at *
  generalize m % S = r at *
  have hn := Int.neg_mul q S
  refine ⟨hq0, by omega, ?_⟩
  unfold qback
  by_cases h : 0 < q
  · rw [if_pos h, if_neg (by omega), if_pos (by omega)]; omega
  · have : q = 0 := by omega
    subst this
    simp; omega

/-- The plain law of QuantLevels: a number that no level cuts off comes back nearer than a step. -/
theorem near_step (m S : Int) (hS : 1 ≤ S) (hS' : S ≤ 65536) (h1 : -(2047 * S) < m) (h2 : m < 2047 * S) :
    -S < qback (imin (imax (imin (imax (m.tdiv (imax S 1)) (-2047)) 2047) (-2047)) 2047) (imin (imax S 1) 65536) - m ∧ qback (imin (imax (imin (imax (m.tdiv (imax S 1)) (-2047)) 2047) (-2047)) 2047) (imin (imax S 1) 65536) - m < S := by
  have e1 : imax S 1 = S := by rw [imax_eq]; omega
  have e2 : imin S 65536 = S := by rw [imin_eq]; omega
  rw [e1, e2]
  rcases (show 0 ≤ m ∨ m < 0 by omega) with h0 | h0
  · obtain ⟨a, b, c, d, _⟩ := near_pos m S hS h0 h2
    rw [Int.tdiv_eq_ediv_of_nonneg h0]
    have e3 : imin (imax (imin (imax (m / S) (-2047)) 2047) (-2047)) 2047 = m / S := by simp only [imin_eq, imax_eq]; omega
    rw [e3]; exact ⟨c, d⟩
  · obtain ⟨a, b, c, d, f⟩ := near_pos (-m) S hS (by omega) (by omega)
    have e4 : m.tdiv S = -(-m / S) := by
      rw [← Int.tdiv_eq_ediv_of_nonneg (show 0 ≤ -m by omega), Int.neg_tdiv, Int.neg_neg]
    rw [e4]
    have e3 : imin (imax (imin (imax (-(-m / S)) (-2047)) 2047) (-2047)) 2047 = -(-m / S) := by simp only [imin_eq, imax_eq]; omega
    rw [e3, f]; omega

theorem tmod_bd (n d : Int) (hd : 0 < d) : -d < n.tmod d ∧ n.tmod d < d := by
  have h1 := Int.tmod_lt_of_pos n hd
  have h2 := Int.tmod_lt_of_pos (-n) hd
  rw [Int.neg_tmod] at h2
  omega

theorem first_near (m F : Int) (hF : 128 ≤ F) (hF' : F ≤ 960) (h0 : 0 ≤ m) (h1 : m ≤ 127 * F + F / 2) :
    -(F / 2) ≤ imin (imax (imin ((m + F / 2) / F) 127) 0) 127 * F - m ∧ imin (imax (imin ((m + F / 2) / F) 127) 0) 127 * F - m ≤ F / 2 := by
  have hd := Int.mul_ediv_add_emod (m + F / 2) F
  have hr0 := Int.emod_nonneg (m + F / 2) (show F ≠ 0 by omega)
  have hr1 := Int.emod_lt_of_pos (m + F / 2) (show 0 < F by omega)
  rw [Int.mul_comm] at hd
  have hq0 : 0 ≤ (m + F / 2) / F := Int.ediv_nonneg (by omega) (by omega)
  have hq1 : (m + F / 2) / F < 129 := Int.ediv_lt_of_lt_mul (by omega) (by omega)
  generalize (m + F / 2) / F = q at *
  by_cases h : q = 128
  · subst h
    have e : imin (imax (imin 128 127) 0) 127 = 127 := by decide
    rw [e]; omega
  · have e : imin (imax (imin q 127) 0) 127 = q := by simp only [imin_eq, imax_eq]; omega
    rw [e]; omega

end Go.Proofs.Ytbldgpemocnboaa

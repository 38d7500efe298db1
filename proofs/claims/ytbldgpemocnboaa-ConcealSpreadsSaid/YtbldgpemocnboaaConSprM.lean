/- Plain: what the law ConcealSpreads wants of a sample. -/
import Derived.Test.YtbldgpemocnboaaConM
namespace Go.Proofs.Ytbldgpemocnboaa
open Go.RowKit

/-- A sample between two rows of macroblocks, as the law says it. -/
def spW (W H : Nat) (s : Nat → Int) (px py U : Int) (D R : Nat) (a b : Int) : Int :=
  if (0 ≤ U ∧ D < R) ∧ a < b then (plAt W H s px a * (b - py) + plAt W H s px b * (py - a)).tdiv (b - a) else if 0 ≤ U then plAt W H s px a else if D < R then plAt W H s px b else 128
theorem spW_is (f : Fr) (mb k : Nat) (U : Int) (D j : Nat) : spW (f.pw k) (f.ph k) (f.ps k) (f.px mb k + ((j % 8 : Nat) : Int)) (f.py mb k + ((j / 8 : Nat) : Int)) U D f.r (U * (szk k : Int) + (szk k : Int) - 1) ((D : Int) * (szk k : Int)) = sprV f mb k U D j := by
  unfold sprV btw spW
  have e1 : (U + 1) * (szk k : Int) = U * (szk k : Int) + (szk k : Int) := by rw [Int.add_mul, Int.one_mul]
  have e2 : ((D * szk k : Nat) : Int) = (D : Int) * (szk k : Int) := by rw [Int.natCast_mul]
  have hs : (0 : Int) < (szk k : Int) := by unfold szk; split <;> omega
  have hb0 : 0 ≤ (D : Int) * (szk k : Int) := Int.mul_nonneg (by omega) (by omega)
  by_cases hU : U < 0
  · have ea : abv U k = -1 := by unfold abv; rw [if_pos hU]
    rw [ea, if_neg (show ¬ ((0 ≤ U ∧ D < f.r) ∧ _) by omega), if_neg (show ¬ 0 ≤ U by omega)]
    by_cases hD : D < f.r
    · have eb : blw f.r D k = (D : Int) * (szk k : Int) := by unfold blw; rw [if_pos hD, e2]
      rw [eb, if_pos hD, if_neg (by omega), if_pos (by omega)]
    · have eb : blw f.r D k = -1 := by unfold blw; rw [if_neg hD]
      rw [eb, if_neg hD, if_pos (by omega)]
  · have ha0 : 0 ≤ U * (szk k : Int) := Int.mul_nonneg (by omega) (by omega)
    have ea : abv U k = U * (szk k : Int) + (szk k : Int) - 1 := by unfold abv; rw [if_neg hU, e1]
    rw [ea, if_pos (show 0 ≤ U by omega)]
    have ha1 : 0 ≤ U * (szk k : Int) + (szk k : Int) - 1 := by omega
    generalize U * (szk k : Int) + (szk k : Int) - 1 = a at *
    by_cases hD : D < f.r
    · have eb : blw f.r D k = (D : Int) * (szk k : Int) := by unfold blw; rw [if_pos hD, e2]
      rw [eb]
      generalize (D : Int) * (szk k : Int) = b at *
      by_cases hab : a < b
      · rw [if_pos ⟨⟨by omega, hD⟩, hab⟩, if_neg (by omega), if_neg (by omega), if_neg (by omega), if_neg (by omega)]
      · rw [if_neg (by omega), if_neg (by omega), if_neg (by omega), if_neg (by omega), if_pos (by omega)]
    · have eb : blw f.r D k = -1 := by unfold blw; rw [if_neg hD]
      rw [eb, if_neg (by omega), if_neg (by omega), if_neg (by omega), if_pos (by omega)]
end Go.Proofs.Ytbldgpemocnboaa

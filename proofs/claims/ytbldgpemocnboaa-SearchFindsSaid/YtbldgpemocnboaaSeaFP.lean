/- Plain law of SearchFinds: the least of the tries. -/
import Derived.Test.YtbldgpemocnboaaSeaK
namespace Go.Proofs.Ytbldgpemocnboaa
open Go.RowKit Go.Sort

def Good (F : Int → Int → Int) (s : St) : Prop := s.ok = true ∧ s.n = F s.x s.y
theorem tryL_good {A : Int → Int → Bool} {F : Int → Int → Int} (hA : ∀ x y, A x y = true) : ∀ (L : List (Int × Int)) (s : St), Good F s → Good F (tryL A F s L) ∧ (tryL A F s L).n ≤ s.n ∧ ∀ v ∈ L, (tryL A F s L).n ≤ F v.1 v.2
  | [], s, h => ⟨h, Int.le_refl _, fun v hv => by cases hv⟩
  | v :: L, s, h => by
    have e : Good F (tryS A F s v) ∧ (tryS A F s v).n ≤ s.n ∧ (tryS A F s v).n ≤ F v.1 v.2 := by
      unfold tryS
      rw [if_pos (hA _ _)]
      by_cases hc : s.ok = false ∨ F v.1 v.2 < s.n
      · rw [if_pos hc]
        refine ⟨⟨rfl, rfl⟩, ?_, Int.le_refl _⟩
        rcases hc with hc | hc
        · rw [h.1] at hc; cases hc
        · exact Int.le_of_lt hc
      · rw [if_neg hc]
        refine ⟨h, Int.le_refl _, ?_⟩
        have : ¬ F v.1 v.2 < s.n := fun h => hc (Or.inr h)
        omega
    have ih := tryL_good hA L (tryS A F s v) e.1
    show Good F (tryL A F (tryS A F s v) L) ∧ (tryL A F (tryS A F s v) L).n ≤ s.n ∧ _
    refine ⟨ih.1, by have := ih.2.1; omega, fun u hu => ?_⟩
    rcases List.mem_cons.1 hu with rfl | hu
    · have := ih.2.1; have := e.2.2
      show (tryL A F (tryS A F s u) L).n ≤ _
      omega
    · exact ih.2.2 u hu
theorem finds_mem : ∀ i : Nat, i < 5 → ∀ j : Nat, j < 5 → (2 * ((i : Int) - 2), 2 * ((j : Int) - 2)) ∈ stepsTo 0 0 (2 * ((2 : Nat) : Int)) 2 (2 * 2 + 1) ((2 * 2 + 1) * (2 * 2 + 1)) := by decide +kernel
theorem finds_law {A : Int → Int → Bool} {F : Int → Int → Int} (hA : ∀ x y, A x y = true) {u v : Int} (hu : -2 ≤ u ∧ u ≤ 2) (hv : -2 ≤ v ∧ v ≤ 2) :
    Good F (who3 A F 2) ∧ (who3 A F 2).n ≤ F (2 * u) (2 * v) := by
  have g1 : Good F (who1 A F) := by
    show Good F (tryS A F ⟨0, 0, 0, false⟩ (0, 0))
    unfold tryS
    rw [if_pos (hA _ _), if_pos (Or.inl rfl)]
    exact ⟨rfl, rfl⟩
  have g2 := tryL_good hA (stepsTo 0 0 (2 * ((2 : Nat) : Int)) 2 (2 * 2 + 1) ((2 * 2 + 1) * (2 * 2 + 1))) _ g1
  have hm := finds_mem (u + 2).toNat (by omega) (v + 2).toNat (by omega)
  rw [show (((u + 2).toNat : Nat) : Int) - 2 = u by omega, show (((v + 2).toNat : Nat) : Int) - 2 = v by omega] at hm
  have h2 := g2.2.2 _ hm
  have e2 : who2 A F 2 = tryL A F (who1 A F) (stepsTo 0 0 (2 * ((2 : Nat) : Int)) 2 (2 * 2 + 1) ((2 * 2 + 1) * (2 * 2 + 1))) := rfl
  rw [← e2] at g2 h2
  unfold who3
  rw [if_pos g2.1.1]
  have g3 := tryL_good hA (stepsTo (who2 A F 2).x (who2 A F 2).y 1 1 3 (3 * 3)) _ g2.1
  exact ⟨g3.1, Int.le_trans g3.2.1 h2⟩
theorem who3_right {A : Int → Int → Bool} {F : Int → Int → Int} (far : Nat) : rightB (who3 A F far).x (who3 A F far).y = true := by
  obtain ⟨⟨h1, h2⟩, h3, h4⟩ := who3_b A F far
  unfold rightB
  exact decide_eq_true ⟨h1, h2, h3, h4⟩
end Go.Proofs.Ytbldgpemocnboaa

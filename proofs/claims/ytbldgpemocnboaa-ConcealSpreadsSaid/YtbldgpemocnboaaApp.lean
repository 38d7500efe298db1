/- append of a whole slice onto an empty one: a copy. -/
import Derived.Test.YtbldgpemocnboaaOb
import Derived.Deep.RegionLaw
import Derived.Deep.RegionLawGrows
namespace Go.Proofs.Ytbldgpemocnboaa
open Go.RowKit

section
variable {P : Program} {w : World} {ops : Array Oper} {rest : List Oper} {o : Oper} {a : Act} {Q : Exit → Act → World → Prop}

/-- append(empty, src..): src's elements, in a block of their own (or the empty slice's, if there are none). -/
theorem wpList_append_copy (hg : o.guard = none) (s x : Operand) (t : TypeId) (hop : o.op = Op.call { callee := Callee.builtin Builtin.append, args := #[s, x], argTypes := #[t, t] })
    (e : TypeId) (z : Value) (bytes : Nat) (h1 : P.underlying t = some (.slice e)) (h2 : (P.info? e).map (fun i => (i.zero, i.size, i.bytes)) = some (some z, 1, bytes)) (hz : z.cells = #[z])
    (g : Nat) (hs : a.eval s = .slice (some ⟨g, 0, none⟩) 0 0) (G : Nat → Value) (hG : VB w g e 0 G) (b m c : Nat) (f : Nat → Value) (hx : a.eval x = .slice (some ⟨b, 0, none⟩) m c) (hV : VB w b e m f) (h1c : ∀ k, k < m → (f k).oneCell' = true)
    (b1 : m ≤ maxLen) (b2 : m * bytes ≤ 140737488355328)
    (hK : ∀ g' cap w', (g' = g ∨ w.heap.size ≤ g') → VB w' g' e m f → Below w.heap.size w w' → wpList P ops Q rest (a.put o.dst (.slice (some ⟨g', 0, none⟩) m cap)) w') :
    wpList P ops Q (o :: rest) a w := by
  obtain ⟨i, hi, hi1, hi2, hi3⟩ := info_parts h2
  have hcell : ∀ j u, ((List.range m).map f)[j]? = some u → w.cell? ((⟨b, 0, none⟩ : Addr).add j) = some u := by
    intro j u hu
    have hj : j < m := by
      rcases Nat.lt_or_ge j m with h | h
      · exact h
      · rw [List.getElem?_eq_none (by simp; omega)] at hu; cases hu
    rw [List.getElem?_map, List.getElem?_range hj] at hu
    have : f j = u := by simpa using hu
    have h3 := hV.cell hj
    rw [this] at h3
    rw [Addr.add_lit, Nat.zero_add]; exact h3
  have hone : ∀ u ∈ (List.range m).map f, u.oneCell' = true := by
    intro u hu
    obtain ⟨j, hj, rfl⟩ := List.mem_map.1 hu
    exact h1c j (List.mem_range.1 hj)
  refine wpList_step fun K hK' => ?_
  by_cases hm : m = 0
  · subst hm
    refine step_append_room hg s x t hop e i 1 h1 hi hi2 g 0 0 0 hs ⟨b, 0, none⟩ 0 c [] hx rfl (fun j u hu => by simp at hu) (fun u hu => by simp at hu) (by omega) (fun j hj => by simp at hj) ?_
    exact hK' _ _ (hK g 0 w (Or.inl rfl) (hG.congr (fun k hk => by omega)) (Below.refl _ _))
  · refine step_append_grows hg s x t hop e i z 1 bytes h1 hi hi1 hi2 hi3 (by rw [hz]; rfl) (by omega) (some ⟨g, 0, none⟩) 0 0 [] hs (fun h => by cases h) rfl (fun _ _ j u hu => by simp at hu)
      ⟨b, 0, none⟩ m c ((List.range m).map f) hx (by simp) hcell hone (by omega) (by omega) (by simpa using b2) (fun v' w' hown hgr => ?_)
    simp only [Nat.zero_add, List.nil_append] at hown
    have hsh : ∃ g' cap, v' = .slice (some ⟨g', 0, none⟩) m cap ∧ w.heap.size ≤ g' := by
      rcases hown.2 with ⟨_, h⟩ | ⟨g', cap', cur, hv, hg', _⟩
      · omega
      · exact ⟨g', cap', hv, hg'⟩
    obtain ⟨g', cap, rfl, hg'⟩ := hsh
    have := hK' _ _ (hK g' cap w' (Or.inr hg') (VB.of_owns hown (fun k hk => by rw [List.getElem?_map, List.getElem?_range hk]; rfl)).1 (below_grown hgr))
    simpa using this
end
end Go.Proofs.Ytbldgpemocnboaa

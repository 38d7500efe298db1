/- Opening a slice of bools that came in. -/
import Derived.Test.YtbldgpemocnboaaPost
import Derived.Test.YtbldgpemocnboaaDm
import Derived.Deep.Grids
namespace Go.Proofs.Ytbldgpemocnboaa
open Go.ChangeShapes Go.WideShapes Go.ChangeAt Go.RowKit
set_option linter.unusedVariables false
section
variable {H : Type} {P : Program} {enc : TypeId × Value → H}
theorem open_slb {w : World} {base : Nat} {held : Bool} {T E : TypeId} {v : Value} {d : DataW H} {p : List MemPlace}
    (hT : P.underlying T = some (.slice E)) (hE : P.underlying E = some .bool) (hc : P.cellsOf E = 1) {r : Reach} {b0 : Nat} (hv : Value.okWide P w r b0 T v) (h : DataW.Trod enc P w base (fun _ => true) held T v d p) :
    ∃ (a : Option Addr) (n c : Nat) (f : Nat → Bool), v = .slice a n c ∧ n ≤ maxLen ∧ SL w a n (blv f) := by
  obtain ⟨fuel, hf⟩ := h
  have one : ∀ (a : Option Addr) (n c : Nat), v.cells.toList = [.slice a n c] → v = .slice a n c := by
    intro a n c hvc
    obtain ⟨a', n', c', rfl⟩ := okWide_slice hT hv
    simp only [Value.cells, List.cons.injEq, and_true] at hvc
    exact hvc
  rcases Go.Deep.open_bools hT hE hc hf with ⟨h1, _⟩ | ⟨a, len, cap, B, h1, _, h2, h3, _, h5⟩
  · exact ⟨none, 0, 0, fun _ => false, one _ _ _ h1, by omega, Or.inl rfl⟩
  · exact ⟨some a, len, cap, B, one _ _ _ h1, by omega, sl_of_cells (fun i hi => h5 i (by omega))⟩
end
end Go.Proofs.Ytbldgpemocnboaa

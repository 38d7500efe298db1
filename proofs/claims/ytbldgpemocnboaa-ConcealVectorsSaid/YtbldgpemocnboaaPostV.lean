/- Opening a slice of kinescopelaw14.Ways that came in. -/
import Derived.Test.YtbldgpemocnboaaPostW
import Derived.Test.YtbldgpemocnboaaConVecW
import Derived.Deep.Grids
namespace Go.Proofs.Ytbldgpemocnboaa
open Go.ChangeShapes Go.WideShapes Go.ChangeAt Go.RowKit
set_option linter.unusedVariables false
section
variable {H : Type} {P : Program} {enc : TypeId × Value → H}
theorem open_slwG {w : World} {base : Nat} {spare : Nat → Bool} {held : Bool} {T T2 E : TypeId} {f0 f1 f2 : Field} {v : Value} {d : DataW H} {p : List MemPlace}
    (hS : P.underlying T = some (.slice T2)) (hT : P.underlying T2 = some (.struct #[f0, f1, f2])) (h0 : P.underlying f0.type = some (.array 4 E)) (h1 : P.underlying f1.type = some (.array 4 E)) (h2 : P.underlying f2.type = some .bool) (hE : P.underlying E = some (.int .i8))
    (c0 : P.cellsOf f0.type = 4) (c1 : P.cellsOf f1.type = 4) (c2 : P.cellsOf f2.type = 1) (cE : P.cellsOf E = 1) (cT : P.cellsOf T2 = 9) (o0 : f0.offset = 0) (o1 : f1.offset = 4) (o2 : f2.offset = 8)
    {r : Reach} {b0 : Nat} (hv : Value.okWide P w r b0 T v) (h : DataW.Trod enc P w base spare held T v d p) :
    ∃ (a : Option Addr) (n c : Nat) (X Y : Nat → Nat → Int) (S : Nat → Bool), v = .slice a n c ∧ n ≤ maxLen ∧ SL w a (n * 9) (swC X Y S) ∧ ∀ i, i < n → (∀ j, j < 4 → (Lit.int .i8 (X i j)).wf = true) ∧ ∀ j, j < 4 → (Lit.int .i8 (Y i j)).wf = true := by
  obtain ⟨fuel, hf⟩ := h
  have one : ∀ (a : Option Addr) (n c : Nat), v.cells.toList = [.slice a n c] → v = .slice a n c := by
    intro a n c hvc
    obtain ⟨a', n', c', rfl⟩ := okWide_slice hS hv
    simp only [Value.cells, List.cons.injEq, and_true] at hvc
    exact hvc
  rcases DataW.trod_slice hS hf with ⟨k1, _⟩ | ⟨a, len, cap, elems, rest, n, _, k1, _, _, k2, k3, k4, k5, _⟩
  · exact ⟨none, 0, 0, fun _ _ => 0, fun _ _ => 0, fun _ => false, one _ _ _ k1, by omega, Or.inl rfl, fun i hi => by omega⟩
  · obtain ⟨F, hF⟩ := Go.Deep.choose_lt (α := (Nat → Int) × (Nat → Int) × Bool) (n := len) (p := fun i F => (∀ j, j < 9 → w.cell? ((a.add (i * 9)).add j) = some (wyC F.1 F.2.1 F.2.2 j)) ∧ (∀ j, j < 4 → (Lit.int .i8 (F.1 j)).wf = true) ∧ ∀ j, j < 4 → (Lit.int .i8 (F.2.1 j)).wf = true) (fun i hi => by
      have e := k5 i hi
      rw [List.getElem?_eq_getElem (by omega), cT] at e
      obtain ⟨cs, hc, ht⟩ := Option.bind_eq_some_iff.1 e
      obtain ⟨_, hl, hat⟩ := World.cells?_some hc
      obtain ⟨X, Y, t, e1, e2, e3⟩ := ways_cells (cs := cs.toArray) hT h0 h1 h2 hE c0 c1 c2 cE o0 o1 o2 (by simp [hl]) (by simpa using ht)
      refine ⟨(X, Y, t), fun j hj => ?_, e2, e3⟩
      rw [hat j hj]
      have : cs[j]? = cs.toArray[j]? := by simp
      rw [this, e1, fcells_get hj])
    refine ⟨some a, len, cap, fun i => (F i).1, fun i => (F i).2.1, fun i => (F i).2.2, one _ _ _ k1, by omega, sl_of_cells (fun k hk => ?_), fun i hi => ⟨(hF i hi).2.1, (hF i hi).2.2⟩⟩
    have e := (hF (k / 9) (by omega)).1 (k % 9) (by omega)
    rw [Go.Deep.add_add, show k / 9 * 9 + k % 9 = k by omega] at e
    rw [e]; rfl
end
set_option maxRecDepth 100000 in
theorem open_slw {H : Type} {enc : TypeId × Value → H} {w : World} {base b0 : Nat} {spare : Nat → Bool} {held : Bool} {r : Reach} {v : Value} {d : DataW H} {p : List MemPlace}
    (hv : Value.okWide Try.prog w r b0 56 v) (h : DataW.Trod enc Try.prog w base spare held 56 v d p) :
    ∃ (a : Option Addr) (n c : Nat) (X Y : Nat → Nat → Int) (S : Nat → Bool), v = .slice a n c ∧ n ≤ maxLen ∧ SL w a (n * 9) (swC X Y S) ∧ ∀ i, i < n → (∀ j, j < 4 → (Lit.int .i8 (X i j)).wf = true) ∧ ∀ j, j < 4 → (Lit.int .i8 (Y i j)).wf = true :=
  open_slwG (P := Try.prog) (T := 56) (T2 := WYT) (E := 39) (by kernel_rfl) Try.underlying66 (by kernel_rfl) (by kernel_rfl) (by kernel_rfl) (by kernel_rfl) (by kernel_rfl) (by kernel_rfl) (by kernel_rfl) (by kernel_rfl) (by kernel_rfl) rfl rfl rfl hv h
end Go.Proofs.Ytbldgpemocnboaa

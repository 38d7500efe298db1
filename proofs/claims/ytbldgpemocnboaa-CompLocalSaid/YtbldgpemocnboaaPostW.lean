/- Opening a kinescopelaw14.Ways that came in, by value. -/
import Derived.Test.YtbldgpemocnboaaPost
import Derived.Test.YtbldgpemocnboaaWay
namespace Go.Proofs.Ytbldgpemocnboaa
open Go.RowKit Go.WideShapes Go.ChangeShapes
section
variable {H : Type} {enc : TypeId × Value → H} {P : Program}
/-- n ints somewhere in a row of cells. -/
theorem trod_intsW {w : World} {base fuel : Nat} {spare : Nat → Bool} {held : Bool} {T E : TypeId} {n off : Nat} {k : IntKind} {cs : Array Value} {x : DataW H × List MemPlace}
    (hT : P.underlying T = some (.array n E)) (hE : P.underlying E = some (.int k)) (hc : P.cellsOf E = 1)
    (h : DataW.trod enc P w base spare held fuel T ((cs.toList.drop off).take n) = some x) : ∀ i, i < n → ∃ q, cs[off + i]? = some (.int k q) ∧ (Lit.int k q).wf = true := by
  obtain ⟨xs, m, _, _, _, hxs, hall⟩ := DataW.trod_array hT h
  intro i hi
  have h1 := hall i hi
  rw [hc, Nat.mul_one, List.getElem?_eq_getElem (by omega)] at h1
  obtain ⟨q, hq, _, hw⟩ := DataW.trod_int hE h1
  refine ⟨q, ?_, hw⟩
  have h2 : (List.take 1 (List.drop i (List.take n (List.drop off cs.toList))))[0]? = some (Value.int k q) := by rw [hq]; rfl
  rw [List.getElem?_take_of_lt (by omega), List.getElem?_drop, List.getElem?_take_of_lt (by omega), List.getElem?_drop] at h2
  simpa using h2
/-- The cells of four vectors of small numbers, somewhere in a row of cells. -/
theorem ways_cells {w : World} {base fuel : Nat} {spare : Nat → Bool} {held : Bool} {T E : TypeId} {f0 f1 f2 : Field} {cs : Array Value} {x : DataW H × List MemPlace}
    (hT : P.underlying T = some (.struct #[f0, f1, f2])) (h0 : P.underlying f0.type = some (.array 4 E)) (h1 : P.underlying f1.type = some (.array 4 E)) (h2 : P.underlying f2.type = some .bool) (hE : P.underlying E = some (.int .i8))
    (c0 : P.cellsOf f0.type = 4) (c1 : P.cellsOf f1.type = 4) (c2 : P.cellsOf f2.type = 1) (cE : P.cellsOf E = 1) (o0 : f0.offset = 0) (o1 : f1.offset = 4) (o2 : f2.offset = 8) (hsz : cs.size = 9)
    (hf : DataW.trod enc P w base spare held fuel T cs.toList = some x) :
    ∃ (X Y : Nat → Int) (t : Bool), cs = fcells 9 (wyC X Y t) ∧ (∀ j, j < 4 → (Lit.int .i8 (X j)).wf = true) ∧ (∀ j, j < 4 → (Lit.int .i8 (Y j)).wf = true) := by
  obtain ⟨xs, n, _, _, _, hlen, hall⟩ := DataW.trod_struct hT hf
  have hlen : xs.length = 3 := by simpa using hlen
  have g0 := hall 0 f0 rfl
  have g1 := hall 1 f1 rfl
  have g2 := hall 2 f2 rfl
  rw [List.getElem?_eq_getElem (by omega)] at g0 g1 g2
  rw [c0, o0] at g0
  rw [c1, o1] at g1
  rw [c2, o2] at g2
  obtain ⟨t, ht, _⟩ := DataW.trod_bool h2 g2
  have k8 : cs[8]? = some (.bool t) := by
    have h3 : (List.take 1 (List.drop 8 cs.toList))[0]? = some (Value.bool t) := by rw [ht]; rfl
    rw [List.getElem?_take_of_lt (by omega), List.getElem?_drop] at h3
    simpa using h3
  have k0 := trod_intsW h0 hE cE g0
  have k1 := trod_intsW h1 hE cE g1
  refine ⟨fun j => intOf (cs.getD j undef), fun j => intOf (cs.getD (4 + j) undef), t, ?_, ?_, ?_⟩
  · refine (fcells_of cs).trans ?_
    rw [hsz]
    refine fcells_congr fun j hj => ?_
    unfold wyC
    by_cases e0 : j < 4
    · rw [if_pos e0]
      obtain ⟨q, hq, _⟩ := k0 j e0
      rw [Nat.zero_add] at hq
      simp [hq, intOf]
    · by_cases e1 : j < 8
      · rw [if_neg e0, if_pos e1]
        obtain ⟨q, hq, _⟩ := k1 (j - 4) (by omega)
        have e : 4 + (j - 4) = j := by omega
        rw [e] at hq
        simp [hq, intOf, e]
      · rw [if_neg e0, if_neg e1]
        obtain rfl : j = 8 := by omega
        simp [k8]
  · intro j hj
    obtain ⟨q, hq, hw⟩ := k0 j hj
    rw [Nat.zero_add] at hq
    simpa [hq, intOf] using hw
  · intro j hj
    obtain ⟨q, hq, hw⟩ := k1 j hj
    simpa [hq, intOf] using hw
theorem open_waysG {w : World} {base b0 : Nat} {spare : Nat → Bool} {held : Bool} {r : Reach} {T E : TypeId} {f0 f1 f2 : Field} {v : Value} {d : DataW H} {p : List MemPlace}
    (hT : P.underlying T = some (.struct #[f0, f1, f2])) (h0 : P.underlying f0.type = some (.array 4 E)) (h1 : P.underlying f1.type = some (.array 4 E)) (h2 : P.underlying f2.type = some .bool) (hE : P.underlying E = some (.int .i8))
    (c0 : P.cellsOf f0.type = 4) (c1 : P.cellsOf f1.type = 4) (c2 : P.cellsOf f2.type = 1) (cE : P.cellsOf E = 1) (cT : P.cellsOf T = 9) (o0 : f0.offset = 0) (o1 : f1.offset = 4) (o2 : f2.offset = 8)
    (hv : Value.okWide P w r b0 T v) (h : DataW.Trod enc P w base spare held T v d p) :
    ∃ (X Y : Nat → Int) (t : Bool), v = .agg (fcells 9 (wyC X Y t)) ∧ (∀ j, j < 4 → (Lit.int .i8 (X j)).wf = true) ∧ (∀ j, j < 4 → (Lit.int .i8 (Y j)).wf = true) := by
  obtain ⟨cs, rfl, hsz⟩ := okWide_struct hT hv
  rw [cT] at hsz
  obtain ⟨fuel, hf⟩ := h
  have hf' : DataW.trod enc P w base spare held fuel T cs.toList = some (d, p) := hf
  obtain ⟨X, Y, t, e, h3, h4⟩ := ways_cells hT h0 h1 h2 hE c0 c1 c2 cE o0 o1 o2 hsz hf'
  exact ⟨X, Y, t, by rw [e], h3, h4⟩
end
set_option maxRecDepth 100000 in
theorem open_ways {H : Type} {enc : TypeId × Value → H} {w : World} {base b0 : Nat} {spare : Nat → Bool} {held : Bool} {r : Reach} {v : Value} {d : DataW H} {p : List MemPlace}
    (hv : Value.okWide Try.prog w r b0 WYT v) (h : DataW.Trod enc Try.prog w base spare held WYT v d p) :
    ∃ (X Y : Nat → Int) (t : Bool), v = .agg (fcells 9 (wyC X Y t)) ∧ (∀ j, j < 4 → (Lit.int .i8 (X j)).wf = true) ∧ (∀ j, j < 4 → (Lit.int .i8 (Y j)).wf = true) :=
  open_waysG (P := Try.prog) (T := WYT) (E := 39) Try.underlying66 (by kernel_rfl) (by kernel_rfl) (by kernel_rfl) (by kernel_rfl) (by kernel_rfl) (by kernel_rfl) (by kernel_rfl) (by kernel_rfl) (by kernel_rfl) rfl rfl rfl hv h
end Go.Proofs.Ytbldgpemocnboaa

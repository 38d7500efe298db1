/- A quant.Table that came in, by value, opened. -/
import Derived.Test.YtbldgpemocnboaaPost
import Derived.Test.YtbldgpemocnboaaTab
namespace Go.Proofs.Ytbldgpemocnboaa
open Go.RowKit Go.WideShapes Go.ChangeShapes
section
variable {H : Type} {enc : TypeId × Value → H} {P : Program}
/-- 64 ints somewhere in a row of cells. -/
theorem trod_ints {w : World} {base fuel : Nat} {spare : Nat → Bool} {held : Bool} {T E : TypeId} {n off : Nat} {k : IntKind} {cs : Array Value} {x : DataW H × List MemPlace}
    (hT : P.underlying T = some (.array n E)) (hE : P.underlying E = some (.int k)) (hc : P.cellsOf E = 1) (hcT : P.cellsOf T = n)
    (h : DataW.trod enc P w base spare held fuel T ((cs.toList.drop off).take n) = some x) : ∀ i, i < n → ∃ q, cs[off + i]? = some (.int k q) ∧ (Lit.int k q).wf = true := by
  obtain ⟨xs, m, _, _, _, hxs, hall⟩ := DataW.trod_array hT h
  intro i hi
  have h1 := hall i hi
  rw [hc, Nat.mul_one, List.getElem?_eq_getElem (by omega)] at h1
  obtain ⟨q, hq, _, hw⟩ := DataW.trod_int hE h1
  refine ⟨q, ?_, hw⟩
  have h2 : (List.take 1 (List.drop i (List.take n (List.drop off cs.toList))))[0]? = some (Value.int k q) := by rw [hq]; rfl
  rw [List.getElem?_take_of_lt (by omega), List.getElem?_drop, List.getElem?_take_of_lt (by omega), List.getElem?_drop] at h2
  simpa using h2

theorem open_tab {w : World} {base b0 : Nat} {spare : Nat → Bool} {held : Bool} {r : Reach} {T E : TypeId} {f0 f1 f2 : Field} {v : Value} {d : DataW H} {p : List MemPlace}
    (hT : P.underlying T = some (.struct #[f0, f1, f2])) (hB : P.underlying f0.type = some .bool) (h1 : P.underlying f1.type = some (.array 64 E)) (h2 : P.underlying f2.type = some (.array 64 E)) (hE : P.underlying E = some (.int .u8))
    (c0 : P.cellsOf f0.type = 1) (c1 : P.cellsOf f1.type = 64) (c2 : P.cellsOf f2.type = 64) (cE : P.cellsOf E = 1) (cT : P.cellsOf T = 129) (o0 : f0.offset = 0) (o1 : f1.offset = 1) (o2 : f2.offset = 65)
    (hv : Value.okWide P w r b0 T v) (h : DataW.Trod enc P w base spare held T v d p) :
    ∃ (t : Bool) (ia ir : Nat → Int), v = .agg (fcells 129 (tabV t ia ir)) ∧ (∀ j, j < 64 → (Lit.int .u8 (ia j)).wf = true) ∧ (∀ j, j < 64 → (Lit.int .u8 (ir j)).wf = true) := by
  obtain ⟨cs, rfl, hsz⟩ := okWide_struct hT hv
  rw [cT] at hsz
  obtain ⟨fuel, hf⟩ := h
  have hf' : DataW.trod enc P w base spare held fuel T cs.toList = some (d, p) := hf
  obtain ⟨xs, n, _, _, _, hlen, hall⟩ := DataW.trod_struct hT hf'
  have hlen : xs.length = 3 := by simpa using hlen
  have g0 := hall 0 f0 rfl
  have g1 := hall 1 f1 rfl
  have g2 := hall 2 f2 rfl
  rw [List.getElem?_eq_getElem (by omega)] at g0 g1 g2
  rw [c0, o0] at g0
  rw [c1, o1] at g1
  rw [c2, o2] at g2
  obtain ⟨t, ht, _⟩ := DataW.trod_bool hB g0
  have k0 : cs[0]? = some (.bool t) := by
    have h3 : (List.take 1 (List.drop 0 cs.toList))[0]? = some (Value.bool t) := by rw [ht]; rfl
    rw [List.getElem?_take_of_lt (by omega), List.getElem?_drop] at h3
    simpa using h3
  have k1 := trod_ints h1 hE cE c1 g1
  have k2 := trod_ints h2 hE cE c2 g2
  refine ⟨t, fun j => intOf (cs.getD (1 + j) undef), fun j => intOf (cs.getD (65 + j) undef), ?_, ?_, ?_⟩
  · congr 1
    refine (fcells_of cs).trans ?_
    rw [hsz]
    refine fcells_congr fun j hj => ?_
    unfold tabV
    by_cases e0 : j = 0
    · subst e0; rw [if_pos rfl]; simp [k0]
    · by_cases e1 : j < 65
      · rw [if_neg e0, if_pos e1]
        obtain ⟨q, hq, _⟩ := k1 (j - 1) (by omega)
        have e : 1 + (j - 1) = j := by omega
        rw [e] at hq
        simp [hq, intOf, e]
      · rw [if_neg e0, if_neg e1]
        obtain ⟨q, hq, _⟩ := k2 (j - 65) (by omega)
        have e : 65 + (j - 65) = j := by omega
        rw [e] at hq
        simp [hq, intOf, e]
  · intro j hj
    obtain ⟨q, hq, hw⟩ := k1 j hj
    simpa [hq, intOf] using hw
  · intro j hj
    obtain ⟨q, hq, hw⟩ := k2 j hj
    simpa [hq, intOf] using hw
end
set_option maxRecDepth 1000000 in
theorem open_table {H : Type} {enc : TypeId × Value → H} {w : World} {base b0 : Nat} {spare : Nat → Bool} {held : Bool} {r : Reach} {v : Value} {d : DataW H} {p : List MemPlace}
    (hv : Value.okWide Try.prog w r b0 TAB v) (h : DataW.Trod enc Try.prog w base spare held TAB v d p) :
    ∃ (t : Bool) (ia ir : Nat → Int), v = .agg (fcells 129 (tabV t ia ir)) ∧ (∀ j, j < 64 → (Lit.int .u8 (ia j)).wf = true) ∧ (∀ j, j < 64 → (Lit.int .u8 (ir j)).wf = true) :=
  open_tab (E := 5) Try.underlying24 (by kernel_rfl) (by kernel_rfl) (by kernel_rfl) (by kernel_rfl) (by kernel_rfl) (by kernel_rfl) (by kernel_rfl) (by kernel_rfl) (by kernel_rfl) rfl rfl rfl hv h
end Go.Proofs.Ytbldgpemocnboaa

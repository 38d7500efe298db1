/- Opening a kinescopelaw06.Small that came in, by value. -/
import Derived.Test.YtbldgpemocnboaaPost
import Derived.Test.YtbldgpemocnboaaSm
import Derived.Deep.Grids
namespace Go.Proofs.Ytbldgpemocnboaa
open Go.RowKit Go.WideShapes Go.ChangeShapes
section
variable {H : Type} {enc : TypeId × Value → H} {P : Program}
/-- One int field of a struct's cells. -/
theorem trod_int1 {w : World} {base fuel : Nat} {spare : Nat → Bool} {held : Bool} {T : TypeId} {k : IntKind} {cs : Array Value} {i c o : Nat} {x : DataW H × List MemPlace}
    (hE : P.underlying T = some (.int k)) (hc : c = 1) (ho : o = i) (h : DataW.trod enc P w base spare held fuel T ((cs.toList.drop o).take c) = some x) : ∃ q, cs[i]? = some (.int k q) ∧ (Lit.int k q).wf = true := by
  subst hc ho
  obtain ⟨q, hq, _, hw⟩ := DataW.trod_int hE h
  refine ⟨q, ?_, hw⟩
  have h2 : (List.take 1 (List.drop o cs.toList))[0]? = some (Value.int k q) := by rw [hq]; rfl
  rw [List.getElem?_take_of_lt (by omega), List.getElem?_drop] at h2
  simpa using h2

theorem open_smallG {w : World} {base b0 : Nat} {spare : Nat → Bool} {held : Bool} {r : Reach} {T E : TypeId} {f0 f1 f2 f3 f4 f5 f6 f7 : Field} {v : Value} {d : DataW H} {p : List MemPlace}
    (hT : P.underlying T = some (.struct #[f0, f1, f2, f3, f4, f5, f6, f7])) (h0 : P.underlying f0.type = some (.int .u8)) (h1 : P.underlying f1.type = some (.int .u8)) (h2 : P.underlying f2.type = some (.int .u8)) (h3 : P.underlying f3.type = some (.int .u8)) (h4 : P.underlying f4.type = some (.int .u8)) (h5 : P.underlying f5.type = some (.int .u8)) (h6 : P.underlying f6.type = some (.int .u32)) (h7 : P.underlying f7.type = some (.slice E)) (hE : P.underlying E = some (.int .u8))
    (c0 : P.cellsOf f0.type = 1) (c1 : P.cellsOf f1.type = 1) (c2 : P.cellsOf f2.type = 1) (c3 : P.cellsOf f3.type = 1) (c4 : P.cellsOf f4.type = 1) (c5 : P.cellsOf f5.type = 1) (c6 : P.cellsOf f6.type = 1) (c7 : P.cellsOf f7.type = 1) (cE : P.cellsOf E = 1) (cT : P.cellsOf T = 8)
    (o0 : f0.offset = 0) (o1 : f1.offset = 1) (o2 : f2.offset = 2) (o3 : f3.offset = 3) (o4 : f4.offset = 4) (o5 : f5.offset = 5) (o6 : f6.offset = 6) (o7 : f7.offset = 7)
    (hv : Value.okWide P w r b0 T v) (h : DataW.Trod enc P w base spare held T v d p) :
    ∃ (x0 x1 x2 x3 x4 x5 x6 : Int) (a : Option Addr) (n c : Nat) (f : Nat → Int), v = smV x0 x1 x2 x3 x4 x5 x6 a n c ∧ ((Lit.int .u8 x0).wf = true ∧ (Lit.int .u8 x1).wf = true ∧ (Lit.int .u8 x2).wf = true ∧ (Lit.int .u8 x3).wf = true ∧ (Lit.int .u8 x4).wf = true ∧ (Lit.int .u8 x5).wf = true ∧ (Lit.int .u32 x6).wf = true) ∧
      n ≤ maxLen ∧ SL w a n (u8v f) ∧ ∀ j, j < n → (Lit.int .u8 (f j)).wf = true := by
  obtain ⟨cs, rfl, hsz⟩ := okWide_struct hT hv
  rw [cT] at hsz
  obtain ⟨fuel, hf⟩ := h
  have hf' : DataW.trod enc P w base spare held fuel T cs.toList = some (d, p) := hf
  obtain ⟨xs, n, _, _, _, hlen, hall⟩ := DataW.trod_struct hT hf'
  have hlen : xs.length = 8 := by simpa using hlen
  have g0 := hall 0 f0 rfl
  have g1 := hall 1 f1 rfl
  have g2 := hall 2 f2 rfl
  have g3 := hall 3 f3 rfl
  have g4 := hall 4 f4 rfl
  have g5 := hall 5 f5 rfl
  have g6 := hall 6 f6 rfl
  have g7 := hall 7 f7 rfl
  rw [List.getElem?_eq_getElem (by omega)] at g0 g1 g2 g3 g4 g5 g6 g7
  obtain ⟨x0, e0, w0⟩ := trod_int1 h0 c0 o0 g0
  obtain ⟨x1, e1, w1⟩ := trod_int1 h1 c1 o1 g1
  obtain ⟨x2, e2, w2⟩ := trod_int1 h2 c2 o2 g2
  obtain ⟨x3, e3, w3⟩ := trod_int1 h3 c3 o3 g3
  obtain ⟨x4, e4, w4⟩ := trod_int1 h4 c4 o4 g4
  obtain ⟨x5, e5, w5⟩ := trod_int1 h5 c5 o5 g5
  obtain ⟨x6, e6, w6⟩ := trod_int1 h6 c6 o6 g6
  rw [c7, o7] at g7
  have fin : ∀ (a : Option Addr) (n c : Nat) (f : Nat → Int), (List.take 1 (List.drop 7 cs.toList)) = [.slice a n c] → n ≤ maxLen → SL w a n (u8v f) → (∀ j, j < n → (Lit.int .u8 (f j)).wf = true) →
      ∃ (x0 x1 x2 x3 x4 x5 x6 : Int) (a : Option Addr) (n c : Nat) (f : Nat → Int), Value.agg cs = smV x0 x1 x2 x3 x4 x5 x6 a n c ∧ ((Lit.int .u8 x0).wf = true ∧ (Lit.int .u8 x1).wf = true ∧ (Lit.int .u8 x2).wf = true ∧ (Lit.int .u8 x3).wf = true ∧ (Lit.int .u8 x4).wf = true ∧ (Lit.int .u8 x5).wf = true ∧ (Lit.int .u32 x6).wf = true) ∧
        n ≤ maxLen ∧ SL w a n (u8v f) ∧ ∀ j, j < n → (Lit.int .u8 (f j)).wf = true := by
    intro a n c f hc hn hs hw
    refine ⟨x0, x1, x2, x3, x4, x5, x6, a, n, c, f, ?_, ⟨w0, w1, w2, w3, w4, w5, w6⟩, hn, hs, hw⟩
    have e7 : cs[7]? = some (.slice a n c) := by
      have h2 : (List.take 1 (List.drop 7 cs.toList))[0]? = some (Value.slice a n c) := by rw [hc]; rfl
      rw [List.getElem?_take_of_lt (by omega), List.getElem?_drop] at h2
      simpa using h2
    unfold smV smC
    congr 1
    apply Array.ext (by rw [hsz]; rfl)
    intro i hi hi2
    apply Option.some.inj
    rw [← Array.getElem?_eq_getElem hi, ← Array.getElem?_eq_getElem hi2]
    have hi8 : i < 8 := by omega
    match i, hi8 with
    | 0, _ => exact e0
    | 1, _ => exact e1
    | 2, _ => exact e2
    | 3, _ => exact e3
    | 4, _ => exact e4
    | 5, _ => exact e5
    | 6, _ => exact e6
    | 7, _ => exact e7
  rcases open_ints h7 hE cE g7 with ⟨k1, _⟩ | ⟨a, len, cap, zs, k1, _, k2, k3, k4, _, k5, k6⟩
  · exact fin none 0 0 (fun _ => 0) k1 (by omega) (Or.inl rfl) (fun j hj => by omega)
  · have hz : len ≤ zs.length := by rw [k4]; split <;> omega
    refine fin (some a) len cap (fun j => zs.getD j 0) k1 (by omega) (sl_of_cells (fun i hi => k5 i (by omega))) (fun j hj => k6 (zs.getD j 0) ?_)
    rw [List.getD_eq_getElem?_getD, List.getElem?_eq_getElem (by omega)]
    simp
end
set_option maxRecDepth 100000 in
theorem open_small {H : Type} {enc : TypeId × Value → H} {w : World} {base b0 : Nat} {spare : Nat → Bool} {held : Bool} {r : Reach} {v : Value} {d : DataW H} {p : List MemPlace}
    (hv : Value.okWide Try.prog w r b0 SMT v) (h : DataW.Trod enc Try.prog w base spare held SMT v d p) :
    ∃ (x0 x1 x2 x3 x4 x5 x6 : Int) (a : Option Addr) (n c : Nat) (f : Nat → Int), v = smV x0 x1 x2 x3 x4 x5 x6 a n c ∧ ((Lit.int .u8 x0).wf = true ∧ (Lit.int .u8 x1).wf = true ∧ (Lit.int .u8 x2).wf = true ∧ (Lit.int .u8 x3).wf = true ∧ (Lit.int .u8 x4).wf = true ∧ (Lit.int .u8 x5).wf = true ∧ (Lit.int .u32 x6).wf = true) ∧
      n ≤ maxLen ∧ SL w a n (u8v f) ∧ ∀ j, j < n → (Lit.int .u8 (f j)).wf = true :=
  open_smallG (E := 5) Try.underlying38 (by kernel_rfl) (by kernel_rfl) (by kernel_rfl) (by kernel_rfl) (by kernel_rfl) (by kernel_rfl) (by kernel_rfl) (by kernel_rfl) (by kernel_rfl) (by kernel_rfl) (by kernel_rfl) (by kernel_rfl) (by kernel_rfl) (by kernel_rfl) (by kernel_rfl) (by kernel_rfl) (by kernel_rfl) (by kernel_rfl) (by kernel_rfl) rfl rfl rfl rfl rfl rfl rfl rfl hv h
set_option maxRecDepth 100000 in
theorem open_smallW {H : Type} {enc : TypeId × Value → H} {w : World} {base b0 : Nat} {spare : Nat → Bool} {held : Bool} {r : Reach} {v : Value} {d : DataW H} {p : List MemPlace}
    (hv : Value.okWide Try.prog w r b0 SMT v) (h : DataW.Trod enc Try.prog w base spare held SMT v d p) :
    ∃ (x0 x1 x2 x3 x4 x5 x6 : Int) (a : Option Addr) (n c : Nat) (f : Nat → Int), v = smV x0 x1 x2 x3 x4 x5 x6 a n c ∧ SmallW x0 x1 x2 x3 x4 x5 x6 n f ∧ n ≤ maxLen ∧ SL w a n (u8v f) := by
  obtain ⟨x0, x1, x2, x3, x4, x5, x6, a, n, c, f, rfl, ⟨w0, w1, w2, w3, w4, w5, w6⟩, hn, hs, hw⟩ := open_small hv h
  exact ⟨x0, x1, x2, x3, x4, x5, x6, a, n, c, f, rfl, ⟨wf_u8_bd w0, wf_u8_bd w1, wf_u8_bd w2, wf_u8_bd w3, wf_u8_bd w4, wf_u8_bd w5, by have := wf_u32_bd w6; omega, fun k hk => wf_u8_bd (hw k hk)⟩, hn, hs⟩
end Go.Proofs.Ytbldgpemocnboaa

/- Opening a kinescopelaw19.Small that came in, by value. -/
import Derived.Test.YtbldgpemocnboaaPostW
import Derived.Test.YtbldgpemocnboaaSmMac
namespace Go.Proofs.Ytbldgpemocnboaa
open Go.RowKit Go.WideShapes Go.ChangeShapes
theorem wf_u64_bd {a : Int} (h : (Lit.int .u64 a).wf = true) : 0 ≤ a ∧ a ≤ 18446744073709551615 := by
  simpa [Lit.wf, IntKind.min, IntKind.max, IntKind.signed, IntKind.bits] using h

section
variable {H : Type} {enc : TypeId × Value → H} {P : Program}
theorem at_one {l : List Value} {off : Nat} {v : Value} (h : List.take 1 (List.drop off l) = [v]) : l[off]? = some v := by
  have h3 : (List.take 1 (List.drop off l))[0]? = some v := by rw [h]; rfl
  rw [List.getElem?_take_of_lt (by omega), List.getElem?_drop] at h3
  simpa using h3
theorem s19_cells {w : World} {base fuel : Nat} {spare : Nat → Bool} {held : Bool} {T E8 E64 : TypeId} {f0 f1 f2 f3 f4 f5 f6 g0 g1 g2 : Field} {cs : Array Value} {x : DataW H × List MemPlace}
    (hT : P.underlying T = some (.struct #[f0, f1, f2, f3, f4, f5, f6])) (h0 : P.underlying f0.type = some (.int .u8)) (h1 : P.underlying f1.type = some (.int .u8)) (h2 : P.underlying f2.type = some (.struct #[g0, g1, g2])) (h3 : P.underlying f3.type = some .bool)
    (h4 : P.underlying f4.type = some (.array 6 E64)) (h5 : P.underlying f5.type = some (.int .u32)) (h6 : P.underlying f6.type = some .bool) (hE64 : P.underlying E64 = some (.int .u64)) (cE64 : P.cellsOf E64 = 1)
    (i0 : P.underlying g0.type = some (.array 4 E8)) (i1 : P.underlying g1.type = some (.array 4 E8)) (i2 : P.underlying g2.type = some .bool) (hE8 : P.underlying E8 = some (.int .i8))
    (k0 : P.cellsOf g0.type = 4) (k1 : P.cellsOf g1.type = 4) (k2 : P.cellsOf g2.type = 1) (kE : P.cellsOf E8 = 1) (p0 : g0.offset = 0) (p1 : g1.offset = 4) (p2 : g2.offset = 8)
    (c0 : P.cellsOf f0.type = 1) (c1 : P.cellsOf f1.type = 1) (c2 : P.cellsOf f2.type = 9) (c3 : P.cellsOf f3.type = 1) (c4 : P.cellsOf f4.type = 6) (c5 : P.cellsOf f5.type = 1) (c6 : P.cellsOf f6.type = 1)
    (o0 : f0.offset = 0) (o1 : f1.offset = 1) (o2 : f2.offset = 2) (o3 : f3.offset = 11) (o4 : f4.offset = 12) (o5 : f5.offset = 18) (o6 : f6.offset = 19) (hsz : cs.size = 20)
    (hf : DataW.trod enc P w base spare held fuel T cs.toList = some x) :
    ∃ (kd st : Int) (X Y : Nat → Int) (t ed : Bool) (bits : Nat → Int) (sd : Int) (far : Bool), cs = fcells 20 (s19 kd st X Y t ed bits sd far) ∧ (Lit.int .u8 kd).wf = true ∧ (Lit.int .u8 st).wf = true ∧ (∀ j, j < 4 → (Lit.int .i8 (X j)).wf = true) ∧ (∀ j, j < 4 → (Lit.int .i8 (Y j)).wf = true) ∧ (∀ j, j < 6 → (Lit.int .u64 (bits j)).wf = true) ∧ (Lit.int .u32 sd).wf = true := by
  obtain ⟨xs, n, _, _, _, hlen, hall⟩ := DataW.trod_struct hT hf
  have hlen : xs.length = 7 := by simpa using hlen
  have a0 := hall 0 f0 rfl
  have a1 := hall 1 f1 rfl
  have a2 := hall 2 f2 rfl
  have a3 := hall 3 f3 rfl
  have a4 := hall 4 f4 rfl
  have a5 := hall 5 f5 rfl
  have a6 := hall 6 f6 rfl
  rw [List.getElem?_eq_getElem (by omega)] at a0 a1 a2 a3 a4 a5 a6
  rw [c0, o0] at a0; rw [c1, o1] at a1; rw [c2, o2] at a2; rw [c3, o3] at a3; rw [c4, o4] at a4; rw [c5, o5] at a5; rw [c6, o6] at a6
  obtain ⟨kd, hkd, _, wkd⟩ := DataW.trod_int h0 a0
  obtain ⟨st, hst, _, wst⟩ := DataW.trod_int h1 a1
  obtain ⟨ed, hed, _⟩ := DataW.trod_bool h3 a3
  obtain ⟨sd, hsd, _, wsd⟩ := DataW.trod_int h5 a5
  obtain ⟨far, hfa, _⟩ := DataW.trod_bool h6 a6
  have b0 := at_one hkd; have b1 := at_one hst; have b11 := at_one hed; have b18 := at_one hsd; have b19 := at_one hfa
  have kb := trod_intsW h4 hE64 cE64 a4
  obtain ⟨X, Y, t, eW, wX, wY⟩ := ways_cells (cs := ((cs.toList.drop 2).take 9).toArray) h2 i0 i1 i2 hE8 k0 k1 k2 kE p0 p1 p2 (by simp; omega) a2
  refine ⟨kd, st, X, Y, t, ed, fun j => intOf (cs.getD (12 + j) undef), sd, far, ?_, wkd, wst, wX, wY, ?_, wsd⟩
  · refine (fcells_of cs).trans ?_
    rw [hsz]
    refine fcells_congr fun j hj => ?_
    unfold s19
    by_cases e0 : j = 0
    · subst e0; rw [if_pos rfl]; simpa using congrArg (fun z => z.getD undef) b0
    rw [if_neg e0]
    by_cases e1 : j = 1
    · subst e1; rw [if_pos rfl]; simpa using congrArg (fun z => z.getD undef) b1
    rw [if_neg e1]
    by_cases e2 : j < 11
    · rw [if_pos e2]
      have h9 : (((cs.toList.drop 2).take 9).toArray)[j - 2]? = some (wyC X Y t (j - 2)) := by rw [eW, fcells_get (by omega)]
      rw [List.getElem?_toArray, List.getElem?_take_of_lt (by omega), List.getElem?_drop, show 2 + (j - 2) = j by omega] at h9
      simpa using congrArg (fun z => z.getD undef) h9
    rw [if_neg e2]
    by_cases e3 : j = 11
    · subst e3; rw [if_pos rfl]; simpa using congrArg (fun z => z.getD undef) b11
    rw [if_neg e3]
    by_cases e4 : j < 18
    · rw [if_pos e4]
      obtain ⟨q, hq, _⟩ := kb (j - 12) (by omega)
      have e : 12 + (j - 12) = j := by omega
      rw [e] at hq
      simp [hq, intOf, e]
    rw [if_neg e4]
    by_cases e5 : j = 18
    · subst e5; rw [if_pos rfl]; simpa using congrArg (fun z => z.getD undef) b18
    · rw [if_neg e5]
      obtain rfl : j = 19 := by omega
      simpa using congrArg (fun z => z.getD undef) b19
  · intro j hj
    obtain ⟨q, hq, hw⟩ := kb j hj
    simpa [hq, intOf] using hw
end
set_option maxRecDepth 100000 in
theorem open_s19 {H : Type} {enc : TypeId × Value → H} {w : World} {base b0 : Nat} {spare : Nat → Bool} {held : Bool} {r : Reach} {v : Value} {d : DataW H} {p : List MemPlace}
    (hv : Value.okWide Try.prog w r b0 S19T v) (h : DataW.Trod enc Try.prog w base spare held S19T v d p) :
    ∃ (kd st : Int) (X Y : Nat → Int) (t ed : Bool) (bits : Nat → Int) (sd : Int) (far : Bool), v = .agg (fcells 20 (s19 kd st X Y t ed bits sd far)) ∧ (Lit.int .u8 kd).wf = true ∧ (Lit.int .u8 st).wf = true ∧ (∀ j, j < 4 → (Lit.int .i8 (X j)).wf = true) ∧ (∀ j, j < 4 → (Lit.int .i8 (Y j)).wf = true) ∧ (∀ j, j < 6 → (Lit.int .u64 (bits j)).wf = true) ∧ (Lit.int .u32 sd).wf = true := by
  obtain ⟨cs, rfl, hsz⟩ := okWide_struct Try.underlying124 hv
  have hsz2 : cs.size = 20 := by rw [hsz]; kernel_rfl
  obtain ⟨fuel, hf⟩ := h
  have hf' : DataW.trod enc Try.prog w base spare held fuel S19T cs.toList = some (d, p) := hf
  obtain ⟨kd, st, X, Y, t, ed, bits, sd, far, e, h1, h2, h3, h4, h5, h6⟩ := s19_cells (P := Try.prog) (T := S19T) (E8 := 39) (E64 := 121) Try.underlying124 (by kernel_rfl) (by kernel_rfl) Try.underlying66 (by kernel_rfl) (by kernel_rfl) (by kernel_rfl) (by kernel_rfl) (by kernel_rfl) (by kernel_rfl)
    (by kernel_rfl) (by kernel_rfl) (by kernel_rfl) (by kernel_rfl) (by kernel_rfl) (by kernel_rfl) (by kernel_rfl) (by kernel_rfl) rfl rfl rfl
    (by kernel_rfl) (by kernel_rfl) (by kernel_rfl) (by kernel_rfl) (by kernel_rfl) (by kernel_rfl) (by kernel_rfl) rfl rfl rfl rfl rfl rfl rfl hsz2 hf'
  exact ⟨kd, st, X, Y, t, ed, bits, sd, far, by rw [e], h1, h2, h3, h4, h5, h6⟩
end Go.Proofs.Ytbldgpemocnboaa

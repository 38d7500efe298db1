/- The last step of a law's row, where of the world behind the call only this is known: what was there before is as it was. And how arrays, slices and structs that came in are opened. -/
import Derived.Test.YtbldgpemocnboaaOb
import Derived.ProofKit
import Derived.OpenShut
import Derived.Below
import Derived.ChangeSame
import Derived.ChangeSlices
import Derived.Deep.Grids
namespace Go.Proofs.Ytbldgpemocnboaa
open Go.RowKit Go.WideShapes Go.ChangeShapes

theorem wf_u8_bd {a : Int} (h : (Lit.int .u8 a).wf = true) : 0 ≤ a ∧ a ≤ 255 := by
  simpa [Lit.wf, IntKind.min, IntKind.max, IntKind.signed, IntKind.bits] using h
theorem wf_i16_bd {a : Int} (h : (Lit.int .i16 a).wf = true) : -32768 ≤ a ∧ a ≤ 32767 := by
  simpa [Lit.wf, IntKind.min, IntKind.max, IntKind.signed, IntKind.bits] using h
theorem wf_i8_bd {a : Int} (h : (Lit.int .i8 a).wf = true) : -128 ≤ a ∧ a ≤ 127 := by
  simpa [Lit.wf, IntKind.min, IntKind.max, IntKind.signed, IntKind.bits] using h
theorem wf_u16_bd {a : Int} (h : (Lit.int .u16 a).wf = true) : 0 ≤ a ∧ a ≤ 65535 := by
  simpa [Lit.wf, IntKind.min, IntKind.max, IntKind.signed, IntKind.bits] using h
theorem wf_u32_bd {a : Int} (h : (Lit.int .u32 a).wf = true) : 0 ≤ a ∧ a ≤ 4294967295 := by
  simpa [Lit.wf, IntKind.min, IntKind.max, IntKind.signed, IntKind.bits] using h

section
variable {H : Type} {enc : TypeId × Value → H} {P : Program}
theorem post_of_below {f : Func} {s : ChangeSpec} {apart fresh handsOn again : Bool} {W W' : World} {args : Array Value} {v : Value} {ds gs : List (DataW H)} {before pa pv : List MemPlace}
    (hW : DataW.Whole enc P f.params.toList s.vars apart W args.toList ds gs before)
    (hres : ∀ (b : Nat) (sp : Nat → Bool) (hd : Bool), DataW.TrodAll enc P W' b sp hd f.resultTypes.toList (v.resultList f.resultTypes.size) (s.fn H (ds ++ gs)).results [])
    (hargs : ∀ sp : Nat → Bool, (∀ p ∈ before, sp p.block = true) → DataW.TrodAll enc P W' 0 sp true f.params.toList args.toList (s.fn H (ds ++ gs)).args pa)
    (hvars : ∀ sp : Nat → Bool, (∀ p ∈ before, sp p.block = true) → DataW.TrodVars enc P W' sp s.vars (s.fn H (ds ++ gs)).vars pv)
    (hps : before = pa ++ pv) (hb : Below W.heap.size W W')
    (hok : ∀ (j : Nat) (t : TypeId) (r : Value), f.resultTypes[j]? = some t → (v.resultList f.resultTypes.size)[j]? = some r → Value.okWide P W' .any 0 t r) :
    s.post enc P f apart fresh handsOn again W args v W' := by
  have hlt : ∀ p ∈ before, p.block < W.heap.size := fun p hp => hW.lt p hp
  have hold : ∀ p ∈ before, (fun b => decide (b < W.heap.size)) p.block = true := fun p hp => by simpa using hlt p hp
  refine ⟨ds, gs, before, [], pa, pv, hW, hres _ _ _, hargs _ hold, hvars _ hold, World.keptBut_mono (fun p hp => ⟨hp, ?_⟩) (hb.frame (· ∈ before)), fun _ => ?_⟩
  · rw [hps, List.mem_append] at hp
    exact Or.inr hp
  · obtain ⟨_, _, _, _, _, hz, hn⟩ := hW
    refine ⟨hok, _, _, ([] ++ pa) ++ pv, ⟨[] ++ pa, pv, trodAll_append (hargs _ (fun _ _ => rfl)) (hres _ _ _), hvars _ (fun _ _ => rfl), rfl, ?_, ?_⟩, ?_⟩
    · intro b off hp
      have hin : MemPlace.cell b off ∈ before := by rw [hps]; simpa using hp
      rw [hb.frozen (hlt _ hin)]
      exact hz b off hin
    · intro ha
      have := hn ha
      rw [hps] at this
      simpa using this
    · intro p hp _
      rw [hps]
      simpa using hp

/-- All arguments read as they did. -/
theorem trodAll_stays (hl : laidOutB P = true) {W W' : World} (hb : Below W.heap.size W W') {sp : Nat → Bool} :
    ∀ (ts : List TypeId) (vs : List Value) (ds : List (DataW H)) (ps : List MemPlace), (ts.all fun t => P.readableRec t && decide (t < P.types.size)) = true →
      DataW.TrodAll enc P W 0 (fun _ => true) true ts vs ds ps → (∀ x ∈ ps, x.block < W.heap.size) → (∀ x ∈ ps, sp x.block = true) → DataW.TrodAll enc P W' 0 sp true ts vs ds ps := by
  intro ts
  induction ts with
  | nil =>
    intro vs ds ps _ h _ _
    cases vs <;> cases ds <;> first | exact h | exact h.elim
  | cons t ts ih =>
    intro vs ds ps hr h hlt hsp
    cases vs with
    | nil => cases ds <;> exact h.elim
    | cons v vs =>
      cases ds with
      | nil => exact h.elim
      | cons d ds =>
        obtain ⟨p, q, h1, h2, rfl⟩ := h
        simp only [List.all_cons, Bool.and_eq_true, decide_eq_true_eq] at hr
        refine ⟨p, q, WideElems.Trod_stays hl hr.1.1 hr.1.2 h1 (fun x hx => hb.same (hlt x (by simp [hx]))) (fun x hx => hsp x (by simp [hx])), ?_, rfl⟩
        exact ih vs ds q hr.2 h2 (fun x hx => hlt x (by simp [hx])) (fun x hx => hsp x (by simp [hx]))

/-- An array of ints that came in, by value. -/
theorem open_arr {w : World} {base b0 : Nat} {spare : Nat → Bool} {held : Bool} {r : Reach} {T E : TypeId} {n : Nat} {k : IntKind} {v : Value} {d : DataW H} {p : List MemPlace}
    (hT : P.underlying T = some (.array n E)) (hE : P.underlying E = some (.int k)) (hc : P.cellsOf E = 1) (hcT : P.cellsOf T = n)
    (hv : Value.okWide P w r b0 T v) (h : DataW.Trod enc P w base spare held T v d p) :
    ∃ f : Nat → Int, v = .agg (fcells n (fun j => .int k (f j))) ∧ ∀ j, j < n → (Lit.int k (f j)).wf = true := by
  have hv' : ∃ cs, v = .agg cs ∧ cs.size = P.cellsOf T := by
    simp only [Value.okWide, hT] at hv
    obtain ⟨cs, h1, h2, _⟩ := hv
    exact ⟨cs, h1, h2⟩
  obtain ⟨cs, rfl, hsz⟩ := hv'
  rw [hcT] at hsz
  obtain ⟨fuel, hf⟩ := h
  have hf' : DataW.trod enc P w base spare held fuel T cs.toList = some (d, p) := hf
  obtain ⟨xs, m, _, _, _, hxs, hall⟩ := DataW.trod_array hT hf'
  have key : ∀ i, i < n → ∃ q, cs[i]? = some (.int k q) ∧ (Lit.int k q).wf = true := by
    intro i hi
    have h1 := hall i hi
    rw [hc, Nat.mul_one, List.getElem?_eq_getElem (by omega)] at h1
    obtain ⟨q, hq, _, hw⟩ := DataW.trod_int hE h1
    refine ⟨q, ?_, hw⟩
    have h2 : (List.take 1 (List.drop i cs.toList))[0]? = some (Value.int k q) := by rw [hq]; rfl
    rw [List.getElem?_take_of_lt (by omega), List.getElem?_drop] at h2
    simpa using h2
  refine ⟨fun j => intOf (cs.getD j undef), ?_, ?_⟩
  · congr 1
    refine (fcells_of cs).trans ?_
    rw [hsz]
    refine fcells_congr fun j hj => ?_
    obtain ⟨q, hq, _⟩ := key j hj
    simp [hq, intOf]
  · intro j hj
    obtain ⟨q, hq, hw⟩ := key j hj
    simpa [hq, intOf] using hw

theorem sl_of_cells {w : World} {a : Addr} {n : Nat} {f : Nat → Value} (h : ∀ i, i < n → w.cell? (a.add i) = some (f i)) : SL w (some a) n f := by
  by_cases hn : n = 0
  · exact Or.inl hn
  · have h0 := h 0 (by omega)
    have hs : a.add 0 = a := by simp [Addr.add]
    rw [hs] at h0
    have hsp : a.spot = none := by
      unfold World.cell? at h0
      split at h0
      · split at h0
        · cases h0
        · rename_i hh; simpa using hh
      · cases h0
    obtain ⟨b, o, sp⟩ := a
    simp only at hsp
    subst hsp
    refine Or.inr ⟨b, o, rfl, World.block_lt_of_cell? w _ h0, fun k hk => ?_⟩
    have := h k hk
    rwa [Addr.add_lit] at this

/-- A slice of ints that came in. -/
theorem open_sl {w : World} {base : Nat} {spare : Nat → Bool} {held : Bool} {T E : TypeId} {k : IntKind} {v : Value} {d : DataW H} {p : List MemPlace}
    (hT : P.underlying T = some (.slice E)) (hE : P.underlying E = some (.int k)) (hc : P.cellsOf E = 1) {r : Reach} {b0 : Nat} (hv : Value.okWide P w r b0 T v) (h : DataW.Trod enc P w base spare held T v d p) :
    ∃ (a : Option Addr) (n c : Nat) (f : Nat → Int), v = .slice a n c ∧ n ≤ maxLen ∧ SL w a n (fun j => .int k (f j)) ∧ ∀ j, j < n → (Lit.int k (f j)).wf = true := by
  obtain ⟨fuel, hf⟩ := h
  have key : v.cells = #[.slice none 0 0] ∨ ∃ (a : Addr) (len cap : Nat) (zs : List Int), v.cells.toList = [.slice (some a) len cap] ∧ len ≤ cap ∧ cap ≤ maxLen ∧ len ≤ zs.length ∧ (∀ i, i < zs.length → w.cell? (a.add i) = some (.int k (zs.getD i 0))) ∧ (∀ n ∈ zs, (Lit.int k n).wf = true) := by
    rcases open_ints hT hE hc hf with ⟨h1, _⟩ | ⟨a, len, cap, zs, h1, _, h2, h3, h4, _, h5, h6⟩
    · exact Or.inl (by rw [← Array.toList_inj]; exact h1)
    · refine Or.inr ⟨a, len, cap, zs, h1, h2, h3, ?_, h5, h6⟩
      rw [h4]; split <;> omega
  have one : ∀ (a : Option Addr) (n c : Nat), v.cells.toList = [.slice a n c] → v = .slice a n c := by
    intro a n c hvc
    obtain ⟨a', n', c', rfl⟩ := okWide_slice hT hv
    simp only [Value.cells, List.cons.injEq, and_true] at hvc
    exact hvc
  rcases key with h1 | ⟨a, len, cap, zs, h1, h2, h3, h4, h5, h6⟩
  · exact ⟨none, 0, 0, fun _ => 0, one _ _ _ (by rw [h1]), by omega, Or.inl rfl, fun j hj => by omega⟩
  · refine ⟨some a, len, cap, fun j => zs.getD j 0, one _ _ _ h1, by omega, sl_of_cells (fun i hi => h5 i (by omega)), fun j hj => h6 (zs.getD j 0) ?_⟩
    rw [List.getD_eq_getElem?_getD, List.getElem?_eq_getElem (by omega)]
    simp
end
end Go.Proofs.Ytbldgpemocnboaa

/- A map from ints to values of whatever type, as a function: made, looked into, stored into. -/
import Derived.Test.YtbldgpemocnboaaOb
import Derived.Maps.OwnSet
import Derived.Maps.Views
import Derived.WideKeyEntry
namespace Go.Proofs.Ytbldgpemocnboaa
open Go.RowKit Go.Maps Go.WideElems Go.MapKept Go.ChangeMaps

/-- How an element reads: as itself. -/
def heldR (v : Value) : Option (DataW Value × List MemPlace) := some (.held v, [])
def I64 (k : Int) : Prop := -9223372036854775808 ≤ k ∧ k ≤ 9223372036854775807
theorem I64.wf {k : Int} (h : I64 k) : (Lit.int .i64 k).wf = true := by
  unfold I64 at h
  simpa [Lit.wf, IntKind.min, IntKind.max, IntKind.signed, IntKind.bits] using h
/-- Block b is a map of at most n entries, that has at each key what M says. -/
def MapI (w : World) (b n : Nat) (M : Int → Option Value) : Prop :=
  ∃ D : DataW Value, w.ownsMap Try.prog 3 heldR b n D ∧ IsMap D ∧ ∀ k, I64 k → has D (.int .i64 k) = (M k).isSome ∧ ∀ v, M k = some v → D.atKey (.int .i64 k) .nil = .held v
def updM (M : Int → Option Value) (k : Int) (v : Value) (j : Int) : Option Value := if j = k then some v else M j
theorem lawI : Keyed Try.prog 3 := int_keyed Try.underlying3
theorem keyI {k : Int} (h : I64 k) : keyOf Try.prog 3 (.int .i64 k) = some (.int .i64 k) := keyOf_int_mk Try.underlying3 h.wf
section
variable {w w' : World} {b n : Nat} {M : Int → Option Value}
theorem MapI.lt (h : MapI w b n M) : b < w.heap.size := by obtain ⟨_, h, _⟩ := h; exact h.lt
theorem MapI.keep (h : MapI w b n M) (e : w'.heap[b]? = w.heap[b]?) : MapI w' b n M := by
  obtain ⟨D, ⟨es, clock, hb, h1⟩, h2⟩ := h
  exact ⟨D, ⟨es, clock, by rw [e]; exact hb, h1⟩, h2⟩
theorem MapI.later (h : MapI w b n M) (hb : Below w.heap.size w w') : MapI w' b n M := h.keep (hb.block b h.lt)
theorem MapI.alloc (h : MapI w b n M) (o : Obj) : MapI (w.alloc o) b n M := h.later ((Below.refl _ _).alloc (Nat.le_refl _) _)
theorem MapI.wr {c : Nat} (h : MapI w b n M) (hw : Wr c w w') (hc : b ≠ c) : MapI w' b n M := h.keep (hw.block b h.lt hc)
theorem MapI.setRow (h : MapI w b n M) {c : Nat} (hc : c ≠ b) (cs : Array Value) : MapI (w.setRow c cs) b n M := h.keep (setRow_other w c b cs (fun e => hc e.symm))
theorem MapI.other (h : MapI w b n M) {c : Nat} (hc : c ≠ b) (k : Nat) (v : Value) : MapI (w.setCell ⟨c, k, none⟩ v) b n M := h.keep (heap_setCell_other w _ b v (fun e => hc e.symm))
theorem MapI.congr {M' : Int → Option Value} (h : MapI w b n M) (e : ∀ k, I64 k → M k = M' k) : MapI w b n M' := by
  obtain ⟨D, h1, h2, h3⟩ := h
  exact ⟨D, h1, h2, fun k hk => by rw [← e k hk]; exact h3 k hk⟩
theorem MapI.mono {n' : Nat} (h : MapI w b n M) (hn : n ≤ n') : MapI w b n' M := by
  obtain ⟨D, h1, h2⟩ := h; exact ⟨D, h1.mono hn, h2⟩
theorem MapI.made (w : World) : MapI (w.alloc (.map #[] 0)) w.heap.size 0 fun _ => none :=
  ⟨.map [], World.ownsMap_made w _ _ _, ⟨[], rfl⟩, fun k _ => ⟨rfl, fun v h => by cases h⟩⟩
/-- A block of cells is no map. -/
theorem MapI.ne_ob (h : MapI w b n M) {c : Nat} {T : TypeId} {cs : Array Value} (H : Ob w c T cs) : b ≠ c := by
  rintro rfl
  obtain ⟨D, ⟨es, clock, hb, _⟩, _⟩ := h
  unfold Ob at H; rw [H] at hb; cases hb
theorem MapI.ne_vb (h : MapI w b n M) {c m : Nat} {T : TypeId} {f : Nat → Value} (H : VB w c T m f) : b ≠ c := by
  obtain ⟨_, _, _, hB, _⟩ := H
  exact h.ne_ob (cs := fcells _ _) hB
section
variable {t e : TypeId} {z : Value} {k : Int}
set_option maxRecDepth 100000 in
theorem MapI.look_some {v : Value} (h : MapI w b n M) (ht : Try.prog.underlying t = some (.map 3 e)) (hz : (zeroValue e).run Try.prog w = .ok z w) (hk : I64 k) (hM : M k = some v) :
    (Instr.lookup t (.map (some b)) (.int .i64 k) true).run Try.prog w = .ok (.tuple #[v, .bool true]) w := by
  obtain ⟨D, ⟨es, clock, hb, F, hs, rfl⟩, hI, hD⟩ := h
  obtain ⟨d1, d2⟩ := hD k hk
  rcases fit_look true lawI ht hz hb F (keyI hk) with ⟨hrun, _, hat⟩ | ⟨e0, y, _, _, hrun, hRv, hat, _⟩
  · rw [has_false_of_atKey hat, hM] at d1; cases d1
  · have h1 := d2 v hM
    rw [hat .nil] at h1
    have h2 : y.1 = .held e0.val := by unfold heldR at hRv; rw [← Option.some.inj hRv]
    rw [h2] at h1
    injection h1 with h1
    rw [hrun, h1]; rfl
set_option maxRecDepth 100000 in
theorem MapI.look_none (h : MapI w b n M) (ht : Try.prog.underlying t = some (.map 3 e)) (hz : (zeroValue e).run Try.prog w = .ok z w) (hk : I64 k) (hM : M k = none) :
    (Instr.lookup t (.map (some b)) (.int .i64 k) true).run Try.prog w = .ok (.tuple #[z, .bool false]) w := by
  obtain ⟨D, ⟨es, clock, hb, F, hs, rfl⟩, hI, hD⟩ := h
  obtain ⟨d1, d2⟩ := hD k hk
  rcases fit_look true lawI ht hz hb F (keyI hk) with ⟨hrun, _, hat⟩ | ⟨e0, y, _, _, hrun, hRv, hat, _⟩
  · rw [hrun]; rfl
  · rw [has_true_of_atKey hat, hM] at d1; cases d1
set_option maxRecDepth 100000 in
theorem MapI.get_some {v : Value} (h : MapI w b n M) (ht : Try.prog.underlying t = some (.map 3 e)) (hz : (zeroValue e).run Try.prog w = .ok z w) (hk : I64 k) (hM : M k = some v) :
    (Instr.lookup t (.map (some b)) (.int .i64 k) false).run Try.prog w = .ok v w := by
  obtain ⟨D, ⟨es, clock, hb, F, hs, rfl⟩, hI, hD⟩ := h
  obtain ⟨d1, d2⟩ := hD k hk
  rcases fit_look false lawI ht hz hb F (keyI hk) with ⟨hrun, _, hat⟩ | ⟨e0, y, _, _, hrun, hRv, hat, _⟩
  · rw [has_false_of_atKey hat, hM] at d1; cases d1
  · have h1 := d2 v hM
    rw [hat .nil] at h1
    have h2 : y.1 = .held e0.val := by unfold heldR at hRv; rw [← Option.some.inj hRv]
    rw [h2] at h1
    injection h1 with h1
    rw [hrun, h1]; rfl
set_option maxRecDepth 100000 in
theorem MapI.get_none (h : MapI w b n M) (ht : Try.prog.underlying t = some (.map 3 e)) (hz : (zeroValue e).run Try.prog w = .ok z w) (hk : I64 k) (hM : M k = none) :
    (Instr.lookup t (.map (some b)) (.int .i64 k) false).run Try.prog w = .ok z w := by
  obtain ⟨D, ⟨es, clock, hb, F, hs, rfl⟩, hI, hD⟩ := h
  obtain ⟨d1, d2⟩ := hD k hk
  rcases fit_look false lawI ht hz hb F (keyI hk) with ⟨hrun, _, hat⟩ | ⟨e0, y, _, _, hrun, hRv, hat, _⟩
  · rw [hrun]; rfl
  · rw [has_true_of_atKey hat, hM] at d1; cases d1
theorem MapI.put {D : DataW Value} (hI : IsMap D) (hD : ∀ k, I64 k → has D (.int .i64 k) = (M k).isSome ∧ ∀ v, M k = some v → D.atKey (.int .i64 k) .nil = .held v) (v : Value) :
    IsMap (D.put (.int .i64 k) (.held v)) ∧ ∀ j, I64 j → has (D.put (.int .i64 k) (.held v)) (.int .i64 j) = (updM M k v j).isSome ∧ ∀ u, updM M k v j = some u → (D.put (.int .i64 k) (.held v)).atKey (.int .i64 j) .nil = .held u := by
  refine ⟨hI.put _ _, fun j hj => ?_⟩
  unfold updM
  by_cases e : j = k
  · subst e
    rw [if_pos rfl, has_put_same (k := .int .i64 j) hI trivial, atKey_put_same (k := .int .i64 j) hI trivial]
    exact ⟨rfl, fun u hu => by injection hu with hu; rw [hu]⟩
  · have hne : Lit.int .i64 j ≠ Lit.int .i64 k := by intro h; injection h with _ h; exact e h
    rw [if_neg e, has_put_other hne, atKey_put_other hne]
    exact hD j hj
theorem MapI.update (h : MapI w b n M) (ht : Try.prog.underlying t = some (.map 3 e)) (hn : n < maxLen) (hk : I64 k) (v : Value) :
    ∃ w', (Instr.mapUpdate t (.map (some b)) (.int .i64 k) v).run Try.prog w = .ok () w' ∧ MapI w' b (n + 1) (updM M k v) ∧ Wr b w w' := by
  obtain ⟨D, h1, hI, hD⟩ := h
  obtain ⟨w', hrun, hown, hg⟩ := h1.update lawI ht hn (keyI hk) (show heldR v = some (.held v, []) from rfl)
  exact ⟨w', hrun, ⟨_, hown, MapI.put hI hD v⟩, ⟨hg.os, hg.tape, hg.output, hg.size, fun k hk hne => hg.block k hk (by intro e; exact hne (Option.some.inj e))⟩⟩
theorem setBlock_twice (w : World) (b : Nat) (o o' : Obj) : setBlock (setBlock w b o) b o' = setBlock w b o' := by
  unfold setBlock
  simp only [Array.setIfInBounds_setIfInBounds]
/-- 'm[k], .. = v, ..' where m hasn't k yet: the entry is made first, then stored into. -/
theorem MapI.entry (h : MapI w b n M) (ht : Try.prog.underlying t = some (.map 3 e)) (hz : ∀ w, (zeroValue e).run Try.prog w = .ok z w) (hn : n < maxLen) (hk : I64 k) (hM : M k = none) (v : Value) :
    ∃ (st : Nat) (w1 w2 : World), (Instr.mapEntry t (.map (some b)) (.int .i64 k)).run Try.prog w = .ok (.tuple #[z, .int .i64 (st : Int)]) w1 ∧
      (Instr.entryStore t (.map (some b)) (.int .i64 (st : Int)) v).run Try.prog w1 = .ok () w2 ∧ MapI w2 b (n + 1) (updM M k v) ∧ Wr b w w2 := by
  obtain ⟨w2, hrun, hm, hw⟩ := h.update ht hn hk v
  obtain ⟨D, ⟨es, clock, hb, F, hs, rfl⟩, hI, hD⟩ := h
  obtain ⟨s1, s2, _⟩ := F.stamped
  rcases lawI.find w (keyI hk) es.toList F.keys with ⟨h1, h2⟩ | ⟨j, e0, h1, h2, h3⟩
  · have e2 : w2 = setBlock w b (.map (es.push ⟨.int .i64 k, v, clock⟩) (clock + 1)) := by
      have : (Instr.mapUpdate t (.map (some b)) (.int .i64 k) v).run Try.prog w = .ok () (setBlock w b (.map (es.push ⟨.int .i64 k, v, clock⟩) (clock + 1))) := by
        simp [Instr.mapUpdate, run_underlying ht, MapKept.run_getObj_map hb, lawI.check w false (keyI hk), h1, MapKept.run_setObj_map _ hb, Result.andThen, setBlock]
      rw [hrun] at this
      injection this
    have hb1 : (setBlock w b (.map (es.push ⟨.int .i64 k, z, clock⟩) (clock + 1))).heap[b]? = some (.map (es.push ⟨.int .i64 k, z, clock⟩) (clock + 1)) := heap_setBlock_same hb _
    have hix : (es.push ⟨.int .i64 k, z, clock⟩).findIdx? (fun e => ((e.born : Nat) : Int) == ((clock : Nat) : Int)) = some es.size := by
      rw [findIdx_arr]
      refine findIdx_born (l := (es.push ⟨.int .i64 k, z, clock⟩).toList) (j := es.size) (e0 := ⟨.int .i64 k, z, clock⟩) ?_ (by simp)
      rw [Array.toList_push, List.map_append]
      refine List.nodup_append.2 ⟨s2, by simp, fun a ha c hc e1 => ?_⟩
      obtain ⟨x, hx, rfl⟩ := List.mem_map.1 ha
      have := s1 x hx
      have hc' : c = clock := by simpa using hc
      omega
    have hmd : (es.push ⟨.int .i64 k, z, clock⟩).modify es.size (fun e => { e with val := v }) = es.push ⟨.int .i64 k, v, clock⟩ := by
      apply Array.ext'
      rw [Array.toList_modify, Array.toList_push, Array.toList_push, ← Array.length_toList, modify_last]
    refine ⟨clock, setBlock w b (.map (es.push ⟨.int .i64 k, z, clock⟩) (clock + 1)), w2, ?_, ?_, hm, hw⟩
    · simp [Instr.mapEntry, run_underlying ht, MapKept.run_getObj_map hb, lawI.check w false (keyI hk), h1, hz, MapKept.run_setObj_map _ hb, Result.andThen, setBlock, goInt]
    · have : (Instr.entryStore t (.map (some b)) (.int .i64 (clock : Int)) v).run Try.prog (setBlock w b (.map (es.push ⟨.int .i64 k, z, clock⟩) (clock + 1))) = .ok () (setBlock (setBlock w b (.map (es.push ⟨.int .i64 k, z, clock⟩) (clock + 1))) b (.map (es.push ⟨.int .i64 k, v, clock⟩) (clock + 1))) := by
        generalize setBlock w b (.map (es.push ⟨.int .i64 k, z, clock⟩) (clock + 1)) = w1 at hb1
        simp [Instr.entryStore, MapKept.run_getObj_map hb1, asInt, asIntOf, hix, hmd, MapKept.run_setObj_map _ hb1, Result.andThen, setBlock]
      rw [this, e2, setBlock_twice]
  · have hh := (hD k hk).1
    have hm0 : e0 ∈ es.toList := List.mem_of_getElem? h2
    rw [hM] at hh
    have hz0 : (zeroValue e).run Try.prog w = .ok z w := hz w
    rcases fit_look true lawI ht hz0 hb F (keyI hk) with ⟨_, hno, _⟩ | ⟨_, y, _, _, _, _, hat, _⟩
    · exact (hno e0 hm0 h3).elim
    · rw [has_true_of_atKey hat] at hh; cases hh
end
end
end Go.Proofs.Ytbldgpemocnboaa

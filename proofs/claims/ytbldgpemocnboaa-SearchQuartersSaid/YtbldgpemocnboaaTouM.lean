/- Of which macroblocks one is made: boxes of them, plain; a map's keys that are collected, sorted. -/
import Derived.Test.YtbldgpemocnboaaPredM
import Derived.Test.YtbldgpemocnboaaSort
import Derived.Sort.OwnSortedInts
import Derived.Maps.RangeWalk
import Derived.Maps.Own
namespace Go.Proofs.Ytbldgpemocnboaa
open Go.RowKit Go.Maps

/-- A frame of which only the size is known. -/
def fz (c r : Nat) : Fr := ⟨c, r, 0, 0, 0, 0, 0, 0, fun _ => 0, fun _ => 0, fun _ => 0⟩
def szb (k : Nat) : Nat := if k < 4 then 16 else 8
section
variable (c r mb : Nat) (X Y : Nat → Int)
/-- The samples, the macroblocks, first and last, of block k. -/
def tx0 (k : Nat) : Int := spanLo ((fz c r).px mb k) (vk X k) ((szb k : Int) * c)
def tx1 (k : Nat) : Int := spanHi ((fz c r).px mb k) (vk X k) ((szb k : Int) * c)
def ty0 (k : Nat) : Int := spanLo ((fz c r).py mb k) (vk Y k) ((szb k : Int) * r)
def ty1 (k : Nat) : Int := spanHi ((fz c r).py mb k) (vk Y k) ((szb k : Int) * r)
def inBox (k : Nat) (z : Nat) : Prop := ∃ j i : Nat, ((ty0 c r mb Y k).toNat / szb k ≤ j ∧ j ≤ (ty1 c r mb Y k).toNat / szb k) ∧ ((tx0 c r mb X k).toNat / szb k ≤ i ∧ i ≤ (tx1 c r mb X k).toNat / szb k) ∧ z = j * c + i
def upTo (k : Nat) (z : Nat) : Prop := ∃ q, q < k ∧ inBox c r mb X Y q z
def rowTo (k j : Nat) (z : Nat) : Prop := upTo c r mb X Y k z ∨ ∃ q i : Nat, ((ty0 c r mb Y k).toNat / szb k ≤ q ∧ q < j) ∧ ((tx0 c r mb X k).toNat / szb k ≤ i ∧ i ≤ (tx1 c r mb X k).toNat / szb k) ∧ z = q * c + i
def colTo (k j i : Nat) (z : Nat) : Prop := rowTo c r mb X Y k j z ∨ ∃ p : Nat, ((tx0 c r mb X k).toNat / szb k ≤ p ∧ p < i) ∧ z = j * c + p
/-- The macroblocks that any sample of one is made of. -/
def touched (z : Nat) : Prop := upTo c r mb X Y 5 z
end
section
variable {c r mb : Nat} {X Y : Nat → Int} {k j i z : Nat}
theorem upTo_zero : ¬ upTo c r mb X Y 0 z := fun ⟨q, h, _⟩ => by omega
theorem rowTo_start : rowTo c r mb X Y k ((ty0 c r mb Y k).toNat / szb k) z ↔ upTo c r mb X Y k z := by
  unfold rowTo
  refine ⟨fun h => ?_, Or.inl⟩
  rcases h with h | ⟨q, _, ⟨h1, h2⟩, _⟩
  · exact h
  · omega
theorem rowTo_last (h : j = (ty1 c r mb Y k).toNat / szb k + 1) : rowTo c r mb X Y k j z ↔ upTo c r mb X Y (k + 1) z := by
  constructor
  · rintro (⟨q, h1, h2⟩ | ⟨q, i, ⟨h1, h2⟩, h3, h4⟩)
    · exact ⟨q, by omega, h2⟩
    · exact ⟨k, by omega, q, i, ⟨h1, by omega⟩, h3, h4⟩
  · rintro ⟨q, h1, h2⟩
    by_cases e : q = k
    · subst e
      obtain ⟨j', i', ⟨h3, h4⟩, h5, h6⟩ := h2
      exact Or.inr ⟨j', i', ⟨h3, by omega⟩, h5, h6⟩
    · exact Or.inl ⟨q, by omega, h2⟩
theorem colTo_start : colTo c r mb X Y k j ((tx0 c r mb X k).toNat / szb k) z ↔ rowTo c r mb X Y k j z := by
  unfold colTo
  refine ⟨fun h => ?_, Or.inl⟩
  rcases h with h | ⟨p, ⟨h1, h2⟩, _⟩
  · exact h
  · omega
theorem colTo_step (h : (tx0 c r mb X k).toNat / szb k ≤ i) : colTo c r mb X Y k j (i + 1) z ↔ (colTo c r mb X Y k j i z ∨ z = j * c + i) := by
  unfold colTo
  constructor
  · rintro (h1 | ⟨p, ⟨h1, h2⟩, h3⟩)
    · exact Or.inl (Or.inl h1)
    · by_cases e : p = i
      · subst e; exact Or.inr h3
      · exact Or.inl (Or.inr ⟨p, ⟨h1, by omega⟩, h3⟩)
  · rintro ((h1 | ⟨p, ⟨h1, h2⟩, h3⟩) | h1)
    · exact Or.inl h1
    · exact Or.inr ⟨p, ⟨h1, by omega⟩, h3⟩
    · exact Or.inr ⟨i, ⟨h, by omega⟩, h1⟩
theorem colTo_last (h : i = (tx1 c r mb X k).toNat / szb k + 1) (hj : (ty0 c r mb Y k).toNat / szb k ≤ j) : colTo c r mb X Y k j i z ↔ rowTo c r mb X Y k (j + 1) z := by
  unfold colTo rowTo
  constructor
  · rintro ((h1 | ⟨q, p, ⟨h1, h2⟩, h3⟩) | ⟨p, ⟨h1, h2⟩, h3⟩)
    · exact Or.inl h1
    · exact Or.inr ⟨q, p, ⟨h1, by omega⟩, h3⟩
    · exact Or.inr ⟨j, p, ⟨hj, by omega⟩, ⟨h1, by omega⟩, h3⟩
  · rintro (h1 | ⟨q, p, ⟨h1, h2⟩, ⟨h3, h4⟩, h5⟩)
    · exact Or.inl (Or.inl h1)
    · by_cases e : q = j
      · subst e; exact Or.inr ⟨p, ⟨h3, by omega⟩, h5⟩
      · exact Or.inl (Or.inr ⟨q, p, ⟨h1, by omega⟩, ⟨h3, h4⟩, h5⟩)
/-- Where a block's samples lie. -/
theorem span_bd (x d : Int) {n : Int} (hn : 1 ≤ n) : 0 ≤ spanLo x d n ∧ spanLo x d n ≤ spanHi x d n ∧ spanHi x d n ≤ n - 1 := by
  unfold spanLo spanHi
  simp only [imin_eq, imax_eq]
  omega
theorem szb_or (k : Nat) : szb k = 16 ∨ szb k = 8 := by unfold szb; split <;> simp
theorem tx_bd (hc : 0 < c) (k : Nat) : 0 ≤ tx0 c r mb X k ∧ tx0 c r mb X k ≤ tx1 c r mb X k ∧ tx1 c r mb X k ≤ (szb k : Int) * c - 1 := by
  refine span_bd _ _ ?_
  rcases szb_or k with h | h <;> rw [h] <;> omega
theorem ty_bd (hr : 0 < r) (k : Nat) : 0 ≤ ty0 c r mb Y k ∧ ty0 c r mb Y k ≤ ty1 c r mb Y k ∧ ty1 c r mb Y k ≤ (szb k : Int) * r - 1 := by
  refine span_bd _ _ ?_
  rcases szb_or k with h | h <;> rw [h] <;> omega
theorem q_lt {v : Int} {s n : Nat} (hs : s = 16 ∨ s = 8) (h0 : 0 ≤ v) (h : v ≤ (s : Int) * n - 1) : v.toNat / s < n := by
  rcases hs with rfl | rfl <;> omega
theorem touched_lt (hc : 0 < c) (hr : 0 < r) (h : touched c r mb X Y z) : z < c * r := by
  obtain ⟨k, _, j, i, ⟨_, h1⟩, ⟨_, h2⟩, rfl⟩ := h
  have b1 := tx_bd (c := c) (r := r) (mb := mb) (X := X) hc k
  have b2 := ty_bd (c := c) (r := r) (mb := mb) (Y := Y) hr k
  have q1 := q_lt (szb_or k) (by omega) b1.2.2
  have q2 := q_lt (szb_or k) (by omega) b2.2.2
  have : (j + 1) * c ≤ r * c := Nat.mul_le_mul_right _ (by omega)
  rw [Nat.add_mul, Nat.one_mul] at this
  rw [Nat.mul_comm c r]; omega
end

/-! ### keys that are integers -/
theorem plainElem_bool_inv {H : Type} {P : Program} {e : TypeId} (he : P.underlying e = some .bool) {v : Value} {z : DataW H × List MemPlace} (h : plainElem P e v = some z) : ∃ x, v = .bool x := by
  unfold plainElem at h
  rw [he] at h
  cases v <;> simp at h
  exact ⟨_, rfl⟩
/-- The keys of a map. -/
def KeySet {H : Type} (D : DataW H) (S : Int → Prop) : Prop := IsMap D ∧ ∀ z, has D (.int .i64 z) = true ↔ S z
theorem KeySet.none {H : Type} : KeySet (.map [] : DataW H) (fun _ => False) := ⟨isMap_empty, fun z => by simp [has]⟩
theorem KeySet.put {H : Type} {D : DataW H} {S : Int → Prop} (h : KeySet D S) (x : Int) (d : DataW H) : KeySet (D.put (.int .i64 x) d) (fun z => S z ∨ z = x) := by
  refine ⟨h.1.put _ _, fun z => ?_⟩
  by_cases e : z = x
  · subst e
    rw [has_put_same (k := .int .i64 z) h.1 trivial d]; simp
  · rw [has_put_other (by intro he; apply e; injection he) d, h.2 z]
    simp [e]
theorem KeySet.congr {H : Type} {D : DataW H} {S T : Int → Prop} (h : KeySet D S) (e : ∀ z, S z ↔ T z) : KeySet D T := ⟨h.1, fun z => by rw [h.2 z, e z]⟩
/-- The keys met so far. -/
def CollI {H : Type} (D : DataW H) (left : Lit → Bool) (ss : List Int) : Prop := ss.Nodup ∧ ∀ x, x ∈ ss ↔ (has D (.int .i64 x) = true ∧ left (.int .i64 x) = false)
section
variable {H : Type} {D : DataW H} {left : Lit → Bool} {ss : List Int}
theorem CollI.start (D : DataW H) : CollI D (has D) [] := ⟨List.nodup_nil, fun x => by cases has D (.int .i64 x) <;> simp⟩
theorem CollI.step (h : CollI D left ss) {x : Int} {y : DataW H} (hlk : left (.int .i64 x) = true) (hat : ∀ zd, D.atKey (.int .i64 x) zd = y) : CollI D (fun z => left z && !z.sameKey (.int .i64 x)) (ss ++ [x]) := by
  have hhas : has D (.int .i64 x) = true := has_true_of_atKey hat
  have hnew : x ∉ ss := fun hx => by have := ((h.2 x).1 hx).2; rw [hlk] at this; cases this
  refine ⟨List.nodup_append.2 ⟨h.1, by simp, fun a ha b hb => by simp at hb; subst hb; exact fun e => hnew (e ▸ ha)⟩, fun y => ?_⟩
  by_cases hy : y = x
  · subst hy; simp [hhas, Lit.sameKey]
  · simp [h.2 y, hy, Lit.sameKey]
theorem CollI.fin (h : CollI D left ss) {S : Int → Prop} (hK : KeySet D S) (hl : ∀ kl, left kl = false) (x : Int) : x ∈ ss ↔ S x := by
  rw [h.2 x, hl, hK.2 x]; simp
end
/-- Sorted. -/
def srt (ss : List Int) : List Int := ss.mergeSort fun x y => decide (x ≤ y)
theorem srt_len (ss : List Int) : (srt ss).length = ss.length := by unfold srt; exact List.length_mergeSort _
theorem srt_mem (ss : List Int) (x : Int) : x ∈ srt ss ↔ x ∈ ss := by unfold srt; exact List.mem_mergeSort
theorem srt_lt {ss : List Int} (h : ss.Nodup) : (srt ss).Pairwise (· < ·) := by
  have h1 : (srt ss).Pairwise fun a b => decide (a ≤ b) = true := List.pairwise_mergeSort (fun a b c h1 h2 => by simp at *; omega) (fun a b => by simp; omega) ss
  have h2 : (srt ss).Nodup := (List.mergeSort_perm ss _).nodup_iff.2 h
  rw [List.pairwise_iff_getElem] at *
  rw [List.nodup_iff_pairwise_ne, List.pairwise_iff_getElem] at h2
  intro i j hi hj hij
  have a := h1 i j hi hj hij
  have b := h2 i j hi hj hij
  simp at a; omega
/-- What slices.Sort makes of a block that holds a list. -/
theorem sort_vb (g cap : Nat) (T : TypeId) (ss : List Int) (w : World) (hV : VB w g T ss.length (fun k => .int .i64 (ss.getD k 0))) (hs : ss.length < 1000000) :
    Calls Try.prog 114 #[.slice (some ⟨g, 0, none⟩) ss.length cap] w fun e w' => e = .returned (.tuple #[]) ∧ VB w' g T ss.length (fun k => .int .i64 ((srt ss).getD k 0)) ∧ Wr g w w' := by
  refine (Try.slices_Sort_int g 0 cap ss w (fun j hj => ?_) hV.lt (by omega)).mono ?_
  · have hj' : j < ss.length := by simpa using hj
    rw [Nat.zero_add]
    refine ⟨?_, hV.free j⟩
    rw [hV.cell hj']
    simp [List.getD_eq_getElem?_getD, hj']
  · rintro e w' ⟨rfl, n, os, rfl⟩
    obtain ⟨c, F, hc, hB, hF⟩ := hV
    refine ⟨rfl, ?_, ?_⟩
    · have h1 := heap_sortedI (n := n) (os := os) (srt ss).toArray hB
      refine ⟨(Sort.putCells (Value.int .i64) 0 (srt ss).toArray (fcells c F)).size, fun k => (Sort.putCells (Value.int .i64) 0 (srt ss).toArray (fcells c F)).getD k undef, ?_, ?_, fun k hk => ?_⟩
      · simp [Sort.putCells, fcells_size]; exact hc
      · unfold Blk; rw [← fcells_of]; exact h1
      · have h2 := take_putCellsI (fcells c F) (srt ss) (by rw [srt_len, fcells_size]; exact hc)
        have h3 : ((Sort.putCells (Value.int .i64) 0 (srt ss).toArray (fcells c F)).toList.take (srt ss).length)[k]? = ((srt ss).map (Value.int .i64))[k]? := by rw [h2]
        rw [List.getElem?_take_of_lt (by rw [srt_len]; exact hk), Array.getElem?_toList] at h3
        show Array.getD _ k undef = _
        rw [Array.getD_eq_getD_getElem?, h3]
        have hk2 : k < (srt ss).length := by rw [srt_len]; exact hk
        simp [List.getD_eq_getElem?_getD, hk2]
    · have h1 := grownBy_sortedI (w := w) (g := g) (n := n) (os := os) (srt ss).toArray
      exact ⟨h1.os, h1.tape, h1.output, h1.size, fun k hk hne => h1.block k hk (by intro e; exact hne (Option.some.inj e))⟩
end Go.Proofs.Ytbldgpemocnboaa

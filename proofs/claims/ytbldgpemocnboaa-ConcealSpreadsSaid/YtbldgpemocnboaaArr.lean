/- Arrays in memory and as values, as functions of the index; what a store, a new block and a draw do to them. Nothing of the program is named here. -/
import Derived.Test.YtbldgpemocnboaaBase
namespace Go.Proofs.Ytbldgpemocnboaa
open Go.RowKit

/-- n cells, by the index. -/
def fcells (n : Nat) (f : Nat → Value) : Array Value := ((List.range n).map f).toArray

theorem fcells_size (n : Nat) (f : Nat → Value) : (fcells n f).size = n := by simp [fcells]
theorem fcells_get {n : Nat} {f : Nat → Value} {k : Nat} (h : k < n) : (fcells n f)[k]? = some (f k) := by simp [fcells, h]
theorem fcells_getD {n : Nat} {f : Nat → Value} {k : Nat} (h : k < n) (d : Value) : (fcells n f).getD k d = f k := by
  simp [fcells, h]
theorem fcells_congr {n : Nat} {f g : Nat → Value} (h : ∀ j, j < n → f j = g j) : fcells n f = fcells n g := by
  unfold fcells; congr 1
  apply List.map_congr_left
  intro j hj; exact h j (by simpa using hj)
theorem fcells_inj {n : Nat} {f g : Nat → Value} (h : fcells n f = fcells n g) : ∀ j, j < n → f j = g j := by
  intro j hj
  have := congrArg (fun a : Array Value => a[j]?) h
  simpa [fcells_get hj] using this
theorem fcells_set (n : Nat) (f : Nat → Value) (k : Nat) (v : Value) : (fcells n f).setIfInBounds k v = fcells n (fun j => if j = k then v else f j) := by
  apply Array.ext_getElem?
  intro j
  rw [Array.getElem?_setIfInBounds]
  by_cases hj : j < n
  · rw [fcells_get hj, fcells_size]
    by_cases e : k = j
    · subst e; simp [hj, fcells_get hj]
    · rw [if_neg e, fcells_get hj, if_neg (fun h => e h.symm)]
  · have h1 : (fcells n (fun j => if j = k then v else f j))[j]? = none := by
      rw [Array.getElem?_eq_none]; rw [fcells_size]; omega
    have h2 : (fcells n f)[j]? = none := by
      rw [Array.getElem?_eq_none]; rw [fcells_size]; omega
    rw [h1, fcells_size]
    by_cases e : k = j
    · rw [if_pos e, if_neg (by omega)]
    · rw [if_neg e]; exact h2
/-- Any array is such cells. -/
theorem fcells_of (cs : Array Value) : cs = fcells cs.size (fun j => cs.getD j undef) := by
  apply Array.ext_getElem?
  intro j
  by_cases hj : j < cs.size
  · rw [fcells_get hj]; simp [hj]
  · rw [Array.getElem?_eq_none (by omega), Array.getElem?_eq_none (by rw [fcells_size]; omega)]
theorem fcells_one {n : Nat} {f : Nat → Value} (h : ∀ j, j < n → (f j).oneCell' = true) : (fcells n f).all (·.oneCell') = true := by
  rw [Array.all_eq_true]
  intro i hi
  have hi' : i < n := by rwa [fcells_size] at hi
  have := fcells_get (f := f) hi'
  rw [Array.getElem?_eq_getElem hi] at this
  have e := Option.some.inj this
  rw [e]; exact h i hi'

/-- Block b holds n cells of type T, given by the index; none of it is frozen. -/
def Blk (w : World) (b : Nat) (T : TypeId) (n : Nat) (f : Nat → Value) : Prop := w.heap[b]? = some (.cells (fcells n f) T (0, 0))

section
variable {w : World} {b : Nat} {T : TypeId} {n : Nat} {f : Nat → Value}
theorem Blk.cell (h : Blk w b T n f) {k : Nat} (hk : k < n) : w.cell? ⟨b, k, none⟩ = some (f k) := by
  rw [cell_of_row w b k _ _ _ h]; exact fcells_get hk
theorem Blk.free (h : Blk w b T n f) (k : Nat) : w.frozen? ⟨b, k, none⟩ = false := frozen_of_row w b k _ _ h
theorem Blk.lt (h : Blk w b T n f) : b < w.heap.size := lt_of_block h
theorem Blk.set (h : Blk w b T n f) (k : Nat) (v : Value) : Blk (w.setCell ⟨b, k, none⟩ v) b T n (fun j => if j = k then v else f j) := by
  unfold Blk
  rw [heap_setCell_same w b k _ _ v h, fcells_set]
theorem Blk.other (h : Blk w b T n f) {c : Nat} (hc : c ≠ b) (k : Nat) (v : Value) : Blk (w.setCell ⟨c, k, none⟩ v) b T n f := by
  unfold Blk
  rw [heap_setCell_other w _ b v (fun e => hc e.symm)]; exact h
theorem Blk.alloc (h : Blk w b T n f) (o : Obj) : Blk (w.alloc o) b T n f := by
  unfold Blk
  rw [Below.heap_alloc w o b h.lt]; exact h
theorem Blk.drew (h : Blk w b T n f) : Blk w.drew b T n f := h
theorem Blk.drewN (h : Blk w b T n f) (q : Nat) : Blk (w.drewN q) b T n f := h
theorem Blk.setRow (h : Blk w b T n f) {c : Nat} (hc : c ≠ b) (cs : Array Value) : Blk (w.setRow c cs) b T n f := by
  unfold Blk
  rw [setRow_other w c b cs (fun e => hc e.symm)]; exact h
theorem Blk.setRow_same {m : Nat} {g : Nat → Value} (h : Blk w b T n f) (hm : m = n) : Blk (w.setRow b (fcells m g)) b T n g := by
  subst hm
  exact setRow_heap w b _ _ _ _ h
theorem Blk.below {B : Nat} {w' : World} (h : Blk w b T n f) (hb : Below B w w') (hB : b < B) : Blk w' b T n f := by
  unfold Blk
  rw [hb.block b hB]; exact h
theorem Blk.congr {g : Nat → Value} (h : Blk w b T n f) (e : ∀ j, j < n → f j = g j) : Blk w b T n g := by
  unfold Blk; rw [← fcells_congr e]; exact h
theorem Blk.new (w : World) (T : TypeId) (n : Nat) (f : Nat → Value) : Blk (w.alloc (.cells (fcells n f) T)) w.heap.size T n f := heap_alloc_new w _
theorem Blk.new_at {w : World} {b : Nat} (T : TypeId) (n : Nat) (f : Nat → Value) (hb : b = w.heap.size) : Blk (w.alloc (.cells (fcells n f) T)) b T n f := by
  subst hb; exact heap_alloc_new w _
theorem Blk.new' (w : World) (T : TypeId) (n : Nat) (f : Nat → Value) (cs : Array Value) (h : cs = fcells n f) : Blk (w.alloc (.cells cs T)) w.heap.size T n f := by
  subst h; exact heap_alloc_new w _
end

/-- A block that is filled from its start: the first k cells by F, the others still by Z. -/
def fillV (k : Nat) (F Z : Nat → Value) (p : Nat) : Value := if p < k then F p else Z p
section
variable {w : World} {b k : Nat} {T : TypeId} {n : Nat} {F Z : Nat → Value}
theorem Blk.fill (h : Blk w b T n (fillV k F Z)) : Blk (w.setCell ⟨b, k, none⟩ (F k)) b T n (fillV (k + 1) F Z) :=
  (h.set k (F k)).congr fun j _ => by
    unfold fillV
    by_cases e : j = k
    · subst e; simp
    · by_cases e2 : j < k
      · simp [e, e2, show j < k + 1 by omega]
      · simp [e, e2, show ¬ j < k + 1 by omega]
theorem Blk.fill_cell (h : Blk w b T n (fillV k F Z)) (hk : k < n) : w.cell? ⟨b, k, none⟩ = some (Z k) := by
  have := h.cell hk
  rwa [fillV, if_neg (by omega)] at this
theorem Blk.fill_all (h : Blk w b T n (fillV n F Z)) : Blk w b T n F := h.congr fun j hj => by unfold fillV; rw [if_pos hj]
theorem Blk.fill_none (h : Blk w b T n Z) : Blk w b T n (fillV 0 F Z) := h
end

/-- An element of an array value. -/
theorem run_index_fcells {P : Program} (w : World) (T E : TypeId) (len : Nat) (f : Nat → Value) (i : Int) (hT : P.underlying T = some (.array len E)) (hE : (sizeOf E).run P w = .ok 1 w)
    (hA : (isAgg E).run P w = .ok false w) (h0 : 0 ≤ i) (h1 : i < len) :
    (Instr.index T (.agg (fcells len f)) (.int .i64 i)).run P w = .ok (f i.toNat) w := by
  simp only [Instr.index, Sem.run_bind, asIntOf, Sem.run_pure, Result.andThen_ok, run_underlying hT w]
  simp only [h0, h1, and_self, if_true, Sem.run_bind, Result.andThen_ok, hE, part, hA, Nat.mul_one, fcells_get (f := f) (show i.toNat < len by omega)]
  simp

/-- A whole array read out of its block; stored into its block; as a result that lies in its block. -/
theorem wpList_load_blk {P : Program} {ops : Array Oper} {rest : List Oper} {o : Oper} {a : Act} {w : World} {Q : Exit → Act → World → Prop} {b n : Nat} {T E : TypeId} {f : Nat → Value}
    (H : Blk w b T n f) (hgd : o.guard = none) (ty : TypeId) (x : Operand) (ho : o.op = .load ty x) (hx : a.eval x = .pointer (some ⟨b, 0, none⟩))
    (hu : P.underlying ty = some (.array n E)) (hi : (P.info? ty).map (·.size) = some n)
    (h : wpList P ops Q rest (a.put o.dst (.agg (fcells n f))) w) : wpList P ops Q (o :: rest) a w :=
  wpList_load_row hgd ty x ho b hx T (fcells n f) (0, 0) _ H hu rfl (by rw [fcells_size]; exact hi) h
theorem wpList_store_blk {P : Program} {ops : Array Oper} {rest : List Oper} {o : Oper} {a : Act} {w : World} {Q : Exit → Act → World → Prop} {b n : Nat} {T : TypeId} {f g : Nat → Value}
    (H : Blk w b T n f) (hgd : o.guard = none) (ty : TypeId) (x y : Operand) (ho : o.op = .store ty x y) (hx : a.eval x = .pointer (some ⟨b, 0, none⟩)) (hy : a.eval y = .agg (fcells n g))
    (hi : (P.info? ty).map (·.size) = some n) (h1 : ∀ j, j < n → (g j).oneCell' = true)
    (h : wpList P ops Q rest (a.put o.dst undef) (w.setRow b (fcells n g))) : wpList P ops Q (o :: rest) a w :=
  wpList_store_row hgd ty x y ho b (fcells n g) hx hy T (fcells n f) H (by rw [fcells_size]; exact hi) (by rw [fcells_size, fcells_size]) (fcells_one h1) h
theorem results_blk {P : Program} {fn : Func} {p : Tmp} {ty : TypeId} (h : fn.results = #[.cell p ty]) (tmps : Array Value) {w : World} {b n : Nat} {T E : TypeId} {f : Nat → Value}
    (H : Blk w b T n f) (hp : tmps.getD p undef = .pointer (some ⟨b, 0, none⟩)) (hu : P.underlying ty = some (.array n E)) (hi : (P.info? ty).map (·.size) = some n) :
    (results fn tmps).run P w = .ok (.agg (fcells n f)) w :=
  results_cell_row h tmps w b T (fcells n f) (0, 0) _ hp H hu rfl (by rw [fcells_size]; exact hi)
theorem wpList_alloc_blk {P : Program} {ops : Array Oper} {rest : List Oper} {o : Oper} {a : Act} {w : World} {Q : Exit → Act → World → Prop} (hgd : o.guard = none) (T : TypeId) (ho : o.op = .alloc T) (n : Nat) (f : Nat → Value)
    (hz : ∀ w : World, (Instr.alloc T true (.tuple #[])).run P w = .ok (.pointer (some ⟨w.heap.size, 0, none⟩)) (w.alloc (.cells (fcells n f) T)))
    (h : wpList P ops Q rest (a.put o.dst (.pointer (some ⟨w.heap.size, 0, none⟩))) (w.alloc (.cells (fcells n f) T))) : wpList P ops Q (o :: rest) a w :=
  wpList_plain hgd fun _ hK => by
    unfold Oper.wp execOp
    simp only [ho, hz, Sem.run_bind, Sem.run_pure, Result.andThen_ok]
    exact hK _ _ h
theorem below_setRow {B : Nat} {a w : World} (h : Below B a w) {b : Nat} (hb : B ≤ b) (cs : Array Value) : Below B a (w.setRow b cs) :=
  h.trans ⟨rfl, rfl, rfl, by simp, fun k hk => setRow_other w b k cs (by omega)⟩

theorem i64_small (n : Nat) (h : n < 9223372036854775808) : IntKind.i64.wrap (n : Int) = n := by rw [IntKind.wrap_i64]; omega
theorem bits_and_i64 (a b : Nat) (ha : a < 9223372036854775808) (hb : b < 9223372036854775808) : bits .and .i64 (a : Int) (b : Int) = ((a &&& b : Nat) : Int) := by
  have h1 : (BitVec.ofInt IntKind.i64.bits (a : Int)).toNat = a := by
    simp [IntKind.bits]; omega
  have h2 : (BitVec.ofInt IntKind.i64.bits (b : Int)).toNat = b := by
    simp [IntKind.bits]; omega
  have h3 : a &&& b ≤ a := Nat.and_le_left
  unfold bits
  simp only [BitVec.toNat_and, h1, h2]
  exact i64_small _ (by omega)
theorem bits_xor_i64 (a b : Nat) (ha : a < 9223372036854775808) (hb : b < 9223372036854775808) : bits .xor .i64 (a : Int) (b : Int) = ((a ^^^ b : Nat) : Int) := by
  have h1 : (BitVec.ofInt IntKind.i64.bits (a : Int)).toNat = a := by
    simp [IntKind.bits]; omega
  have h2 : (BitVec.ofInt IntKind.i64.bits (b : Int)).toNat = b := by
    simp [IntKind.bits]; omega
  have h3 : a ^^^ b < 2 ^ 63 := Nat.xor_lt_two_pow (by omega) (by omega)
  unfold bits
  simp only [BitVec.toNat_xor, h1, h2]
  exact i64_small _ (by omega)
end Go.Proofs.Ytbldgpemocnboaa

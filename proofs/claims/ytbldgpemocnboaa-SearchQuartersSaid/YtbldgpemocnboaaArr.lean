/- Small things that all texts of this seat use: Go's min and max as closed functions of ints, and their bounds. | Arrays in memory and as values, as functions of the index; what a store, a new block and a draw do to them. Nothing of the program is named here. | Two arrays of ints, held against each other. Nothing of the program is named here. | An array stored into a part of a block; one taken out of a greater array's value. Conditions: those that each theorem names. -/
import Derived.Test.YtbldgpemocnboaaRows
import Derived.WalkKit
import Derived.WalkSpells
import Derived.WalkLawsBesides
import Derived.Lib.Hide
import Derived.Laws.CopyRow
namespace Go.Proofs.Ytbldgpemocnboaa
open Go.RowKit

/-- Go's max and min of two ints, closed to the walk. -/
def imax (x y : Int) : Int := if y > x then y else x
def imin (x y : Int) : Int := if y < x then y else x

theorem imax_eq (x y : Int) : imax x y = max x y := by unfold imax; omega
theorem imin_eq (x y : Int) : imin x y = min x y := by unfold imin; omega

theorem run_imax {P : Program} {w : World} (ts : Array TypeId) (t : TypeId) (k k' : IntKind) (x y : Int) : (Builtin.max_ ts t #[.int k x, .int k' y]).run P w = .ok (.int k (imax x y)) w := by
  simp [Builtin.max_, Builtin.max2, imax]
theorem run_imin {P : Program} {w : World} (ts : Array TypeId) (t : TypeId) (k k' : IntKind) (x y : Int) : (Builtin.min_ ts t #[.int k x, .int k' y]).run P w = .ok (.int k (imin x y)) w := by
  simp [Builtin.min_, Builtin.min2, imin]

section
variable (P : Program) (w : World) (a : Addr) (m : Mode)
@[go_sem] theorem run_store_complex (k : FloatKind) (x y : Nat) : (store a (.complex k x y) m).run P w = stored P w a (.complex k x y) m := run_store P w a _ m rfl
@[go_sem] theorem run_store_float (k : FloatKind) (x : Nat) : (store a (.float k x) m).run P w = stored P w a (.float k x) m := run_store P w a _ m rfl
end

theorem ret_int {k : IntKind} {a b : Int} (h : a = b) : Ending.returned (.int k a) = .returned (.int k b) := by rw [h]
theorem ret_bool {a b : Bool} (h : a = b) : Ending.returned (.bool a) = .returned (.bool b) := by rw [h]
theorem wf_i64_bd {a : Int} (h : (Lit.int .i64 a).wf = true) : -9223372036854775808 ≤ a ∧ a ≤ 9223372036854775807 := by
  simpa [Lit.wf, IntKind.min, IntKind.max, IntKind.signed, IntKind.bits] using h
end Go.Proofs.Ytbldgpemocnboaa

namespace Go.Proofs.Ytbldgpemocnboaa
open Go.RowKit

/-- n cells, by the index. -/
def fcells (n : Nat) (f : Nat → Value) : Array Value := ((List.range n).map f).toArray

theorem fcells_size (n : Nat) (f : Nat → Value) : (fcells n f).size = n := by simp [fcells]
theorem fcells_get {n : Nat} {f : Nat → Value} {k : Nat} (h : k < n) : (fcells n f)[k]? = some (f k) := by simp [fcells, h]
theorem fcells_getD {n : Nat} {f : Nat → Value} {k : Nat} (h : k < n) (d : Value) : (fcells n f).getD k d = f k := by
  simp [fcells, h]
theorem fcells_congr {n : Nat} {f g : Nat → Value} (h : ∀ j, j < n → f j = g j) : fcells n f = fcells n g := by
  unfold fcells; congr 1
  apply List.map_congr_left
  intro j hj; exact h j (by simpa using hj)
theorem fcells_inj {n : Nat} {f g : Nat → Value} (h : fcells n f = fcells n g) : ∀ j, j < n → f j = g j := by
  intro j hj
  have := congrArg (fun a : Array Value => a[j]?) h
  simpa [fcells_get hj] using this
theorem fcells_set (n : Nat) (f : Nat → Value) (k : Nat) (v : Value) : (fcells n f).setIfInBounds k v = fcells n (fun j => if j = k then v else f j) := by
  apply Array.ext_getElem?
  intro j
  rw [Array.getElem?_setIfInBounds]
  by_cases hj : j < n
  · rw [fcells_get hj, fcells_size]
    by_cases e : k = j
    · subst e; simp [hj, fcells_get hj]
    · rw [if_neg e, fcells_get hj, if_neg (fun h => e h.symm)]
  · have h1 : (fcells n (fun j => if j = k then v else f j))[j]? = none := by
      rw [Array.getElem?_eq_none]; rw [fcells_size]; omega
    have h2 : (fcells n f)[j]? = none := by
      rw [Array.getElem?_eq_none]; rw [fcells_size]; omega
    rw [h1, fcells_size]
    by_cases e : k = j
    · rw [if_pos e, if_neg (by omega)]
    · rw [if_neg e]; exact h2
/-- Any array is such cells. -/
theorem fcells_of (cs : Array Value) : cs = fcells cs.size (fun j => cs.getD j undef) := by
  apply Array.ext_getElem?
  intro j
  by_cases hj : j < cs.size
  · rw [fcells_get hj]; simp [hj]
  · rw [Array.getElem?_eq_none (by omega), Array.getElem?_eq_none (by rw [fcells_size]; omega)]
theorem fcells_one {n : Nat} {f : Nat → Value} (h : ∀ j, j < n → (f j).oneCell' = true) : (fcells n f).all (·.oneCell') = true := by
  rw [Array.all_eq_true]
  intro i hi
  have hi' : i < n := by rwa [fcells_size] at hi
  have := fcells_get (f := f) hi'
  rw [Array.getElem?_eq_getElem hi] at this
  have e := Option.some.inj this
  rw [e]; exact h i hi'

/-- Block b holds n cells of type T, given by the index; none of it is frozen. -/
def Blk (w : World) (b : Nat) (T : TypeId) (n : Nat) (f : Nat → Value) : Prop := w.heap[b]? = some (.cells (fcells n f) T (0, 0))

section
variable {w : World} {b : Nat} {T : TypeId} {n : Nat} {f : Nat → Value}
theorem Blk.cell (h : Blk w b T n f) {k : Nat} (hk : k < n) : w.cell? ⟨b, k, none⟩ = some (f k) := by
  rw [cell_of_row w b k _ _ _ h]; exact fcells_get hk
theorem Blk.free (h : Blk w b T n f) (k : Nat) : w.frozen? ⟨b, k, none⟩ = false := frozen_of_row w b k _ _ h
theorem Blk.lt (h : Blk w b T n f) : b < w.heap.size := lt_of_block h
theorem Blk.set (h : Blk w b T n f) (k : Nat) (v : Value) : Blk (w.setCell ⟨b, k, none⟩ v) b T n (fun j => if j = k then v else f j) := by
  unfold Blk
  rw [heap_setCell_same w b k _ _ v h, fcells_set]
theorem Blk.other (h : Blk w b T n f) {c : Nat} (hc : c ≠ b) (k : Nat) (v : Value) : Blk (w.setCell ⟨c, k, none⟩ v) b T n f := by
  unfold Blk
  rw [heap_setCell_other w _ b v (fun e => hc e.symm)]; exact h
theorem Blk.alloc (h : Blk w b T n f) (o : Obj) : Blk (w.alloc o) b T n f := by
  unfold Blk
  rw [Below.heap_alloc w o b h.lt]; exact h
theorem Blk.drew (h : Blk w b T n f) : Blk w.drew b T n f := h
theorem Blk.drewN (h : Blk w b T n f) (q : Nat) : Blk (w.drewN q) b T n f := h
theorem Blk.setRow (h : Blk w b T n f) {c : Nat} (hc : c ≠ b) (cs : Array Value) : Blk (w.setRow c cs) b T n f := by
  unfold Blk
  rw [setRow_other w c b cs (fun e => hc e.symm)]; exact h
theorem Blk.setRow_same {m : Nat} {g : Nat → Value} (h : Blk w b T n f) (hm : m = n) : Blk (w.setRow b (fcells m g)) b T n g := by
  subst hm
  exact setRow_heap w b _ _ _ _ h
theorem Blk.below {B : Nat} {w' : World} (h : Blk w b T n f) (hb : Below B w w') (hB : b < B) : Blk w' b T n f := by
  unfold Blk
  rw [hb.block b hB]; exact h
theorem Blk.congr {g : Nat → Value} (h : Blk w b T n f) (e : ∀ j, j < n → f j = g j) : Blk w b T n g := by
  unfold Blk; rw [← fcells_congr e]; exact h
theorem Blk.new (w : World) (T : TypeId) (n : Nat) (f : Nat → Value) : Blk (w.alloc (.cells (fcells n f) T)) w.heap.size T n f := heap_alloc_new w _
theorem Blk.new_at {w : World} {b : Nat} (T : TypeId) (n : Nat) (f : Nat → Value) (hb : b = w.heap.size) : Blk (w.alloc (.cells (fcells n f) T)) b T n f := by
  subst hb; exact heap_alloc_new w _
theorem Blk.new' (w : World) (T : TypeId) (n : Nat) (f : Nat → Value) (cs : Array Value) (h : cs = fcells n f) : Blk (w.alloc (.cells cs T)) w.heap.size T n f := by
  subst h; exact heap_alloc_new w _
end

/-- A block that is filled from its start: the first k cells by F, the others still by Z. -/
def fillV (k : Nat) (F Z : Nat → Value) (p : Nat) : Value := if p < k then F p else Z p
section
variable {w : World} {b k : Nat} {T : TypeId} {n : Nat} {F Z : Nat → Value}
theorem Blk.fill (h : Blk w b T n (fillV k F Z)) : Blk (w.setCell ⟨b, k, none⟩ (F k)) b T n (fillV (k + 1) F Z) :=
  (h.set k (F k)).congr fun j _ => by
    unfold fillV
    by_cases e : j = k
    · subst e; simp
    · by_cases e2 : j < k
      · simp [e, e2, show j < k + 1 by omega]
      · simp [e, e2, show ¬ j < k + 1 by omega]
theorem Blk.fill_cell (h : Blk w b T n (fillV k F Z)) (hk : k < n) : w.cell? ⟨b, k, none⟩ = some (Z k) := by
  have := h.cell hk
  rwa [fillV, if_neg (by omega)] at this
theorem Blk.fill_all (h : Blk w b T n (fillV n F Z)) : Blk w b T n F := h.congr fun j hj => by unfold fillV; rw [if_pos hj]
theorem Blk.fill_none (h : Blk w b T n Z) : Blk w b T n (fillV 0 F Z) := h
end

/-- An element of an array value. -/
theorem run_index_fcells {P : Program} (w : World) (T E : TypeId) (len : Nat) (f : Nat → Value) (i : Int) (hT : P.underlying T = some (.array len E)) (hE : (sizeOf E).run P w = .ok 1 w)
    (hA : (isAgg E).run P w = .ok false w) (h0 : 0 ≤ i) (h1 : i < len) :
    (Instr.index T (.agg (fcells len f)) (.int .i64 i)).run P w = .ok (f i.toNat) w := by
  simp only [Instr.index, Sem.run_bind, asIntOf, Sem.run_pure, Result.andThen_ok, run_underlying hT w]
  simp only [h0, h1, and_self, if_true, Sem.run_bind, Result.andThen_ok, hE, part, hA, Nat.mul_one, fcells_get (f := f) (show i.toNat < len by omega)]
  simp

/-- A whole array read out of its block; stored into its block; as a result that lies in its block. -/
theorem wpList_load_blk {P : Program} {ops : Array Oper} {rest : List Oper} {o : Oper} {a : Act} {w : World} {Q : Exit → Act → World → Prop} {b n : Nat} {T E : TypeId} {f : Nat → Value}
    (H : Blk w b T n f) (hgd : o.guard = none) (ty : TypeId) (x : Operand) (ho : o.op = .load ty x) (hx : a.eval x = .pointer (some ⟨b, 0, none⟩))
    (hu : P.underlying ty = some (.array n E)) (hi : (P.info? ty).map (·.size) = some n)
    (h : wpList P ops Q rest (a.put o.dst (.agg (fcells n f))) w) : wpList P ops Q (o :: rest) a w :=
  wpList_load_row hgd ty x ho b hx T (fcells n f) (0, 0) _ H hu rfl (by rw [fcells_size]; exact hi) h
theorem wpList_store_blk {P : Program} {ops : Array Oper} {rest : List Oper} {o : Oper} {a : Act} {w : World} {Q : Exit → Act → World → Prop} {b n : Nat} {T : TypeId} {f g : Nat → Value}
    (H : Blk w b T n f) (hgd : o.guard = none) (ty : TypeId) (x y : Operand) (ho : o.op = .store ty x y) (hx : a.eval x = .pointer (some ⟨b, 0, none⟩)) (hy : a.eval y = .agg (fcells n g))
    (hi : (P.info? ty).map (·.size) = some n) (h1 : ∀ j, j < n → (g j).oneCell' = true)
    (h : wpList P ops Q rest (a.put o.dst undef) (w.setRow b (fcells n g))) : wpList P ops Q (o :: rest) a w :=
  wpList_store_row hgd ty x y ho b (fcells n g) hx hy T (fcells n f) H (by rw [fcells_size]; exact hi) (by rw [fcells_size, fcells_size]) (fcells_one h1) h
theorem results_blk {P : Program} {fn : Func} {p : Tmp} {ty : TypeId} (h : fn.results = #[.cell p ty]) (tmps : Array Value) {w : World} {b n : Nat} {T E : TypeId} {f : Nat → Value}
    (H : Blk w b T n f) (hp : tmps.getD p undef = .pointer (some ⟨b, 0, none⟩)) (hu : P.underlying ty = some (.array n E)) (hi : (P.info? ty).map (·.size) = some n) :
    (results fn tmps).run P w = .ok (.agg (fcells n f)) w :=
  results_cell_row h tmps w b T (fcells n f) (0, 0) _ hp H hu rfl (by rw [fcells_size]; exact hi)
theorem wpList_alloc_blk {P : Program} {ops : Array Oper} {rest : List Oper} {o : Oper} {a : Act} {w : World} {Q : Exit → Act → World → Prop} (hgd : o.guard = none) (T : TypeId) (ho : o.op = .alloc T) (n : Nat) (f : Nat → Value)
    (hz : ∀ w : World, (Instr.alloc T true (.tuple #[])).run P w = .ok (.pointer (some ⟨w.heap.size, 0, none⟩)) (w.alloc (.cells (fcells n f) T)))
    (h : wpList P ops Q rest (a.put o.dst (.pointer (some ⟨w.heap.size, 0, none⟩))) (w.alloc (.cells (fcells n f) T))) : wpList P ops Q (o :: rest) a w :=
  wpList_plain hgd fun _ hK => by
    unfold Oper.wp execOp
    simp only [ho, hz, Sem.run_bind, Sem.run_pure, Result.andThen_ok]
    exact hK _ _ h
theorem below_setRow {B : Nat} {a w : World} (h : Below B a w) {b : Nat} (hb : B ≤ b) (cs : Array Value) : Below B a (w.setRow b cs) :=
  h.trans ⟨rfl, rfl, rfl, by simp, fun k hk => setRow_other w b k cs (by omega)⟩

theorem i64_small (n : Nat) (h : n < 9223372036854775808) : IntKind.i64.wrap (n : Int) = n := by rw [IntKind.wrap_i64]; omega
theorem bits_and_i64 (a b : Nat) (ha : a < 9223372036854775808) (hb : b < 9223372036854775808) : bits .and .i64 (a : Int) (b : Int) = ((a &&& b : Nat) : Int) := by
  have h1 : (BitVec.ofInt IntKind.i64.bits (a : Int)).toNat = a := by
    simp [IntKind.bits]; omega
  have h2 : (BitVec.ofInt IntKind.i64.bits (b : Int)).toNat = b := by
    simp [IntKind.bits]; omega
  have h3 : a &&& b ≤ a := Nat.and_le_left
  unfold bits
  simp only [BitVec.toNat_and, h1, h2]
  exact i64_small _ (by omega)
theorem bits_xor_i64 (a b : Nat) (ha : a < 9223372036854775808) (hb : b < 9223372036854775808) : bits .xor .i64 (a : Int) (b : Int) = ((a ^^^ b : Nat) : Int) := by
  have h1 : (BitVec.ofInt IntKind.i64.bits (a : Int)).toNat = a := by
    simp [IntKind.bits]; omega
  have h2 : (BitVec.ofInt IntKind.i64.bits (b : Int)).toNat = b := by
    simp [IntKind.bits]; omega
  have h3 : a ^^^ b < 2 ^ 63 := Nat.xor_lt_two_pow (by omega) (by omega)
  unfold bits
  simp only [BitVec.toNat_xor, h1, h2]
  exact i64_small _ (by omega)
end Go.Proofs.Ytbldgpemocnboaa

namespace Go.Proofs.Ytbldgpemocnboaa
open Go.RowKit
theorem run_part_one {P : Program} (w : World) (E : TypeId) (n : Nat) (f : Nat → Value) (i : Nat) (hA : (isAgg E).run P w = .ok false w) (hi : i < n) : (part E (fcells n f) i).run P w = .ok (f i) w := by
  simp only [part, Sem.run_bind, hA, Result.andThen_ok, fcells_get (f := f) hi]
  simp
theorem run_equalIn_arr {P : Program} (w : World) (d : Nat) (t E : TypeId) (n : Nat) (f g : Nat → Value) (e : Nat → Bool) (ht : P.underlying t = some (.array n E)) (hE : (sizeOf E).run P w = .ok 1 w)
    (hA : (isAgg E).run P w = .ok false w) (heq : ∀ i, i < n → (Op.equalIn d E (f i) (g i)).run P w = .ok (e i) w) :
    (Op.equalIn (d + 1) t (.agg (fcells n f)) (.agg (fcells n g))).run P w = .ok ((List.range n).all e) w := by
  unfold Op.equalIn
  simp only [Sem.run_bind, run_underlying ht w, Result.andThen_ok, hE, Nat.mul_one]
  rw [Std.Legacy.Range.forIn_eq_forIn_range']
  have hl : List.range' [:n].start [:n].size [:n].step = List.range n := by
    simp [Std.Legacy.Range.size, List.range_eq_range']
  rw [hl]
  have key : ∀ l : List Nat, (∀ i ∈ l, i < n) → (Sem.run P
          (forIn l ((none : Option Bool), ()) fun i __s => do
            let __do_lift ← part E (fcells n f) i
            let __do_lift_1 ← part E (fcells n g) i
            let __do_lift ← Op.equalIn d E __do_lift __do_lift_1
            if (!__do_lift) = true then pure (ForInStep.done (some false, ())) else pure (ForInStep.yield (none, ())))
          w) = .ok (if l.all e then (none, ()) else (some false, ())) w := by
    intro l
    induction l with
    | nil => intro _; simp
    | cons i l ih =>
      intro hm
      have hi := hm i (by simp)
      simp only [List.forIn_cons, Sem.run_bind, run_part_one w E n f i hA hi, run_part_one w E n g i hA hi, Result.andThen_ok, heq i hi]
      cases he : e i with
      | true =>
        simp only [Bool.not_true, Bool.false_eq_true, if_false, Sem.run_pure, Result.andThen_ok]
        rw [ih (fun j hj => hm j (by simp [hj]))]
        simp [he]
      | false =>
        simp [he]
  rw [key _ (fun i hi => by simpa using hi)]
  cases (List.range n).all e <;> simp
theorem run_eq_ints {P : Program} (w : World) (t E : TypeId) (n : Nat) (k : IntKind) (f g : Nat → Int) (ht : P.underlying t = some (.array n E)) (hu : P.underlying E = some (.int k)) (hE : (sizeOf E).run P w = .ok 1 w)
    (hA : (isAgg E).run P w = .ok false w) :
    (Op.equalIn 10000 t (.agg (fcells n fun j => .int k (f j))) (.agg (fcells n fun j => .int k (g j)))).run P w = .ok ((List.range n).all fun j => f j == g j) w :=
  run_equalIn_arr w 9999 t E n _ _ _ ht hE hA (fun i _ => run_equalIn_int w 9998 E k k (f i) (g i) hu)
end Go.Proofs.Ytbldgpemocnboaa

namespace Go.Proofs.Ytbldgpemocnboaa
open Go.RowKit

/-- Cells of which some, from q on, are others. -/
def putPart (q m : Nat) (g f : Nat → Value) (j : Nat) : Value := if q ≤ j ∧ j < q + m then g (j - q) else f j

theorem part_cells {n q m : Nat} {f g : Nat → Value} (h : q + m ≤ n) :
    ((fcells n f).toList.take (q + 0) ++ (fcells m g).toList ++ (fcells n f).toList.drop (q + 0 + (fcells m g).toList.length)).toArray = fcells n (putPart q m g f) := by
  unfold fcells
  congr 1
  apply List.ext_getElem?
  intro j
  simp only [Nat.add_zero, List.length_map, List.length_range]
  by_cases h1 : j < q
  · rw [List.append_assoc, List.getElem?_append_left (by simp; omega)]
    simp [h1, show j < n by omega, putPart, show ¬ q ≤ j by omega]
  · by_cases h2 : j < q + m
    · rw [List.append_assoc, List.getElem?_append_right (by simp; omega), List.getElem?_append_left (by simp; omega)]
      simp [show min q n = q by omega, show j - q < m by omega, show j < n by omega, putPart, show q ≤ j by omega, h2]
    · rw [List.getElem?_append_right (by simp; omega)]
      simp only [List.length_append, List.length_take, List.length_map, List.length_range, List.getElem?_drop, show min q n = q by omega, show q + m + (j - (q + m)) = j by omega]
      by_cases h3 : j < n
      · simp [h3, putPart, h2]
      · simp [h3]

theorem run_storeVar_part {P : Program} (w : World) (b q n m : Nat) (T ty : TypeId) (f g : Nat → Value) (H : Blk w b T n f) (hi : (P.info? ty).map (·.size) = some m) (hq : q + m ≤ n) (h1 : ∀ j, j < m → (g j).oneCell' = true) :
    (storeVar ty ⟨b, q, none⟩ (.agg (fcells m g))).run P w = .ok () (w.setRow b (fcells n (putPart q m g f))) := by
  have h := run_storeCells_at P b q T (fcells m g).toList 0 (fcells n f) w H (by rw [fcells_size]; simp [fcells]; omega) (fun v hv => by
    simp only [fcells, List.mem_map, List.mem_range] at hv
    obtain ⟨j, hj, rfl⟩ := hv; exact h1 j hj)
  rw [part_cells hq] at h
  cases hqq : P.info? ty with
  | none => simp [hqq] at hi
  | some i =>
    have hs : m = i.size := by simp [hqq] at hi; omega
    have hs2 : (fcells m g).size = i.size := by rw [fcells_size]; exact hs
    simp [storeVar, sizeOf, typeInfo, hqq, Value.cells, hs2, h]

theorem wpList_store_part {P : Program} {ops : Array Oper} {rest : List Oper} {o : Oper} {a : Act} {w : World} {Q : Exit → Act → World → Prop} {b n m q : Nat} {T : TypeId} {f g : Nat → Value}
    (H : Blk w b T n f) (hgd : o.guard = none) (ty : TypeId) (x y : Operand) (ho : o.op = .store ty x y) (hx : a.eval x = .pointer (some ⟨b, q, none⟩)) (hy : a.eval y = .agg (fcells m g))
    (hi : (P.info? ty).map (·.size) = some m) (hq : q + m ≤ n) (h1 : ∀ j, j < m → (g j).oneCell' = true)
    (h : wpList P ops Q rest (a.put o.dst undef) (w.setRow b (fcells n (putPart q m g f)))) : wpList P ops Q (o :: rest) a w :=
  wpList_plain hgd fun K hK => by
    have h2 := hK _ _ h
    unfold Oper.wp execOp
    simp only [ho, hx, hy, Instr.storeAt, Instr.sureAddr, Sem.run_bind, Sem.run_pure, Result.andThen_ok, run_storeVar_part w b q n m T ty f g H hi hq h1]
    exact h2

/-- A part of an array's value that is an array itself. -/
theorem run_index_part {P : Program} (w : World) (T E : TypeId) (len m : Nat) (f : Nat → Value) (i : Nat) (hT : P.underlying T = some (.array len E)) (hE : (sizeOf E).run P w = .ok m w)
    (hA : (isAgg E).run P w = .ok true w) (h1 : i < len) :
    (Instr.index T (.agg (fcells (len * m) f)) (.int .i64 (i : Int))).run P w = .ok (.agg (fcells m fun j => f (i * m + j))) w := by
  have h2 : i * m + m ≤ len * m := by
    have := Nat.mul_le_mul_right m (show i + 1 ≤ len by omega)
    rw [Nat.add_mul, Nat.one_mul] at this; exact this
  have e : (fcells (len * m) f).extract (i * m) (i * m + m) = fcells m fun j => f (i * m + j) := by
    apply Array.ext_getElem?
    intro j
    rw [Array.getElem?_extract]
    by_cases h : j < m
    · rw [if_pos (by rw [fcells_size]; omega), fcells_get (by omega), fcells_get h]
    · rw [if_neg (by rw [fcells_size]; omega), Array.getElem?_eq_none (by rw [fcells_size]; omega)]
  simp only [Instr.index, Sem.run_bind, asIntOf, Sem.run_pure, Result.andThen_ok, run_underlying hT w]
  have h3 : (0 : Int) ≤ (i : Int) := by omega
  have h4 : (i : Int) < (len : Int) := by omega
  simp only [h3, h4, and_self, if_true, Sem.run_bind, Result.andThen_ok, hE, part, hA, Int.toNat_natCast, Sem.run_pure, e]
/-- A whole array of arrays read out of its block; as a result. -/
theorem wpList_load_blkA {P : Program} {ops : Array Oper} {rest : List Oper} {o : Oper} {a : Act} {w : World} {Q : Exit → Act → World → Prop} {b n len : Nat} {T E : TypeId} {f : Nat → Value}
    (H : Blk w b T n f) (hgd : o.guard = none) (ty : TypeId) (x : Operand) (ho : o.op = .load ty x) (hx : a.eval x = .pointer (some ⟨b, 0, none⟩))
    (hu : P.underlying ty = some (.array len E)) (hi : (P.info? ty).map (·.size) = some n)
    (h : wpList P ops Q rest (a.put o.dst (.agg (fcells n f))) w) : wpList P ops Q (o :: rest) a w :=
  wpList_load_row hgd ty x ho b hx T (fcells n f) (0, 0) _ H hu rfl (by rw [fcells_size]; exact hi) h
theorem results_blkA {P : Program} {fn : Func} {p : Tmp} {ty : TypeId} (h : fn.results = #[.cell p ty]) (tmps : Array Value) {w : World} {b n len : Nat} {T E : TypeId} {f : Nat → Value}
    (H : Blk w b T n f) (hp : tmps.getD p undef = .pointer (some ⟨b, 0, none⟩)) (hu : P.underlying ty = some (.array len E)) (hi : (P.info? ty).map (·.size) = some n) :
    (results fn tmps).run P w = .ok (.agg (fcells n f)) w :=
  results_cell_row h tmps w b T (fcells n f) (0, 0) _ hp H hu rfl (by rw [fcells_size]; exact hi)
end Go.Proofs.Ytbldgpemocnboaa

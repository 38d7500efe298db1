/- A new block that is made and stored into at once: what the world then holds; the walk stops behind it. -/
import Derived.Test.YtbldgpemocnboaaOb
namespace Go.Proofs.Ytbldgpemocnboaa
open Go.RowKit

theorem wpList_store_blk_stop {P : Program} {ops : Array Oper} {rest : List Oper} {o : Oper} {a : Act} {w : World} {Q : Exit → Act → World → Prop} {b n : Nat} {T : TypeId} {f g : Nat → Value}
    (H : Blk w b T n f) (hgd : o.guard = none) (ty : TypeId) (x y : Operand) (ho : o.op = .store ty x y) (hx : a.eval x = .pointer (some ⟨b, 0, none⟩)) (hy : a.eval y = .agg (fcells n g))
    (hi : (P.info? ty).map (·.size) = some n) (h1 : ∀ j, j < n → (g j).oneCell' = true)
    (h : ∀ w', RowKit.Hid (w.setRow b (fcells n g) = w') → wpList P ops Q rest (a.put o.dst undef) w') : wpList P ops Q (o :: rest) a w :=
  wpList_store_blk H hgd ty x y ho hx hy hi h1 (h _ (Lib.hid rfl))
section
variable {w w' : World} {o : Obj} {ds : Array Value} (h : (w.alloc o).setRow w.heap.size ds = w')
include h
theorem mk_keepB {b n : Nat} {T : TypeId} {f : Nat → Value} (H : Blk w b T n f) : Blk w' b T n f := by rw [← h]; have := H.lt; exact (H.alloc _).setRow (by omega) _
theorem mk_keepO {b : Nat} {T : TypeId} {cs : Array Value} (H : Ob w b T cs) : Ob w' b T cs := by rw [← h]; have := H.lt; exact (H.alloc _).setRow (by omega) _
theorem mk_keepV {b n : Nat} {T : TypeId} {f : Nat → Value} (H : VB w b T n f) : VB w' b T n f := by rw [← h]; have := H.lt; exact (H.alloc _).setRow (by omega) _
theorem mk_below {B : Nat} {a : World} (H : Below B a w) (hB : B ≤ w.heap.size) : Below B a w' := by rw [← h]; exact below_setRow (H.alloc hB _) hB _
theorem mk_size : w'.heap.size = w.heap.size + 1 := by rw [← h]; simp
end
theorem mk_blk {w w' : World} {T : TypeId} {n : Nat} {z g : Nat → Value} (h : (w.alloc (.cells (fcells n z) T)).setRow w.heap.size (fcells n g) = w') : Blk w' w.heap.size T n g := by
  rw [← h]; exact (Blk.new_at _ _ _ rfl).setRow_same rfl
theorem mk_ob {w w' : World} {T : TypeId} {cs ds : Array Value} (h : (w.alloc (.cells cs T)).setRow w.heap.size ds = w') : Ob w' w.heap.size T ds := by
  rw [← h]; exact (Ob.new_at (w := w) T cs rfl).setRow_same _
/-- A cell of an array that is being filled, stored once, or twice. -/
theorem fill1 {k : Nat} {F Z : Nat → Value} {x : Value} (hx : F k = x) (j : Nat) : (if j = k then x else fillV k F Z j) = fillV (k + 1) F Z j := by
  unfold fillV
  by_cases e : j = k
  · subst e; rw [if_pos rfl, if_pos (by omega), hx]
  · rw [if_neg e]
    by_cases e2 : j < k
    · rw [if_pos e2, if_pos (by omega)]
    · rw [if_neg e2, if_neg (by omega)]
theorem fill2 {k : Nat} {F Z : Nat → Value} {x y : Value} (hx : F k = x) (j : Nat) : (if j = k then x else if j = k then y else fillV k F Z j) = fillV (k + 1) F Z j := by
  rw [← fill1 hx j]
  by_cases e : j = k
  · rw [if_pos e, if_pos e]
  · rw [if_neg e, if_neg e, if_neg e]
end Go.Proofs.Ytbldgpemocnboaa

/- A frame stored into a cell of its own: what stays. -/
import Derived.Test.YtbldgpemocnboaaSm3
namespace Go.Proofs.Ytbldgpemocnboaa
open Go.RowKit Go.Sort
section
variable {w w' : World} {cs ds : Array Value} (h : (w.alloc (.cells cs FRT)).setRow w.heap.size ds = w')
include h
theorem cell_size : w'.heap.size = w.heap.size + 1 := by rw [← h]; simp
theorem cell_ob : Ob w' w.heap.size FRT ds := by rw [← h]; exact (Ob.new_at (w := w) FRT cs rfl).setRow_same _
theorem cell_keep {b : Nat} {T : TypeId} {es : Array Value} (H : Ob w b T es) : Ob w' b T es := by rw [← h]; have := H.lt; exact (H.alloc _).setRow (by omega) _
theorem cell_pb {b n : Nat} {s : Nat → Int} (H : PB w b n s) : PB w' b n s := by rw [← h]; have := H.lt; exact (H.alloc _).setRow (by omega) _
theorem cell_mem {f : Fr} (H : f.Mem w) : f.Mem w' := ⟨H.hc, H.hr, cell_pb h H.y, cell_pb h H.u, cell_pb h H.v, H.yu, H.yv, H.uv⟩
theorem cell_below {B : Nat} {a : World} (H : Below B a w) (hB : B ≤ w.heap.size) : Below B a w' := by rw [← h]; exact below_setRow (H.alloc hB _) hB _
end
end Go.Proofs.Ytbldgpemocnboaa

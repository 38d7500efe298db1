/- plane.Frame's Planes, walked. -/
import Derived.Test.YtbldgpemocnboaaFr6
namespace Go.Proofs.Ytbldgpemocnboaa
open Go.RowKit
attribute [local go_sem ↓] run_imax run_imin

abbrev PL3 : TypeId := 48
def Fr.planes (f : Fr) : Array Value := #[.int .i64 (16 * (f.c : Int)), .int .i64 (16 * (f.r : Int)), .slice (some ⟨f.bY, 0, none⟩) (16 * f.c * (16 * f.r)) f.cY,
  .int .i64 (8 * (f.c : Int)), .int .i64 (8 * (f.r : Int)), .slice (some ⟨f.bU, 0, none⟩) (8 * f.c * (8 * f.r)) f.cU, .int .i64 (8 * (f.c : Int)), .int .i64 (8 * (f.r : Int)), .slice (some ⟨f.bV, 0, none⟩) (8 * f.c * (8 * f.r)) f.cV]

set_option maxHeartbeats 2000000 in
theorem planes_any (f : Fr) (w : World) :
    Calls Try.prog 37 #[f.val] w fun e w' => e = .returned (.agg f.planes) ∧ Below w.heap.size w w' := by
  unfold Fr.val Fr.cells
  go_enter Try.func37, Try.ntmps37
  go_wp2_with fail
  exact bodyPost_ret (results_cell_row rfl _ _ (w.heap.size + 1) _ f.planes (0, 0) _ rfl (Ob.new_at _ _ (by simp)) Try.underlying48 rfl (by kernel_rfl)) rfl ⟨rfl, by ((repeat (first | exact Below.refl _ _ | assumption | refine Below.setCell ?_ (by first | omega | (simp; done) | (simp; omega)) _ | refine Below.alloc ?_ (by first | omega | (simp; done) | (simp; omega)) _ | refine below_drewN ?_ _ | refine Below.drew ?_ | refine below_setRow ?_ (by first | omega | (simp; done) | (simp; omega)) _)))⟩
end Go.Proofs.Ytbldgpemocnboaa

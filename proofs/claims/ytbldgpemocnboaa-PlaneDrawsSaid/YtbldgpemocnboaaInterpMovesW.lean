/- The walk of the law InterpMoves: true at every input. -/
import Derived.Test.YtbldgpemocnboaaMv1
import Derived.Test.YtbldgpemocnboaaIv5
import Derived.Test.YtbldgpemocnboaaCell
namespace Go.Proofs.Ytbldgpemocnboaa
open Go.RowKit Go.Sort
attribute [local go_sem ↓] run_imax run_imin

theorem mv_at {W H : Nat} {s : Nat → Int} {dx dy x y : Int} (hx : 0 ≤ x) (hx2 : x < W) (hy : 0 ≤ y) (hy2 : y < H) : plAt W H (mvS W H s dx dy) x y = plAt W H s (x - dx) (y - dy) := by
  obtain ⟨a, rfl⟩ : ∃ a : Nat, x = (a : Int) := ⟨x.toNat, by omega⟩
  obtain ⟨b, rfl⟩ : ∃ b : Nat, y = (b : Int) := ⟨y.toNat, by omega⟩
  have e : plAt W H (mvS W H s dx dy) a b = mvS W H s dx dy (b * W + a) := by
    unfold plAt; rw [if_neg (by omega), cl_in hx hx2, cl_in hy hy2]; simp
  rw [e]
  unfold mvS
  have e1 : (b * W + a) % W = a := by rw [Nat.mul_comm, Nat.mul_add_mod]; exact Nat.mod_eq_of_lt (by omega)
  have e2 : (b * W + a) / W = b := by rw [Nat.mul_comm, Nat.mul_add_div (by omega), Nat.div_eq_of_lt (by omega)]; rfl
  rw [e1, e2]
theorem ip_moved {W H : Nat} {s : Nat → Int} {u v i j : Int} {d : Bool} (h1 : 0 ≤ i / 2 + u) (h2 : i / 2 + u + 1 < W) (h3 : 0 ≤ j / 2 + v) (h4 : j / 2 + v + 1 < H) :
    ipAt W H (mvS W H s u v) (i + 2 * u) (j + 2 * v) d = ipAt W H s i j d := by
  have e1 : (i + 2 * u) / 2 = i / 2 + u := by omega
  have e2 : (i + 2 * u) % 2 = i % 2 := by omega
  have e3 : (j + 2 * v) / 2 = j / 2 + v := by omega
  have e4 : (j + 2 * v) % 2 = j % 2 := by omega
  have g1 : i / 2 + u + 1 - u = i / 2 + 1 := by omega
  have g2 : j / 2 + v + 1 - v = j / 2 + 1 := by omega
  unfold ipAt
  rw [e1, e2, e3, e4, mv_at h1 (by omega) h3 (by omega), mv_at (x := i / 2 + u + 1) (by omega) h2 h3 (by omega), mv_at (y := j / 2 + v + 1) h1 (by omega) (by omega) h4, mv_at (x := i / 2 + u + 1) (y := j / 2 + v + 1) (by omega) h2 (by omega) h4, g1, g2, Int.add_sub_cancel, Int.add_sub_cancel]

end Go.Proofs.Ytbldgpemocnboaa

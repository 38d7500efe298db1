/- plane.Far, walked. -/
import Derived.Test.YtbldgpemocnboaaSameAt
import Derived.Test.YtbldgpemocnboaaGrw
namespace Go.Proofs.Ytbldgpemocnboaa
open Go.RowKit Go.Sort

theorem run_imax3 {P : Program} {w : World} (ts : Array TypeId) (t : TypeId) (k k' k'' : IntKind) (x y z : Int) : (Builtin.max_ ts t #[.int k x, .int k' y, .int k'' z]).run P w = .ok (.int k (imax (imax x y) z)) w := by
  have e : (Builtin.max_ ts t #[.int k x, .int k' y, .int k'' z]).run P w = (Builtin.max_ ts t #[.int k (imax x y), .int k'' z]).run P w := by
    simp [Builtin.max_, Builtin.max2, imax]
  rw [e, run_imax]
attribute [local go_sem ↓] run_imax run_imin run_imax3

/-- How far two rows of numbers are from each other, from s on. -/
def farIn (p q : Nat → Int) (s : Int) : Nat → Int
  | 0 => s
  | j + 1 => imax (imax (farIn p q s j) (p j - q j)) (q j - p j)
def farK (f g : Fr) (mb : Nat) : Nat → Int
  | 0 => 0
  | k + 1 => farIn (mbF f mb k) (mbF g mb k) (farK f g mb k) 64
theorem farIn_bd {p q : Nat → Int} {s : Int} (hs : 0 ≤ s ∧ s ≤ 255) (hp : ∀ i, 0 ≤ p i ∧ p i ≤ 255) (hq : ∀ i, 0 ≤ q i ∧ q i ≤ 255) (j : Nat) : 0 ≤ farIn p q s j ∧ farIn p q s j ≤ 255 := by
  induction j with
  | zero => exact hs
  | succ j ih =>
    have := hp j; have := hq j
    unfold farIn; rw [imax_eq, imax_eq]; omega
theorem farK_bd {f g : Fr} {w : World} (hM : f.Mem w) (hG : g.Mem w) (mb k : Nat) : 0 ≤ farK f g mb k ∧ farK f g mb k ≤ 255 := by
  induction k with
  | zero => unfold farK; omega
  | succ k ih => exact farIn_bd ih (mbF_bd hM mb k) (mbF_bd hG mb k) 64

abbrev A64 : TypeId := 27
end Go.Proofs.Ytbldgpemocnboaa

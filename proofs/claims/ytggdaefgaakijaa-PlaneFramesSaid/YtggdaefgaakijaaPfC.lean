/- What Check says of a new frame (printed by wip/tools/pframes.py). -/
import Derived.Test.YtggdaefgaakijaaFr9
import Derived.Test.YtggdaefgaakijaaStr
import Derived.Test.YtggdaefgaakijaaFrRe
namespace Go.Proofs.Ytggdaefgaakijaa
open Go.RowKit Go.Sort
attribute [local go_sem ↓] run_imax run_imin

theorem check_new (c r : Nat) (b1 b2 b3 : Nat) (v : Int) (w : World) (hc : c ≤ 8) (hr : r ≤ 8) :
    Calls Try.prog 43 #[.agg (frFlat c r b1 b2 b3 v).cells] w fun e w' => e = .returned (.int .i64 (if 0 < c ∧ 0 < r then 0 else 6)) ∧ Below w.heap.size w w' := by
  by_cases h : 0 < c ∧ 0 < r
  · rw [if_pos h]; exact check_ok (frFlat c r b1 b2 b3 v) w h.1 hc h.2 hr
  · rw [if_neg h]; exact check_size _ _ _ _ _ _ _ _ _ _ _ w (by show (c : Int) < 1 ∨ 8 < (c : Int) ∨ (r : Int) < 1 ∨ 8 < (r : Int); omega)
def pl3Z : Array Value := #[.int .i64 0, .int .i64 0, .slice none 0 0, .int .i64 0, .int .i64 0, .slice none 0 0, .int .i64 0, .int .i64 0, .slice none 0 0]

end Go.Proofs.Ytggdaefgaakijaa

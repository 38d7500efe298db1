/- The walk of the law PlaneFrames: true at every input. -/
import Derived.Test.YtggdaefgaakijaaPlaneFramesW1
import Derived.Test.YtggdaefgaakijaaPlaneFramesW2
import Derived.Test.YtggdaefgaakijaaPlaneFramesW3
namespace Go.Proofs.Ytggdaefgaakijaa
open Go.RowKit Go.Sort

theorem planeFrames_walk (co ro ki a b c sd : Int) (p : Option Addr) (n m : Nat) (sl : Nat → Int) (cols rows mbn kn bent : Int) (w : World) (hw : SmallW co ro ki a b c sd n sl) (hn : n ≤ maxLen) (hS : SL w p n (u8v sl))
    (hmn : 0 ≤ mbn ∧ mbn ≤ 255) (hkn : 0 ≤ kn ∧ kn ≤ 255) (hbe : 0 ≤ bent ∧ bent ≤ 255) :
    Calls Try.prog 10 #[.int .i64 cols, .int .i64 rows, smV co ro ki a b c sd p n m, .int .u8 mbn, .int .u8 kn, .int .u8 bent] w fun e w' => e = .returned (.bool true) ∧ Below w.heap.size w w' := by
  have h3 : (0 < imin (imax cols 0) 8 ∧ 0 < imin (imax rows 0) 8) ∨ imin (imax cols 0) 8 = 0 ∨ 0 < imin (imax cols 0) 8 ∧ imin (imax rows 0) 8 = 0 := by
    simp only [imin_eq, imax_eq]; omega
  rcases h3 with k | k | k
  · exact planeFrames_walk1 co ro ki a b c sd p n m sl cols rows mbn kn bent w hw hn hS hmn hkn hbe k
  · exact planeFrames_walk2 co ro ki a b c sd p n m sl cols rows mbn kn bent w hw hn hS hmn hkn hbe k
  · exact planeFrames_walk3 co ro ki a b c sd p n m sl cols rows mbn kn bent w hw hn hS hmn hkn hbe k
end Go.Proofs.Ytggdaefgaakijaa

/- What comp.Predict makes: plain laws. -/
import Derived.Test.YtbldgpemocnboaaVec
import Derived.Test.YtbldgpemocnboaaIv
import Derived.Test.YtbldgpemocnboaaMb
import Derived.Test.YtbldgpemocnboaaArr
namespace Go.Proofs.Ytbldgpemocnboaa
open Go.RowKit

/-- A block's vector; the block; all six. -/
def vk (X : Nat → Int) (k : Nat) : Int := if k < 4 then X k else nrst (sum4 X 4)
def predB (f : Fr) (mb : Nat) (X Y : Nat → Int) (d : Bool) (k : Nat) : Nat → Int := ipBlockF (f.pw k) (f.ph k) (f.ps k) (f.px mb k) (f.py mb k) (vk X k) (vk Y k) d
def predF (f : Fr) (mb : Nat) (X Y : Nat → Int) (d : Bool) (q : Nat) : Int := predB f mb X Y d (q / 64) (q % 64)
def predU (k : Nat) (F : Nat → Int) (q : Nat) : Int := if q < 64 * k then F q else 0
theorem vk_bd {X Y : Nat → Int} (h : V4b X Y) (k : Nat) : (-32 ≤ vk X k ∧ vk X k ≤ 32) ∧ (-32 ≤ vk Y k ∧ vk Y k ≤ 32) := by
  have b1 := nrst_bd (sum4_le (X := X) (fun j hj => (h j hj).1) (Nat.le_refl 4))
  have b2 := nrst_bd (sum4_le (X := Y) (fun j hj => (h j hj).2) (Nat.le_refl 4))
  unfold vk
  by_cases h4 : k < 4
  · simp only [if_pos h4]; exact h k h4
  · simp only [if_neg h4]; omega
theorem pred_step {f : Fr} {mb k : Nat} {X Y : Nat → Int} {d : Bool} (q : Nat) : putPart (k * 64) 64 (ival (predB f mb X Y d k)) (ival (predU k (predF f mb X Y d))) q = ival (predU (k + 1) (predF f mb X Y d)) q := by
  unfold putPart ival predU
  by_cases h : k * 64 ≤ q ∧ q < k * 64 + 64
  · rw [if_pos h, if_pos (by omega)]
    unfold predF
    rw [show q / 64 = k by omega, show q % 64 = q - k * 64 by omega]
  · rw [if_neg h]
    by_cases h2 : q < 64 * k
    · rw [if_pos h2, if_pos (by omega)]
    · rw [if_neg h2, if_neg (by omega)]
theorem pred_at (f : Fr) (mb : Nat) (X Y : Nat → Int) (d : Bool) (k : Nat) : (fcells 64 fun j => ival (predF f mb X Y d) (k * 64 + j)) = fcells 64 (ival (predB f mb X Y d k)) :=
  fcells_congr fun j hj => by unfold ival predF; rw [show (k * 64 + j) / 64 = k by omega, show (k * 64 + j) % 64 = j by omega]
theorem ipAt_even (W H : Nat) (s : Nat → Int) (x y : Int) (d : Bool) : ipAt W H s (2 * x) (2 * y) d = plAt W H s x y := by
  unfold ipAt
  rw [if_pos (by omega), show 2 * x / 2 = x by omega, show 2 * y / 2 = y by omega]
theorem sum4_all (x : Int) : sum4 (fun _ => x) 4 = 4 * x := by unfold sum4 sum4 sum4 sum4 sum4; omega
theorem nrst_whole (u : Int) : nrst (sum4 (fun _ => 4 * u) 4) = 2 * u := by rw [sum4_all]; unfold nrst; split <;> omega
/-- By whole samples: what lies there. -/
theorem pred_whole (f : Fr) (mb : Nat) (u v : Int) (d : Bool) (k : Nat) : predB f mb (fun _ => 4 * u) (fun _ => 4 * v) d k =
    blockF (f.pw k) (f.ph k) (f.ps k) (f.px mb k + (if k < 4 then 2 * u else u)) (f.py mb k + (if k < 4 then 2 * v else v)) := by
  funext i
  unfold predB ipBlockF blockF vk
  by_cases h4 : k < 4
  · simp only [if_pos h4]
    rw [show 2 * (f.px mb k + ((i % 8 : Nat) : Int)) + 4 * u = 2 * (f.px mb k + 2 * u + ((i % 8 : Nat) : Int)) by omega, show 2 * (f.py mb k + ((i / 8 : Nat) : Int)) + 4 * v = 2 * (f.py mb k + 2 * v + ((i / 8 : Nat) : Int)) by omega, ipAt_even]
  · simp only [if_neg h4, nrst_whole]
    rw [show 2 * (f.px mb k + ((i % 8 : Nat) : Int)) + 2 * u = 2 * (f.px mb k + u + ((i % 8 : Nat) : Int)) by omega, show 2 * (f.py mb k + ((i / 8 : Nat) : Int)) + 2 * v = 2 * (f.py mb k + v + ((i / 8 : Nat) : Int)) by omega, ipAt_even]
theorem pred_none (f : Fr) (mb : Nat) (d : Bool) (k : Nat) : predB f mb (fun _ => 0) (fun _ => 0) d k = mbF f mb k := by
  have h := pred_whole f mb 0 0 d k
  simp only [Int.mul_zero, ite_self, Int.add_zero] at h
  exact h
end Go.Proofs.Ytbldgpemocnboaa

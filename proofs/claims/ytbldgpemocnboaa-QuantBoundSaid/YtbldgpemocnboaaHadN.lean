/- More plain laws of the sums and differences: linear; sums of squares; a brighter block; a block turned round. -/
import Derived.Test.YtbldgpemocnboaaHadM
namespace Go.Proofs.Ytbldgpemocnboaa
open Go.RowKit

theorem had8_add (a b : Nat → Int) (u : Nat) : had8 (fun j => a j + b j) u = had8 a u + had8 b u := by
  rw [had8_sum, had8_sum, had8_sum, sum8_add]; exact sum8_congr fun j _ => Int.mul_add _ _ _
theorem fwdF_add (f g : Nat → Int) (k : Nat) : fwdF (fun j => f j + g j) k = fwdF f k + fwdF g k := by
  unfold fwdF rowsF
  rw [had_congr (fun j _ => had8_add _ _ _), had8_add]

/-- A sum of the first m. -/
def ssum (g : Nat → Int) : Nat → Int
  | 0 => 0
  | m + 1 => ssum g m + g m
theorem ssum_8 (g : Nat → Int) (y : Nat) : ssum g (8 * y + 8) = ssum g (8 * y) + sum8 (fun x => g (8 * y + x)) := by
  have s : ssum g (8 * y + 8) = ssum g (8 * y) + g (8 * y + 0) + g (8 * y + 1) + g (8 * y + 2) + g (8 * y + 3) + g (8 * y + 4) + g (8 * y + 5) + g (8 * y + 6) + g (8 * y + 7) := rfl
  rw [s]; simp only [sum8]; omega
theorem ssum_64 (g : Nat → Int) : ssum g 64 = sum8 fun y => sum8 fun x => g (8 * y + x) := by
  have h0 := ssum_8 g 0; have h1 := ssum_8 g 1; have h2 := ssum_8 g 2; have h3 := ssum_8 g 3
  have h4 := ssum_8 g 4; have h5 := ssum_8 g 5; have h6 := ssum_8 g 6; have h7 := ssum_8 g 7
  have hz : ssum g (8 * 0) = 0 := rfl
  simp only [Nat.reduceMul, Nat.reduceAdd] at h0 h1 h2 h3 h4 h5 h6 h7 hz
  rw [show (sum8 fun y => sum8 fun x => g (8 * y + x)) = sum8 (fun x => g (8 * 0 + x)) + sum8 (fun x => g (8 * 1 + x)) + sum8 (fun x => g (8 * 2 + x)) + sum8 (fun x => g (8 * 3 + x)) + sum8 (fun x => g (8 * 4 + x)) + sum8 (fun x => g (8 * 5 + x)) + sum8 (fun x => g (8 * 6 + x)) + sum8 (fun x => g (8 * 7 + x)) from rfl]
  simp only [Nat.reduceMul]
  omega

theorem had_squares (a : Nat → Int) : (sum8 fun u => had8 a u * had8 a u) = 8 * sum8 fun j => a j * a j := by
  simp only [sum8, had8, sg]
  simp
  grind
theorem fwd_squares (f : Nat → Int) : ssum (fun k => fwdF f k * fwdF f k) 64 = 64 * ssum (fun k => f k * f k) 64 := by
  rw [ssum_64, ssum_64]
  have e1 : ∀ v, v < 8 → (sum8 fun u => fwdF f (8 * v + u) * fwdF f (8 * v + u)) = sum8 fun u => had8 (fun j => had8 (fun x => f (8 * j + x)) u) v * had8 (fun j => had8 (fun x => f (8 * j + x)) u) v :=
    fun v _ => sum8_congr fun u hu => by rw [fwdF_at f u v hu]
  rw [sum8_congr e1, sum8_comm]
  have e2 : ∀ u, u < 8 → (sum8 fun v => had8 (fun j => had8 (fun x => f (8 * j + x)) u) v * had8 (fun j => had8 (fun x => f (8 * j + x)) u) v) = 8 * sum8 fun j => had8 (fun x => f (8 * j + x)) u * had8 (fun x => f (8 * j + x)) u :=
    fun u _ => had_squares _
  rw [sum8_congr e2, ← sum8_mul, sum8_comm]
  have e3 : ∀ j, j < 8 → (sum8 fun u => had8 (fun x => f (8 * j + x)) u * had8 (fun x => f (8 * j + x)) u) = 8 * sum8 fun x => f (8 * j + x) * f (8 * j + x) :=
    fun j _ => had_squares _
  rw [sum8_congr e3, ← sum8_mul]
  omega

theorem fwd_ones : ∀ k, k < 64 → fwdF (fun _ => 1) k = if k = 0 then 64 else 0 := by decide +kernel
theorem fwd_shift (f : Nat → Int) (c : Int) (k : Nat) (hk : k < 64) : fwdF (fun j => f j + c) k = if k = 0 then fwdF f k + 64 * c else fwdF f k := by
  have h1 := fwdF_add f (fun _ => c) k
  have h2 := fwdF_scale c (fun _ => 1) k
  simp only [Int.mul_one] at h2
  rw [h1, h2, fwd_ones k hk]
  split <;> omega

theorem had_turn (b : Nat → Int) (u : Nat) (hu : u < 8) : had8 (fun x => b (7 - x)) u = if u % 2 = 1 then -had8 b u else had8 b u := by
  have h : u = 0 ∨ u = 1 ∨ u = 2 ∨ u = 3 ∨ u = 4 ∨ u = 5 ∨ u = 6 ∨ u = 7 := by omega
  rcases h with rfl | rfl | rfl | rfl | rfl | rfl | rfl | rfl <;> (simp [had8, sg]; omega)
theorem fwd_turn (f : Nat → Int) (k : Nat) : fwdF (fun i => f (i / 8 * 8 + 7 - i % 8)) k = if k % 2 = 1 then -fwdF f k else fwdF f k := by
  have h1 := fwdF_at (fun i => f (i / 8 * 8 + 7 - i % 8)) (k % 8) (k / 8) (by omega)
  have h2 := fwdF_at f (k % 8) (k / 8) (by omega)
  rw [show 8 * (k / 8) + k % 8 = k by omega] at h1 h2
  rw [h1, h2]
  have e : ∀ j, j < 8 → had8 (fun x => f ((8 * j + x) / 8 * 8 + 7 - (8 * j + x) % 8)) (k % 8) = (if k % 2 = 1 then -1 else 1) * had8 (fun x => f (8 * j + x)) (k % 8) := by
    intro j hj
    have e1 : had8 (fun x => f ((8 * j + x) / 8 * 8 + 7 - (8 * j + x) % 8)) (k % 8) = had8 (fun x => (fun y => f (8 * j + y)) (7 - x)) (k % 8) :=
      had_congr (fun x hx => by
        show f _ = f _
        congr 1; omega) _
    refine (e1.trans (had_turn (fun y => f (8 * j + y)) (k % 8) (by omega))).trans ?_
    by_cases h : k % 2 = 1
    · rw [if_pos (by omega), if_pos h]; omega
    · rw [if_neg (by omega), if_neg h]; omega
  rw [had_congr e, had8_scale]
  split <;> omega
end Go.Proofs.Ytbldgpemocnboaa

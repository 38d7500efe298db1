/- The plain laws of the sums and differences: no program in sight. The document's sums are the fast ones; there and back is the identity; sums of squares; shifts; turns. -/
import Derived.Test.YtbldgpemocnboaaRef2
namespace Go.Proofs.Ytbldgpemocnboaa
open Go.RowKit

def sum8 (g : Nat → Int) : Int := g 0 + g 1 + g 2 + g 3 + g 4 + g 5 + g 6 + g 7
theorem sum8_congr {g h : Nat → Int} (e : ∀ j, j < 8 → g j = h j) : sum8 g = sum8 h := by
  unfold sum8
  rw [e 0 (by omega), e 1 (by omega), e 2 (by omega), e 3 (by omega), e 4 (by omega), e 5 (by omega), e 6 (by omega), e 7 (by omega)]
theorem sum8_mul (c : Int) (g : Nat → Int) : c * sum8 g = sum8 fun j => c * g j := by
  simp only [sum8, Int.mul_add]
theorem sum8_add (g h : Nat → Int) : sum8 g + sum8 h = sum8 fun j => g j + h j := by
  simp only [sum8]; omega
theorem sum8_comm (A : Nat → Nat → Int) : (sum8 fun i => sum8 fun j => A i j) = sum8 fun j => sum8 fun i => A i j := by
  simp only [sum8]; omega
theorem had8_sum (a : Nat → Int) (u : Nat) : had8 a u = sum8 fun x => sg u x * a x := rfl
theorem bak8_sum (a : Nat → Int) (x : Nat) : bak8 a x = sum8 fun u => sg u x * a u := rfl

theorem bak_had (a : Nat → Int) (x : Nat) (hx : x < 8) : bak8 (had8 a) x = 8 * a x := by
  have h : x = 0 ∨ x = 1 ∨ x = 2 ∨ x = 3 ∨ x = 4 ∨ x = 5 ∨ x = 6 ∨ x = 7 := by omega
  rcases h with rfl | rfl | rfl | rfl | rfl | rfl | rfl | rfl <;> (simp [bak8, had8, sg]; omega)
theorem had_bak (a : Nat → Int) (x : Nat) (hx : x < 8) : had8 (bak8 a) x = 8 * a x := by
  have h : x = 0 ∨ x = 1 ∨ x = 2 ∨ x = 3 ∨ x = 4 ∨ x = 5 ∨ x = 6 ∨ x = 7 := by omega
  rcases h with rfl | rfl | rfl | rfl | rfl | rfl | rfl | rfl <;> (simp [bak8, had8, sg]; omega)
theorem had_congr {a b : Nat → Int} (e : ∀ j, j < 8 → a j = b j) (u : Nat) : had8 a u = had8 b u := by
  rw [had8_sum, had8_sum]; exact sum8_congr fun j hj => by rw [e j hj]
theorem bak_congr {a b : Nat → Int} (e : ∀ j, j < 8 → a j = b j) (u : Nat) : bak8 a u = bak8 b u := by
  rw [bak8_sum, bak8_sum]; exact sum8_congr fun j hj => by rw [e j hj]

theorem fwdF_at (f : Nat → Int) (u v : Nat) (hu : u < 8) : fwdF f (8 * v + u) = had8 (fun j => had8 (fun x => f (8 * j + x)) u) v := by
  unfold fwdF rowsF
  rw [show (8 * v + u) % 8 = u by omega, show (8 * v + u) / 8 = v by omega]
  refine had_congr (fun j hj => ?_) v
  show had8 (fun x => f (8 * ((8 * u + j) % 8) + x)) ((8 * u + j) / 8) = _
  rw [show (8 * u + j) % 8 = j by omega, show (8 * u + j) / 8 = u by omega]
theorem bbF_at (f : Nat → Int) (x y : Nat) (hx : x < 8) : backF (backF f) (8 * y + x) = bak8 (fun j => bak8 (fun u => f (8 * j + u)) x) y := by
  unfold backF
  rw [show (8 * y + x) % 8 = x by omega, show (8 * y + x) / 8 = y by omega]
  refine bak_congr (fun j hj => ?_) y
  show bak8 (fun u => f (8 * ((8 * x + j) % 8) + u)) ((8 * x + j) / 8) = _
  rw [show (8 * x + j) % 8 = j by omega, show (8 * x + j) / 8 = x by omega]

theorem rsum_8 (f : Nat → Int) (u v y : Nat) : rsum f u v (8 * y + 8) = rsum f u v (8 * y) + sg v y * had8 (fun x => f (8 * y + x)) u := by
  have e : ∀ x, x < 8 → rterm f u v (8 * y + x) = sg v y * (sg u x * f (8 * y + x)) := fun x hx => by
    unfold rterm
    rw [show (8 * y + x) % 8 = x by omega, show (8 * y + x) / 8 = y by omega, Int.mul_comm, Int.mul_comm (f _)]
  have s : rsum f u v (8 * y + 8) = rsum f u v (8 * y) + rterm f u v (8 * y + 0) + rterm f u v (8 * y + 1) + rterm f u v (8 * y + 2) + rterm f u v (8 * y + 3) + rterm f u v (8 * y + 4) + rterm f u v (8 * y + 5) + rterm f u v (8 * y + 6) + rterm f u v (8 * y + 7) := rfl
  rw [s, had8_sum, sum8_mul, e 0 (by omega), e 1 (by omega), e 2 (by omega), e 3 (by omega), e 4 (by omega), e 5 (by omega), e 6 (by omega), e 7 (by omega)]
  simp only [sum8]; omega
theorem rsum_64 (f : Nat → Int) (u v : Nat) : rsum f u v 64 = had8 (fun y => had8 (fun x => f (8 * y + x)) u) v := by
  have h0 := rsum_8 f u v 0; have h1 := rsum_8 f u v 1; have h2 := rsum_8 f u v 2; have h3 := rsum_8 f u v 3
  have h4 := rsum_8 f u v 4; have h5 := rsum_8 f u v 5; have h6 := rsum_8 f u v 6; have h7 := rsum_8 f u v 7
  have hz : rsum f u v (8 * 0) = 0 := rfl
  simp only [Nat.reduceMul, Nat.reduceAdd] at h0 h1 h2 h3 h4 h5 h6 h7 hz
  rw [had8_sum]; simp only [sum8]
  try simp only [Nat.reduceMul]
  omega
theorem isum_8 (f : Nat → Int) (u v y : Nat) : isum f u v (8 * y + 8) = isum f u v (8 * y) + sg y v * bak8 (fun x => f (8 * y + x)) u := by
  have e : ∀ x, x < 8 → iterm f u v (8 * y + x) = sg y v * (sg x u * f (8 * y + x)) := fun x hx => by
    unfold iterm
    rw [show (8 * y + x) % 8 = x by omega, show (8 * y + x) / 8 = y by omega, Int.mul_comm, Int.mul_comm (f _)]
  have s : isum f u v (8 * y + 8) = isum f u v (8 * y) + iterm f u v (8 * y + 0) + iterm f u v (8 * y + 1) + iterm f u v (8 * y + 2) + iterm f u v (8 * y + 3) + iterm f u v (8 * y + 4) + iterm f u v (8 * y + 5) + iterm f u v (8 * y + 6) + iterm f u v (8 * y + 7) := rfl
  rw [s, bak8_sum, sum8_mul, e 0 (by omega), e 1 (by omega), e 2 (by omega), e 3 (by omega), e 4 (by omega), e 5 (by omega), e 6 (by omega), e 7 (by omega)]
  simp only [sum8]; omega
theorem isum_64 (f : Nat → Int) (u v : Nat) : isum f u v 64 = 32 + bak8 (fun y => bak8 (fun x => f (8 * y + x)) u) v := by
  have h0 := isum_8 f u v 0; have h1 := isum_8 f u v 1; have h2 := isum_8 f u v 2; have h3 := isum_8 f u v 3
  have h4 := isum_8 f u v 4; have h5 := isum_8 f u v 5; have h6 := isum_8 f u v 6; have h7 := isum_8 f u v 7
  have hz : isum f u v (8 * 0) = 32 := rfl
  simp only [Nat.reduceMul, Nat.reduceAdd] at h0 h1 h2 h3 h4 h5 h6 h7 hz
  rw [bak8_sum]; simp only [sum8]
  try simp only [Nat.reduceMul]
  omega

/-- P7.1: the document's sums and back are the program's. -/
theorem reff_eq (f : Nat → Int) (k : Nat) : reff f k = fwdF f k := by
  have h := fwdF_at f (k % 8) (k / 8) (by omega)
  rw [show 8 * (k / 8) + k % 8 = k by omega] at h
  rw [h]; exact rsum_64 f _ _
theorem invr_eq (f : Nat → Int) (k : Nat) : invr f k = invF f k := by
  have h := bbF_at f (k % 8) (k / 8) (by omega)
  rw [show 8 * (k / 8) + k % 8 = k by omega] at h
  unfold invr invF
  rw [h, isum_64, Int.add_comm]

/-- There and back. -/
theorem bb_fwd (f : Nat → Int) (k : Nat) (hk : k < 64) : backF (backF (fwdF f)) k = 64 * f k := by
  have h := bbF_at (fwdF f) (k % 8) (k / 8) (by omega)
  rw [show 8 * (k / 8) + k % 8 = k by omega] at h
  rw [h]
  have e1 : ∀ j, j < 8 → bak8 (fun u => fwdF f (8 * j + u)) (k % 8) = had8 (fun y => 8 * f (8 * y + k % 8)) j := by
    intro j hj
    have e2 : bak8 (fun u => fwdF f (8 * j + u)) (k % 8) = bak8 (fun u => had8 (fun y => had8 (fun x => f (8 * y + x)) u) j) (k % 8) := bak_congr (fun u hu => fwdF_at f u j hu) _
    rw [e2, bak8_sum]
    simp only [had8_sum _ j, sum8_mul]
    rw [sum8_comm]
    refine sum8_congr fun y hy => ?_
    have e3 := bak_had (fun x => f (8 * y + x)) (k % 8) (by omega)
    rw [bak8_sum] at e3
    rw [← e3, sum8_mul]
    exact sum8_congr fun u _ => by rw [Int.mul_left_comm]
  rw [bak_congr e1]
  have e4 := bak_had (fun y => 8 * f (8 * y + k % 8)) (k / 8) (by omega)
  rw [show bak8 (fun j => had8 (fun y => 8 * f (8 * y + k % 8)) j) (k / 8) = bak8 (had8 (fun y => 8 * f (8 * y + k % 8))) (k / 8) from rfl, e4]
  simp only [show 8 * (k / 8) + k % 8 = k by omega]
  omega
theorem inv_fwd (f : Nat → Int) (k : Nat) (hk : k < 64) : invF (fwdF f) k = f k := by
  unfold invF; rw [bb_fwd f k hk]; omega

/-- Back and there, of sums that are multiples of 64. -/
theorem fwd_bb (f : Nat → Int) (k : Nat) (hk : k < 64) : fwdF (backF (backF f)) k = 64 * f k := by
  have h := fwdF_at (backF (backF f)) (k % 8) (k / 8) (by omega)
  rw [show 8 * (k / 8) + k % 8 = k by omega] at h
  rw [h]
  have e1 : ∀ j, j < 8 → had8 (fun x => backF (backF f) (8 * j + x)) (k % 8) = bak8 (fun v => 8 * f (8 * v + k % 8)) j := by
    intro j hj
    have e2 : had8 (fun x => backF (backF f) (8 * j + x)) (k % 8) = had8 (fun x => bak8 (fun v => bak8 (fun u => f (8 * v + u)) x) j) (k % 8) := had_congr (fun x hx => bbF_at f x j hx) _
    rw [e2, had8_sum]
    simp only [bak8_sum _ j, sum8_mul]
    rw [sum8_comm]
    refine sum8_congr fun v hv => ?_
    have e3 := had_bak (fun u => f (8 * v + u)) (k % 8) (by omega)
    rw [had8_sum] at e3
    rw [← e3, sum8_mul]
    exact sum8_congr fun u _ => by rw [Int.mul_left_comm]
  rw [had_congr e1]
  have e4 := had_bak (fun v => 8 * f (8 * v + k % 8)) (k / 8) (by omega)
  rw [show had8 (fun j => bak8 (fun v => 8 * f (8 * v + k % 8)) j) (k / 8) = had8 (bak8 (fun v => 8 * f (8 * v + k % 8))) (k / 8) from rfl, e4]
  simp only [show 8 * (k / 8) + k % 8 = k by omega]
  omega
theorem had8_scale (c : Int) (a : Nat → Int) (u : Nat) : had8 (fun j => c * a j) u = c * had8 a u := by
  rw [had8_sum, had8_sum, sum8_mul]; exact sum8_congr fun j _ => Int.mul_left_comm _ _ _
theorem bak8_scale (c : Int) (a : Nat → Int) (u : Nat) : bak8 (fun j => c * a j) u = c * bak8 a u := by
  rw [bak8_sum, bak8_sum, sum8_mul]; exact sum8_congr fun j _ => Int.mul_left_comm _ _ _
theorem fwdF_scale (c : Int) (f : Nat → Int) (k : Nat) : fwdF (fun j => c * f j) k = c * fwdF f k := by
  unfold fwdF rowsF
  rw [had_congr (fun j _ => had8_scale c _ _), had8_scale]
theorem bb_scale (c : Int) (f : Nat → Int) (k : Nat) : backF (backF (fun j => c * f j)) k = c * backF (backF f) k := by
  unfold backF
  rw [bak_congr (fun j _ => bak8_scale c _ _), bak8_scale]
theorem fwdF_congr {f g : Nat → Int} (e : ∀ j, j < 64 → f j = g j) (k : Nat) (_hk : k < 64) : fwdF f k = fwdF g k := by
  unfold fwdF rowsF
  exact had_congr (fun j hj => had_congr (fun x hx => e _ (by omega)) _) _
theorem bb_congr {f g : Nat → Int} (e : ∀ j, j < 64 → f j = g j) (k : Nat) (_hk : k < 64) : backF (backF f) k = backF (backF g) k := by
  unfold backF
  exact bak_congr (fun j hj => bak_congr (fun x hx => e _ (by omega)) _) _
theorem fwd_inv (f g : Nat → Int) (hg : ∀ j, j < 64 → f j = 64 * g j) (k : Nat) (hk : k < 64) : fwdF (invF f) k = f k := by
  have e1 : ∀ j, j < 64 → invF f j = backF (backF g) j := by
    intro j hj
    unfold invF
    rw [bb_congr hg j hj, bb_scale]; omega
  rw [fwdF_congr e1 k hk, fwd_bb g k hk, hg k hk]
end Go.Proofs.Ytbldgpemocnboaa

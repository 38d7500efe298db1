/- Walk of had.Sign, for every place and every row from 0 on. -/
import Derived.Test.YtdgdpicfloekeaaHadM
namespace Go.Proofs.Ytdgdpicfloekeaa
open Go.RowKit
attribute [local go_sem ↓] run_imax run_imin

theorem and7_i64 (x : Int) : bits .and .i64 x 7 = x % 8 := by
  unfold bits
  have h1 : (BitVec.ofInt IntKind.i64.bits (7 : Int)).toNat = 7 := by decide
  have h2 : (BitVec.ofInt IntKind.i64.bits x).toNat = (x % 18446744073709551616).toNat := by simp [IntKind.bits]
  simp only [BitVec.toNat_and, h1, h2]
  have h3 : (x % 18446744073709551616).toNat &&& 7 = (x % 18446744073709551616).toNat % 8 := Nat.and_two_pow_sub_one_eq_mod _ 3
  rw [h3, i64_small _ (by omega)]
  omega
theorem and_and7 (o : Nat) (ho : o < 8) (x : Int) : bits .and .i64 (bits .and .i64 (o : Int) x) 7 = ((o &&& (x % 8).toNat : Nat) : Int) := by
  have h0 : (BitVec.ofInt IntKind.i64.bits (o : Int)).toNat = o := by simp [IntKind.bits]; omega
  have h2 : (BitVec.ofInt IntKind.i64.bits x).toNat = (x % 18446744073709551616).toNat := by simp [IntKind.bits]
  have h1 : bits .and .i64 (o : Int) x = ((o &&& (x % 18446744073709551616).toNat : Nat) : Int) := by
    unfold bits
    simp only [BitVec.toNat_and, h0, h2]
    have : o &&& (x % 18446744073709551616).toNat ≤ o := Nat.and_le_left
    exact i64_small _ (by omega)
  rw [h1, show (7 : Int) = ((7 : Nat) : Int) from rfl, bits_and_i64 _ _ (by have : o &&& (x % 18446744073709551616).toNat ≤ o := Nat.and_le_left; omega) (by omega)]
  rw [Nat.and_assoc, show (x % 18446744073709551616).toNat &&& 7 = (x % 18446744073709551616).toNat % 8 from Nat.and_two_pow_sub_one_eq_mod _ 3]
  congr 2
  omega

/-- The sign by the parity of a number below 8. -/
def par (n : Nat) : Int := [1, -1, -1, 1, -1, 1, 1, -1].getD n 1
theorem par_sg : ∀ u, u < 8 → ∀ x, x < 8 → par (ordN u &&& x) = sg u x := by decide

set_option maxRecDepth 100000 in
set_option maxHeartbeats 1000000 in
theorem hsign_any (r x : Int) (w : World) :
    Calls Try.prog 28 #[.int .i64 r, .int .i64 x] w fun e w' => e = .returned (.int .i64 (sg (r % 8).toNat (x % 8).toNat)) ∧ Below w.heap.size w w' := by
  have hr := and7_i64 r
  have ho := ord_lt (r % 8).toNat (by omega)
  have hx := and_and7 (ordN (r % 8).toNat) ho x
  have hs := par_sg (r % 8).toNat (by omega) (x % 8).toNat (by omega)
  have hn : ordN (r % 8).toNat &&& (x % 8).toNat < 8 := by have : ordN (r % 8).toNat &&& (x % 8).toNat ≤ ordN (r % 8).toNat := Nat.and_le_left; omega
  have hix : ∀ W, (Instr.index 52 (.agg (fcells 8 ordV)) (.int .i64 (r % 8))).run Try.prog W = .ok (.int .i64 (ordN (r % 8).toNat)) W := fun W =>
    run_index_fcells W _ _ 8 ordV _ und52 (by kernel_rfl) (by kernel_rfl) (by omega) (by omega)
  rw [← hs]; clear hs
  generalize ordN (r % 8).toNat &&& (x % 8).toNat = n at *
  generalize ordN (r % 8).toNat = o at *
  have h : n = 0 ∨ n = 1 ∨ n = 2 ∨ n = 3 ∨ n = 4 ∨ n = 5 ∨ n = 6 ∨ n = 7 := by omega
  rcases h with rfl | rfl | rfl | rfl | rfl | rfl | rfl | rfl
  all_goals
    go_enter Try.func28, Try.ntmps28
    go_wp2_with fail
    refine (order_any _).mono ?_
    rintro e w1 ⟨rfl, hb1⟩
    go_wp2_with fail
    all_goals first | (go_ret; exact ⟨rfl, hb1⟩) | (rename_i h; exact absurd h (by decide))
end Go.Proofs.Ytdgdpicfloekeaa

/- The walk of the law InterpSpans: true at every input. No condition but that the arguments are ints. -/
import Derived.Test.YtggdaefgaakijaaIv1
namespace Go.Proofs.Ytggdaefgaakijaa
open Go.RowKit
attribute [local go_sem ↓] run_imax run_imin

theorem tmod_bd (n d : Int) (hd : 0 < d) : -d < n.tmod d ∧ n.tmod d < d := by
  have h1 := Int.tmod_lt_of_pos n hd
  have h2 := Int.tmod_lt_of_pos (-n) hd
  rw [Int.neg_tmod] at h2
  omega
theorem tmod2 (n : Int) : n.tmod 2 % 2 = n % 2 := by
  rw [Int.tmod_eq_emod]
  split <;> omega
theorem half_lo (n : Int) : (n - n.tmod 2 % 2).tdiv 2 = n / 2 := by
  rw [tmod2, Int.tdiv_eq_ediv_of_dvd (by omega)]; omega
theorem half_hi (n : Int) : (n + n.tmod 2 % 2).tdiv 2 = (n + 1) / 2 := by
  rw [tmod2, Int.tdiv_eq_ediv_of_dvd (by omega)]; omega

def spCells (a b n c d m : Int) : Array Value := #[.int .i64 a, .int .i64 b, .int .i64 n, .int .i64 c, .int .i64 d, .int .i64 m]

set_option maxRecDepth 100000 in
set_option maxHeartbeats 2000000 in
theorem interpSpans_walk (a0 a1 a2 : Int) (w : World) (h0 : -9223372036854775808 ≤ a0 ∧ a0 ≤ 9223372036854775807) (h1 : -9223372036854775808 ≤ a1 ∧ a1 ≤ 9223372036854775807) (h2 : -9223372036854775808 ≤ a2 ∧ a2 ≤ 9223372036854775807) :
    Calls Try.prog 3 #[.int .i64 a0, .int .i64 a1, .int .i64 a2] w fun e w' => e = .returned (.bool true) ∧ Below w.heap.size w w' := by
  have hand : bits .and .i64 a2 63 = a2 % 64 := bits_and_mask 6 (by omega) a2
  have k1 := tmod_bd a0 100 (by omega)
  have k2 := tmod_bd a1 70 (by omega)
  have k3 : -549755813888 ≤ imin (imax a0 (-549755813888)) 549755813888 ∧ imin (imax a0 (-549755813888)) 549755813888 ≤ 549755813888 := by rw [imin_eq, imax_eq]; omega
  have k4 : -549755813888 ≤ imin (imax a1 (-549755813888)) 549755813888 ∧ imin (imax a1 (-549755813888)) 549755813888 ≤ 549755813888 := by rw [imin_eq, imax_eq]; omega
  have k5 : -549755813888 ≤ imin (imax a2 (-549755813888)) 549755813888 ∧ imin (imax a2 (-549755813888)) 549755813888 ≤ 549755813888 := by rw [imin_eq, imax_eq]; omega
  go_enter Try.func3, Try.ntmps3
  go_wp2_with fail
  refine (awake13 _).mono ?_
  rintro e w1 ⟨rfl, HW⟩
  go_wp2_with fail
  generalize a0.tmod 100 = A at *
  generalize a1.tmod 70 = B at *
  generalize imin (imax a0 (-549755813888)) 549755813888 = C at *
  generalize imin (imax a1 (-549755813888)) 549755813888 = D at *
  generalize imin (imax a2 (-549755813888)) 549755813888 = M at *
  obtain ⟨N, hN, n1, n2⟩ : ∃ N, 1 + a2 % 64 * 8 = N ∧ 0 ≤ N ∧ N ≤ 600 := ⟨_, rfl, by omega, by omega⟩
  rw [hN]
  have HO : Ob (w1.alloc (.cells (spCells A B N C D M) 23)) w1.heap.size 23 (spCells A B N C D M) := Ob.new_at _ _ rfl
  unfold spCells at HO
  replace HW := HW.alloc HW.size (.cells (spCells A B N C D M) 23)
  unfold spCells at HW
  generalize w1.alloc (.cells #[.int .i64 A, .int .i64 B, .int .i64 N, .int .i64 C, .int .i64 D, .int .i64 M] 23) = w2 at *
  clear hand hN
  go_loopw [41] (fun i wr => (i = .int .i64 0 ∨ i = .int .i64 1 ∨ i = .int .i64 2) ∧ Ob wr w1.heap.size 23 (spCells A B N C D M) ∧ Below w.heap.size w wr) (fun i _ => 2 - (intOf i).toNat)
  case atStart => exact ⟨Or.inl rfl, HO, HW⟩
  case round =>
    clear HO HW
    obtain ⟨hi, HO, HW⟩ := hrel
    rcases hi with rfl | rfl | rfl
    · have c0 : wr.cell? ⟨w1.heap.size, 0, none⟩ = some (.int .i64 A) := HO.cell 0 rfl
      have c1 : wr.cell? ⟨w1.heap.size, 1, none⟩ = some (.int .i64 B) := HO.cell 1 rfl
      have c2 : wr.cell? ⟨w1.heap.size, 2, none⟩ = some (.int .i64 N) := HO.cell 2 rfl
      have q1 := half_lo (2 * A + B)
      have q2 := half_hi (2 * A + B + 14)
      obtain ⟨r1, r2⟩ := tmod_bd (2 * A + B) 2 (by omega)
      obtain ⟨r3, r4⟩ := tmod_bd (2 * A + B + 14) 2 (by omega)
      have q3 : (2 * A + B + 14 + 1) / 2 = (2 * A + B) / 2 + 7 + B % 2 := by omega
      rw [q3] at q2
      clear q3
      go_wp2_with fail
      go_quiet (fail)
      go_wp2_with (go_at_call 16; (with_reducible refine (span_any _ _ _ _ (by omega) (by omega) (by omega) (by omega) (by omega) (by omega)).mono ?_); rintro e w' ⟨rfl, rfl⟩; unfold spanLo spanHi)
      exact ⟨⟨Or.inr (Or.inl rfl), (HO.alloc _).drewN _, below_drewN (HW.alloc HW.size _) _⟩, by simp [intOf]⟩
    · have c0 : wr.cell? ⟨w1.heap.size, 3, none⟩ = some (.int .i64 C) := HO.cell 3 rfl
      have c1 : wr.cell? ⟨w1.heap.size, 4, none⟩ = some (.int .i64 D) := HO.cell 4 rfl
      have c2 : wr.cell? ⟨w1.heap.size, 5, none⟩ = some (.int .i64 M) := HO.cell 5 rfl
      have q1 := half_lo (2 * C + D)
      have q2 := half_hi (2 * C + D + 14)
      obtain ⟨r1, r2⟩ := tmod_bd (2 * C + D) 2 (by omega)
      obtain ⟨r3, r4⟩ := tmod_bd (2 * C + D + 14) 2 (by omega)
      have q3 : (2 * C + D + 14 + 1) / 2 = (2 * C + D) / 2 + 7 + D % 2 := by omega
      rw [q3] at q2
      clear q3
      go_wp2_with fail
      go_quiet (fail)
      go_wp2_with (go_at_call 16; (with_reducible refine (span_any _ _ _ _ (by omega) (by omega) (by omega) (by omega) (by omega) (by omega)).mono ?_); rintro e w' ⟨rfl, rfl⟩; unfold spanLo spanHi)
      exact ⟨⟨Or.inr (Or.inr rfl), (HO.alloc _).drewN _, below_drewN (HW.alloc HW.size _) _⟩, by simp [intOf]⟩
    · go_wp2_with fail
      go_ret
      exact ⟨rfl, HW⟩
end Go.Proofs.Ytggdaefgaakijaa

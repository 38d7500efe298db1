/- The document's answer of layer 13: Eighth, Colour, Vector, Place, inside, Touches; walked. -/
import Derived.Test.YtbldgpemocnboaaRefM
import Derived.Test.YtbldgpemocnboaaWay
namespace Go.Proofs.Ytbldgpemocnboaa
open Go.RowKit Go.Sort
attribute [local go_sem ↓] run_imax run_imin

theorem nrst_at {n : Int} (h : -128 ≤ n ∧ n ≤ 128) : (n - 8 * nrst n > -4 ∧ n - 8 * nrst n < 4) ∨ (n - 8 * nrst n = 4 ∧ n < 0) ∨ (n - 8 * nrst n = -4 ∧ 0 < n) := by
  unfold nrst; split <;> omega
theorem nrst_not {n k : Int} (hk : k < nrst n) : n - 8 * k ≥ 4 ∧ (n - 8 * k = 4 → 0 ≤ n) := by
  unfold nrst at hk; split at hk <;> omega
set_option maxRecDepth 100000 in
set_option maxHeartbeats 4000000 in
theorem eighth_any (n : Int) (w : World) (h : -128 ≤ n ∧ n ≤ 128) : Calls Try.prog 117 #[.int .i64 n] w fun e w' => e = .returned (.int .i64 (nrst n)) ∧ w' = w := by
  have hb := nrst_bd h
  have hat := nrst_at h
  have hnot := fun k => nrst_not (n := n) (k := k)
  obtain ⟨n1, n2⟩ := h
  obtain ⟨q, hq⟩ : ∃ q, nrst n = q := ⟨_, rfl⟩
  rw [hq] at hb hat ⊢
  simp only [hq] at hnot
  obtain ⟨q1, q2⟩ := hb
  replace hq := Lib.hid hq; replace hat := Lib.hid hat; replace hnot := Lib.hid hnot
  go_enter Try.func117, Try.ntmps117
  go_wp2_with fail
  go_loop [3] (fun t => ∃ k : Int, -64 ≤ k ∧ k ≤ q ∧ t = .int .i64 k) (fun t => (64 - intOf t).toNat)
  case atStart => exact ⟨-64, by omega, by omega, rfl⟩
  case round =>
    obtain ⟨k, hk1, hk2, rfl⟩ := hrel
    have hd : decide (k ≤ 64) = true := by simp; omega
    by_cases hkq : k < q
    · obtain ⟨a1, a2⟩ := hnot.out k hkq
      have d1 : (-4 : Int) < n - 8 * k := by omega
      have d2 : ¬ (n - 8 * k < 4) := by omega
      have d2' : decide (n - 8 * k < 4) = false := by simp; omega
      have d3 : (n - 8 * k == -4) = false := by simp; omega
      by_cases e4 : n - 8 * k = 4
      · have a3 := a2 e4
        have d4 : (n - 8 * k == 4) = true := by simp; omega
        have d5 : ¬ n < 0 := by omega
        have d5' : decide (n < 0) = false := by simp; omega
        clear a1 a2 a3
        replace e4 := Lib.hid e4
        go_wp2_with fail
        go_round
        case rel => exact ⟨k + 1, by omega, by omega, rfl⟩
        case measure => simp [intOf]; omega
      · have d4 : (n - 8 * k == 4) = false := by simp; omega
        clear a1 a2
        replace e4 := Lib.hid e4
        go_wp2_with fail
        go_round
        case rel => exact ⟨k + 1, by omega, by omega, rfl⟩
        case measure => simp [intOf]; omega
    · obtain rfl : k = q := by omega
      rcases hat.out with ⟨b1, b2⟩ | ⟨b1, b2⟩ | ⟨b1, b2⟩
      · have d1 : (-4 : Int) < n - 8 * k := by omega
        have d2 : decide (n - 8 * k < 4) = true := by simp; omega
        go_wp2_with fail
        go_ret
        exact ⟨rfl, rfl⟩
      · have d1 : (-4 : Int) < n - 8 * k := by omega
        have d2 : decide (n - 8 * k < 4) = false := by simp; omega
        have d4 : (n - 8 * k == 4) = true := by simp; omega
        have d5 : decide (n < 0) = true := by simp; omega
        replace b1 := Lib.hid b1
        go_wp2_with fail
        go_ret
        exact ⟨rfl, rfl⟩
      · have d1 : ¬ ((-4 : Int) < n - 8 * k) := by omega
        have d4 : (n - 8 * k == 4) = false := by simp; omega
        have d5 : (n - 8 * k == -4) = true := by simp; omega
        have d6 : (0 : Int) < n := b2
        replace b1 := Lib.hid b1
        go_wp2_with fail
        go_ret
        exact ⟨rfl, rfl⟩
theorem sum4_is (X : Nat → Int) : X 0 + X 1 + X 2 + X 3 = sum4 X 4 := by unfold sum4 sum4 sum4 sum4 sum4; omega
theorem mc_x (al sk : Bool) (qp : Int) (X Y L : Nat → Int) {k : Nat} (h : k < 4) : mcC al sk qp X Y L (3 + k) = .int .i64 (X k) ∧ mcC al sk qp X Y L (7 + k) = .int .i64 (Y k) := by
  unfold mcC
  rw [if_neg (by omega), if_neg (by omega), if_neg (by omega), if_pos (by omega), if_neg (by omega), if_neg (by omega), if_neg (by omega), if_neg (by omega), if_pos (by omega), show 3 + k - 3 = k by omega, show 7 + k - 7 = k by omega]
  exact ⟨rfl, rfl⟩
set_option maxRecDepth 100000 in
set_option maxHeartbeats 4000000 in
theorem refColour_any (al sk : Bool) (qp : Int) (X Y L : Nat → Int) (w : World) (hV : V4b X Y) :
    Calls Try.prog 80 #[.agg (fcells 395 (mcC al sk qp X Y L))] w fun e w' => e = .returned (.tuple #[.int .i64 (nrst (sum4 X 4)), .int .i64 (nrst (sum4 Y 4))]) ∧ Below w.heap.size w w' := by
  have HI : Blk (w.alloc (.cells (fcells 395 (mcC al sk qp X Y L)) M115)) w.heap.size M115 395 (mcC al sk qp X Y L) := Blk.new_at _ _ _ rfl
  have HW : Below w.heap.size w (w.alloc (.cells (fcells 395 (mcC al sk qp X Y L)) M115)) := by ((repeat (first | exact Below.refl _ _ | assumption | refine Below.setCell ?_ (by first | omega | (simp; done) | (simp; omega)) _ | refine Below.alloc ?_ (by first | omega | (simp; done) | (simp; omega)) _ | refine below_drewN ?_ _ | refine Below.drew ?_ | refine below_setRow ?_ (by first | omega | (simp; done) | (simp; omega)) _)))
  have e1 := sum4_le (X := X) (fun j hj => (hV j hj).1) (Nat.le_refl 4)
  have e2 := sum4_le (X := Y) (fun j hj => (hV j hj).2) (Nat.le_refl 4)
  have h1 := fun W => (eighth_any (X 0 + X 1 + X 2 + X 3) W (by rw [sum4_is]; exact e1)).mono (fun e w' h => (⟨h.1, h.2 ▸ Below.refl _ _⟩ : e = .returned (.int .i64 (nrst (X 0 + X 1 + X 2 + X 3))) ∧ Below W.heap.size W w'))
  have h2 := fun W => (eighth_any (Y 0 + Y 1 + Y 2 + Y 3) W (by rw [sum4_is]; exact e2)).mono (fun e w' h => (⟨h.1, h.2 ▸ Below.refl _ _⟩ : e = .returned (.int .i64 (nrst (Y 0 + Y 1 + Y 2 + Y 3))) ∧ Below W.heap.size W w'))
  obtain ⟨⟨a1, a2⟩, b1, b2⟩ := hV 0 (by omega)
  obtain ⟨⟨a3, a4⟩, b3, b4⟩ := hV 1 (by omega)
  obtain ⟨⟨a5, a6⟩, b5, b6⟩ := hV 2 (by omega)
  obtain ⟨⟨a7, a8⟩, b7, b8⟩ := hV 3 (by omega)
  have c0 : ∀ p : Regrown, (Sort.grow (redrawn (w.alloc (.cells (fcells 395 (mcC al sk qp X Y L)) M115)) p.d) p.os).cell? ⟨w.heap.size, 3, none⟩ = some (.int .i64 (X 0)) := fun p => (HI.re p).cell (k := 3) (by omega)
  have c1 : ∀ p : Regrown, (Sort.grow (redrawn (w.alloc (.cells (fcells 395 (mcC al sk qp X Y L)) M115)) p.d) p.os).cell? ⟨w.heap.size, 4, none⟩ = some (.int .i64 (X 1)) := fun p => (HI.re p).cell (k := 4) (by omega)
  have c2 : ∀ p : Regrown, (Sort.grow (redrawn (w.alloc (.cells (fcells 395 (mcC al sk qp X Y L)) M115)) p.d) p.os).cell? ⟨w.heap.size, 5, none⟩ = some (.int .i64 (X 2)) := fun p => (HI.re p).cell (k := 5) (by omega)
  have c3 : ∀ p : Regrown, (Sort.grow (redrawn (w.alloc (.cells (fcells 395 (mcC al sk qp X Y L)) M115)) p.d) p.os).cell? ⟨w.heap.size, 6, none⟩ = some (.int .i64 (X 3)) := fun p => (HI.re p).cell (k := 6) (by omega)
  have c4 : ∀ p : Regrown, (Sort.grow (redrawn (w.alloc (.cells (fcells 395 (mcC al sk qp X Y L)) M115)) p.d) p.os).cell? ⟨w.heap.size, 7, none⟩ = some (.int .i64 (Y 0)) := fun p => (HI.re p).cell (k := 7) (by omega)
  have c5 : ∀ p : Regrown, (Sort.grow (redrawn (w.alloc (.cells (fcells 395 (mcC al sk qp X Y L)) M115)) p.d) p.os).cell? ⟨w.heap.size, 8, none⟩ = some (.int .i64 (Y 1)) := fun p => (HI.re p).cell (k := 8) (by omega)
  have c6 : ∀ p : Regrown, (Sort.grow (redrawn (w.alloc (.cells (fcells 395 (mcC al sk qp X Y L)) M115)) p.d) p.os).cell? ⟨w.heap.size, 9, none⟩ = some (.int .i64 (Y 2)) := fun p => (HI.re p).cell (k := 9) (by omega)
  have c7 : ∀ p : Regrown, (Sort.grow (redrawn (w.alloc (.cells (fcells 395 (mcC al sk qp X Y L)) M115)) p.d) p.os).cell? ⟨w.heap.size, 10, none⟩ = some (.int .i64 (Y 3)) := fun p => (HI.re p).cell (k := 10) (by omega)
  rw [← sum4_is X, ← sum4_is Y]
  replace h1 := Lib.hid h1; replace h2 := Lib.hid h2
  generalize X 0 = x0 at *; generalize X 1 = x1 at *; generalize X 2 = x2 at *; generalize X 3 = x3 at *
  generalize Y 0 = y0 at *; generalize Y 1 = y1 at *; generalize Y 2 = y2 at *; generalize Y 3 = y3 at *
  clear e1 e2 hV
  go_enter Try.func80, Try.ntmps80
  go_wp2_with fail
  refine wp_region_quiet_below (by kernel_rfl) (by kernel_rfl) ?_
  repeat (go_big_quiet_step (first | (go_at_call 117; with_reducible exact Calls.regrown_of (h1.out _)) | (go_at_call 117; with_reducible exact Calls.regrown_of (h2.out _))))
  refine wpQuiet_nil ?_
  intro wq hwq
  replace hwq := Cls.below hwq
  go_wp2_with fail
  go_ret2
  exact ⟨rfl, below_step HW hwq⟩
set_option maxRecDepth 100000 in
set_option maxHeartbeats 4000000 in
theorem refVector_any (al sk : Bool) (qp : Int) (X Y L : Nat → Int) (k : Nat) (w : World) (hk : k < 6) (hV : V4b X Y) :
    Calls Try.prog 110 #[.agg (fcells 395 (mcC al sk qp X Y L)), .int .i64 (k : Int)] w fun e w' => e = .returned (.tuple #[.int .i64 (vk X k), .int .i64 (vk Y k)]) ∧ Below w.heap.size w w' := by
  have HI : Blk (w.alloc (.cells (fcells 395 (mcC al sk qp X Y L)) M115)) w.heap.size M115 395 (mcC al sk qp X Y L) := Blk.new_at _ _ _ rfl
  have HW : Below w.heap.size w (w.alloc (.cells (fcells 395 (mcC al sk qp X Y L)) M115)) := by ((repeat (first | exact Below.refl _ _ | assumption | refine Below.setCell ?_ (by first | omega | (simp; done) | (simp; omega)) _ | refine Below.alloc ?_ (by first | omega | (simp; done) | (simp; omega)) _ | refine below_drewN ?_ _ | refine Below.drew ?_ | refine below_setRow ?_ (by first | omega | (simp; done) | (simp; omega)) _)))
  unfold vk
  by_cases h4 : k < 4
  · simp only [if_pos h4]
    obtain ⟨m1, m2⟩ := mc_x al sk qp X Y L h4
    have c0 : ∀ p : Regrown, (Sort.grow (redrawn (w.alloc (.cells (fcells 395 (mcC al sk qp X Y L)) M115)) p.d) p.os).cell? ⟨w.heap.size, 3 + k, none⟩ = some (.int .i64 (X k)) := fun p => by rw [← m1]; exact (HI.re p).cell (by omega)
    have c1 : ∀ p : Regrown, (Sort.grow (redrawn (w.alloc (.cells (fcells 395 (mcC al sk qp X Y L)) M115)) p.d) p.os).cell? ⟨w.heap.size, 7 + k, none⟩ = some (.int .i64 (Y k)) := fun p => by rw [← m2]; exact (HI.re p).cell (by omega)
    have hd : decide ((k : Int) < 4) = true := by simp; omega
    have k0 : (0 : Int) ≤ (k : Int) := by omega
    have k1 : (k : Int) < 4 := by omega
    clear m1 m2
    go_enter Try.func110, Try.ntmps110
    go_wp2_with fail
    refine wp_region_quiet_below (by kernel_rfl) (by kernel_rfl) ?_
    repeat (go_big_quiet_step (fail))
    refine wpQuiet_nil ?_
    intro wq hwq
    replace hwq := Cls.below hwq
    go_wp2_with fail
    go_ret2
    exact ⟨rfl, below_step HW hwq⟩
  · simp only [if_neg h4]
    have hd : decide ((k : Int) < 4) = false := by simp; omega
    go_enter Try.func110, Try.ntmps110
    go_wp2_with (refine wpList_load_blkM HI rfl M115 _ rfl rfl Try.underlying115 (by kernel_rfl) ?_)
    refine (refColour_any al sk qp X Y L _ hV).mono ?_
    rintro e w1 ⟨rfl, hb⟩
    go_wp2_with fail
    go_ret2
    exact ⟨rfl, below_step HW hb⟩
set_option maxRecDepth 100000 in
set_option maxHeartbeats 1000000 in
theorem place_any (c r mb k : Nat) (w : World) (h1 : 0 < c) (h2 : c ≤ 8) (hm : mb ≤ 1000000) (hk : k < 6) :
    Calls Try.prog 109 #[.int .i64 (c : Int), .int .i64 (mb : Int), .int .i64 (k : Int)] w fun e w' => e = .returned (.tuple #[.int .i64 ((fz c r).px mb k), .int .i64 ((fz c r).py mb k)]) ∧ Below w.heap.size w w' := by
  obtain ⟨m1, m2, m3, m4⟩ := mb_bd mb c hm
  unfold Fr.px Fr.py fz
  have hk2 : (0 : Int) ≤ k := by omega
  have hk3 : (k : Int) < 6 := by omega
  have hc0 : ((c : Int) == 0) = false := by simp; omega
  have hc1 : (0 : Int) < (c : Int) := by omega
  by_cases h4 : k < 4
  · simp only [if_pos h4]
    have hk1 : decide ((k : Int) < 4) = true := by simp; omega
    go_enter Try.func109, Try.ntmps109
    go_wp2_with fail
    go_quiet (fail)
    go_wp2_with fail
    go_ret2
    exact ⟨rfl, by ((repeat (first | exact Below.refl _ _ | assumption | refine Below.setCell ?_ (by first | omega | (simp; done) | (simp; omega)) _ | refine Below.alloc ?_ (by first | omega | (simp; done) | (simp; omega)) _ | refine below_drewN ?_ _ | refine Below.drew ?_ | refine below_setRow ?_ (by first | omega | (simp; done) | (simp; omega)) _)))⟩
  · simp only [if_neg h4]
    have hk1 : decide ((k : Int) < 4) = false := by simp; omega
    go_enter Try.func109, Try.ntmps109
    go_wp2_with fail
    go_quiet (fail)
    go_wp2_with fail
    go_ret2
    exact ⟨rfl, by ((repeat (first | exact Below.refl _ _ | assumption | refine Below.setCell ?_ (by first | omega | (simp; done) | (simp; omega)) _ | refine Below.alloc ?_ (by first | omega | (simp; done) | (simp; omega)) _ | refine below_drewN ?_ _ | refine Below.drew ?_ | refine below_setRow ?_ (by first | omega | (simp; done) | (simp; omega)) _)))⟩
theorem inside_any (n e : Int) (w : World) (h1 : -1000000 ≤ n ∧ n ≤ 100000000) (h2 : 1 ≤ e ∧ e ≤ 1000) :
    Calls Try.prog 112 #[.int .i64 n, .int .i64 e] w fun r w' => r = .returned (.int .i64 (imin (imax n 0) (e - 1))) ∧ w' = w := by
  obtain ⟨n1, n2⟩ := h1; obtain ⟨e1, e2⟩ := h2
  by_cases h0 : n < 0
  · rw [show imin (imax n 0) (e - 1) = 0 by rw [imin_eq, imax_eq]; omega]
    have d : decide (n < 0) = true := by simpa using h0
    go_enter Try.func112, Try.ntmps112
    go_wp2_with fail
    go_ret
    exact ⟨rfl, rfl⟩
  · have d : decide (n < 0) = false := by simpa using h0
    by_cases h3 : e - 1 < n
    · rw [show imin (imax n 0) (e - 1) = e - 1 by rw [imin_eq, imax_eq]; omega]
      go_enter Try.func112, Try.ntmps112
      go_wp2_with fail
      go_ret
      exact ⟨rfl, rfl⟩
    · rw [show imin (imax n 0) (e - 1) = n by rw [imin_eq, imax_eq]; omega]
      go_enter Try.func112, Try.ntmps112
      go_wp2_with fail
      go_ret
      exact ⟨rfl, rfl⟩
end Go.Proofs.Ytbldgpemocnboaa

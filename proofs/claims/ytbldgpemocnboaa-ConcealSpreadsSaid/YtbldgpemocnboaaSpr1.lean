/- conceal's between, walked: a sample between two rows. -/
import Derived.Test.YtbldgpemocnboaaSpr0
namespace Go.Proofs.Ytbldgpemocnboaa
open Go.RowKit Go.Sort
attribute [local go_sem ↓] run_imax run_imin

theorem mul_bd255 {s z : Int} (hs : 0 ≤ s ∧ s ≤ 255) (h1 : -2097152 ≤ z) (h2 : z ≤ 2097152) : -534773760 ≤ s * z ∧ s * z ≤ 534773760 := by
  have h3 : s * z ≤ s * 2097152 := Int.mul_le_mul_of_nonneg_left h2 hs.1
  have h4 : s * (-2097152) ≤ s * z := Int.mul_le_mul_of_nonneg_left h1 hs.1
  omega
theorem tdiv_bd {n d : Int} (h1 : -1069547520 ≤ n) (h2 : n ≤ 1069547520) : -1069547520 ≤ n.tdiv d ∧ n.tdiv d ≤ 1069547520 := by
  have h := Int.natAbs_tdiv_le_natAbs n d
  omega
set_option maxHeartbeats 2000000 in
theorem conBetween_any (W H b c : Nat) (s : Nat → Int) (x y a e : Int) (w : World) (hW2 : W ≤ 1024) (hH2 : H ≤ 1024) (hP : PB w b (W * H) s)
    (hy : -1048576 ≤ y ∧ y ≤ 1048576) (ha : -1048576 ≤ a ∧ a ≤ 1048576) (he : -1048576 ≤ e ∧ e ≤ 1048576) :
    Calls Try.prog 100 #[plV W H b (W * H) c, .int .i64 x, .int .i64 y, .int .i64 a, .int .i64 e] w fun r w' => r = .returned (.int .i64 (btw W H s x y a e)) ∧ Below w.heap.size w w' := by
  have b1 := plAt_bd hP x a
  have b2 := plAt_bd hP x e
  obtain ⟨y1, y2⟩ := hy; obtain ⟨a1, a2⟩ := ha; obtain ⟨e1, e2⟩ := he
  have HO : Ob (w.alloc (.cells #[.int .i64 (W : Int), .int .i64 (H : Int), .slice (some ⟨b, 0, none⟩) (W * H) c] PLT)) w.heap.size PLT #[.int .i64 (W : Int), .int .i64 (H : Int), .slice (some ⟨b, 0, none⟩) (W * H) c] := Ob.new_at _ _ rfl
  have HW : Below w.heap.size w (w.alloc (.cells #[.int .i64 (W : Int), .int .i64 (H : Int), .slice (some ⟨b, 0, none⟩) (W * H) c] PLT)) := by ((repeat (first | exact Below.refl _ _ | assumption | refine Below.setCell ?_ (by first | omega | (simp; done) | (simp; omega)) _ | refine Below.alloc ?_ (by first | omega | (simp; done) | (simp; omega)) _ | refine below_drewN ?_ _ | refine Below.drew ?_ | refine below_setRow ?_ (by first | omega | (simp; done) | (simp; omega)) _)))
  replace hP := hP.later HW
  have hat := fun z w' (h : PB w' b (W * H) s) => at_any W H b c s x z w' hW2 hH2 h
  unfold plV at hat ⊢
  replace hat := Lib.hid hat
  unfold btw
  by_cases ha : a < 0
  · have d1 : decide (a < 0) = true := by simpa using ha
    by_cases he : e < 0
    · have d2 : decide (e < 0) = true := by simpa using he
      rw [if_pos ⟨ha, he⟩]
      go_enter Try.func100, Try.ntmps100
      go_wp2_with fail
      go_ret
      exact ⟨rfl, HW⟩
    · have d2 : decide (e < 0) = false := by simpa using he
      rw [if_neg (fun h => he h.2), if_pos ha]
      go_enter Try.func100, Try.ntmps100
      go_wp2_with (refine wpList_load_ob HO rfl _ _ rfl rfl Try.underlying41 (by kernel_rfl) ?_)
      generalize w.alloc (.cells #[.int .i64 (W : Int), .int .i64 (H : Int), .slice (some ⟨b, 0, none⟩) (W * H) c] PLT) = w1 at *
      refine (hat.out _ _ hP).mono ?_
      rintro e w2 ⟨rfl, hb⟩
      go_wp2_with fail
      go_ret
      exact ⟨rfl, below_step HW hb⟩
  · have d1 : decide (a < 0) = false := by simpa using ha
    rw [if_neg (fun h => ha h.1), if_neg ha]
    by_cases he : e < 0
    · have d2 : decide (e < 0) = true := by simpa using he
      rw [if_pos he]
      go_enter Try.func100, Try.ntmps100
      go_wp2_with (refine wpList_load_ob HO rfl _ _ rfl rfl Try.underlying41 (by kernel_rfl) ?_)
      generalize w.alloc (.cells #[.int .i64 (W : Int), .int .i64 (H : Int), .slice (some ⟨b, 0, none⟩) (W * H) c] PLT) = w1 at *
      refine (hat.out _ _ hP).mono ?_
      rintro e w2 ⟨rfl, hb⟩
      go_wp2_with fail
      go_ret
      exact ⟨rfl, below_step HW hb⟩
    · have d2 : decide (e < 0) = false := by simpa using he
      rw [if_neg he]
      by_cases h0 : e - a ≤ 0
      · have d3 : decide (e - a ≤ 0) = true := by simpa using h0
        rw [if_pos h0]
        go_enter Try.func100, Try.ntmps100
        go_wp2_with (refine wpList_load_ob HO rfl _ _ rfl rfl Try.underlying41 (by kernel_rfl) ?_)
        generalize w.alloc (.cells #[.int .i64 (W : Int), .int .i64 (H : Int), .slice (some ⟨b, 0, none⟩) (W * H) c] PLT) = w1 at *
        refine (hat.out _ _ hP).mono ?_
        rintro e w2 ⟨rfl, hb⟩
        go_wp2_with fail
        go_ret
        exact ⟨rfl, below_step HW hb⟩
      · have d3 : decide (e - a ≤ 0) = false := by simpa using h0
        have d4 : ((e - a) == 0) = false := by simp; omega
        rw [if_neg h0]
        go_enter Try.func100, Try.ntmps100
        go_wp2_with (refine wpList_load_ob HO rfl _ _ rfl rfl Try.underlying41 (by kernel_rfl) ?_)
        generalize w.alloc (.cells #[.int .i64 (W : Int), .int .i64 (H : Int), .slice (some ⟨b, 0, none⟩) (W * H) c] PLT) = w1 at *
        obtain ⟨m1, m2⟩ := mul_bd255 b1 (z := e - y) (by omega) (by omega)
        obtain ⟨m3, m4⟩ := mul_bd255 b2 (z := y - a) (by omega) (by omega)
        obtain ⟨m5, m6⟩ := tdiv_bd (d := e - a) (show -1069547520 ≤ plAt W H s x a * (e - y) + plAt W H s x e * (y - a) by omega) (by omega)
        have e0 := fun p => (HO.re p).plW
        have e1 := fun p => (HO.re p).plH
        have e2 := fun p => (HO.re p).plS
        refine wp_region_quiet_below (by kernel_rfl) (by kernel_rfl) ?_
        repeat (go_big_quiet_step ((go_at_call 35; with_reducible exact Calls.regrown_of (hat.out _ _ (hP.later (below_regrown _ _ _))))))
        refine wpQuiet_nil ?_
        intro wq hwq
        replace hwq := Cls.below hwq
        go_wp2_with fail
        go_ret
        exact ⟨rfl, below_step HW hwq⟩
end Go.Proofs.Ytbldgpemocnboaa

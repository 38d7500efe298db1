/- Walk of the law HadBack: true at every input. -/
import Derived.Test.YtdgdpicfloekeaaHad5
import Derived.Test.YtdgdpicfloekeaaReg
import Derived.Test.YtdgdpicfloekeaaEq
namespace Go.Proofs.Ytdgdpicfloekeaa
open Go.RowKit
attribute [local go_sem ↓] run_imax run_imin

theorem eq_self28 (f : Nat → Int) (W : World) : (Op.equalIn 10000 28 (.agg (fcells 64 (ival f))) (.agg (fcells 64 (ival f)))).run Try.prog W = .ok true W := by
  have h := run_eq_ints (P := Try.prog) W 28 3 64 .i64 f f und28 (by kernel_rfl) (by kernel_rfl) (by kernel_rfl)
  rw [show ((List.range 64).all fun j => f j == f j) = true by simp] at h
  exact h

set_option maxRecDepth 100000 in
set_option maxHeartbeats 2000000 in
theorem hadBack_walk (f : Nat → Int) (w : World) :
    Calls Try.prog 11 #[.agg (fcells 64 (ival f))] w fun e w' => e = .returned (.bool true) ∧ Below w.heap.size w w' := by
  have hnb := near_bd f
  go_enter Try.func11, Try.ntmps11
  go_wp2_with fail
  refine (awake7 _).mono ?_
  rintro e w1 ⟨rfl, hb1⟩
  have HB : Blk w1 w.heap.size 28 64 (ival f) := (Blk.new_at _ _ _ rfl).below hb1 (by simp)
  have HW : Below w.heap.size w w1 := ((Below.refl _ _).alloc (Nat.le_refl _) _).trans (hb1.mono (by simp))
  clear hb1
  go_wp2_with (refine wpList_load_blk HB rfl _ _ rfl rfl und28 (by kernel_rfl) ?_)
  refine (near_any f _).mono ?_
  rintro e w2 ⟨rfl, hb2⟩
  have HW := HW.trans (hb2.mono HW.size)
  have hge := HW.size
  clear HB hb2
  go_wp2_with (first | (refine wpList_alloc_blk rfl 28 rfl _ _ alloc28 ?_) | (refine wpList_store_blk (Blk.new_at _ _ _ rfl) rfl _ _ _ rfl rfl rfl (by kernel_rfl) (fun j _ => rfl) ?_))
  have HX : Blk ((w2.alloc (.cells (fcells 64 (ival fun _ => 0)) 28)).setRow w2.heap.size (fcells 64 (ival (near f)))) w2.heap.size 28 64 (ival (near f)) := (Blk.new_at _ _ _ rfl).setRow_same rfl
  have HW := below_setRow (HW.alloc HW.size (.cells (fcells 64 (ival fun _ => 0)) 28)) (b := w2.heap.size) HW.size (fcells 64 (ival (near f)))
  generalize ((w2.alloc (.cells (fcells 64 (ival fun _ => 0)) 28)).setRow w2.heap.size (fcells 64 (ival (near f)))) = W3 at *
  generalize w2.heap.size = bx at *
  simp only [Act.put]
  refine wp_region_slots (by kernel_rfl) (by kernel_rfl) [9, 10, 11, 12, 13] (fun L v w' => Blk w' bx 28 64 (ival (near f)) ∧ Below w.heap.size w w' ∧
    (L 0 = true → v 9 = .agg (fcells 64 (ival (near f)))) ∧ (L 1 = true → v 10 = .agg (fcells 64 (ival (fwdF (near f))))) ∧ (L 2 = true → v 11 = .agg (fcells 64 (ival (near f)))) ∧
    (L 3 = true → v 12 = .agg (fcells 64 (ival (near f)))) ∧ (L 4 = true → v 13 = .bool false))
    (fun v => ⟨HX, HW.drew, fun h => (by cases h), fun h => (by cases h), fun h => (by cases h), fun h => (by cases h), fun h => (by cases h)⟩) ?_ ?_
  · intro i o hi L v w' hR hd
    obtain ⟨HX, HW, r0, r1, r2, r3, r4⟩ := hR
    match i, hi with
    | 0, hi =>
      obtain rfl := Option.some.inj hi
      simp only [fill, Act.put, List.setIfInBounds_toArray, List.set_cons_zero, List.set_cons_succ]
      go_wp2_with (refine wpList_load_blk HX rfl _ _ rfl rfl und28 (by kernel_rfl) ?_)
      exact ⟨upd v 9 _, rfl, HX, HW, fun _ => rfl, r1, r2, r3, r4⟩
    | 1, hi =>
      obtain rfl := Option.some.inj hi
      have d0 := r0 (hd ⟨0, .data⟩ (by simp) rfl)
      simp only [fill, Act.put, List.setIfInBounds_toArray, List.set_cons_zero, List.set_cons_succ, d0]
      go_wp2_with fail
      refine (forward_any (near f) _ 1099511627776 (by omega) (fun j _ => hnb j)).mono ?_
      rintro e w'' ⟨rfl, hb⟩
      go_wp2_with fail
      exact ⟨upd (upd v 9 _) 10 _, rfl, HX.below hb HX.lt, HW.trans (hb.mono HW.size), fun _ => rfl, fun _ => rfl, r2, r3, r4⟩
    | 2, hi =>
      obtain rfl := Option.some.inj hi
      have d0 := r1 (hd ⟨1, .data⟩ (by simp) rfl)
      simp only [fill, Act.put, List.setIfInBounds_toArray, List.set_cons_zero, List.set_cons_succ, d0]
      go_wp2_with fail
      refine (inverse_any (fwdF (near f)) _ (64 * 1099511627776) (by omega) (fun j hj => by have := rowsF_bd (rowsF_bd (fun j _ => hnb j)) j hj; unfold fwdF; omega)).mono ?_
      rintro e w'' ⟨rfl, hb⟩
      go_wp2_with fail
      rw [fcells_congr (f := ival (invF (fwdF (near f)))) (g := ival (near f)) (fun j hj => by unfold ival; rw [inv_fwd (near f) j hj])]
      exact ⟨upd (upd v 10 _) 11 _, rfl, HX.below hb HX.lt, HW.trans (hb.mono HW.size), r0, fun _ => rfl, fun _ => rfl, r3, r4⟩
    | 3, hi =>
      obtain rfl := Option.some.inj hi
      simp only [fill, Act.put, List.setIfInBounds_toArray, List.set_cons_zero, List.set_cons_succ]
      go_wp2_with (refine wpList_load_blk HX rfl _ _ rfl rfl und28 (by kernel_rfl) ?_)
      exact ⟨upd v 12 _, rfl, HX, HW, r0, r1, r2, fun _ => rfl, r4⟩
    | 4, hi =>
      obtain rfl := Option.some.inj hi
      have d0 := r2 (hd ⟨2, .data⟩ (by simp) rfl)
      have d1 := r3 (hd ⟨3, .data⟩ (by simp) rfl)
      simp only [fill, Act.put, List.setIfInBounds_toArray, List.set_cons_zero, List.set_cons_succ, d0, d1]
      have hq := eq_self28 (near f)
      go_wp2_with fail
      exact ⟨upd (upd (upd v 11 _) 12 _) 13 _, rfl, HX, HW, r0, r1, fun _ => rfl, fun _ => rfl, fun _ => rfl⟩
    | n + 5, hi => cases hi
  · intro L v w' hL hR
    obtain ⟨HX, HW, -, -, -, -, r4⟩ := hR
    have d0 := r4 (hL 4 (by decide))
    clear r4 hL
    simp only [fill, Act.put, List.setIfInBounds_toArray, List.set_cons_zero, List.set_cons_succ, d0]
    have hH : ∀ j, near f j / 256 * 64 = 64 * (near f j / 256) := fun j => Int.mul_comm _ _
    go_wp2_with fail
    go_loopw [14] (fun i wi => ∃ k : Nat, k ≤ 64 ∧ i = .int .i64 k ∧ Blk wi bx 28 64 (fillV k (ival fun j => near f j / 256 * 64) (ival (near f))) ∧ Below w.heap.size w wi) (fun i _ => 64 - (intOf i).toNat)
    case atStart => exact ⟨0, by omega, rfl, HX.fill_none, HW⟩
    case round =>
      clear HX HW
      obtain ⟨k, hk, rfl, HX, HW⟩ := hrel
      by_cases hk8 : k < 64
      · have c1 : wr.cell? ⟨bx, k, none⟩ = some (.int .i64 (near f k)) := HX.fill_cell hk8
        have f1 := HX.free k
        have b1 := hnb k
        clear hH hnb
        go_wp2_with fail
        exact ⟨⟨k + 1, by omega, by go_num, HX.fill, HW.setCell (p := ⟨bx, k, none⟩) hge _⟩, by simp [intOf]; omega⟩
      · obtain rfl : k = 64 := by omega
        have HX := HX.fill_all
        have hgb : ∀ j, j < 64 → -1099511627776 ≤ near f j / 256 * 64 ∧ near f j / 256 * 64 ≤ 1099511627776 := fun j _ => by have := hnb j; omega
        have hfi := fwd_inv (fun j => near f j / 256 * 64) (fun j => near f j / 256) (fun j _ => hH j)
        have hib : ∀ j, j < 64 → -1099511627777 ≤ invF (fun j => near f j / 256 * 64) j ∧ invF (fun j => near f j / 256 * 64) j ≤ 1099511627777 := fun j hj => by
          have := backF_bd (backF_bd hgb) j hj
          unfold invF; omega
        have key : ∃ g : Nat → Int, (fun j => near f j / 256 * 64) = g ∧ (∀ j, j < 64 → -1099511627776 ≤ g j ∧ g j ≤ 1099511627776) ∧ (∀ j, j < 64 → fwdF (invF g) j = g j) ∧
            (∀ j, j < 64 → -1099511627777 ≤ invF g j ∧ invF g j ≤ 1099511627777) := ⟨_, rfl, hgb, hfi, hib⟩
        clear hH hnb hk8 hgb hfi hib
        obtain ⟨g, hg, hgb, hfi, hib⟩ := key
        rw [hg] at HX; clear hg
        go_wp2_with fail
        refine wp_region_slots (by kernel_rfl) (by kernel_rfl) [25, 26, 27, 28, 29, 2] (fun L v w' => Blk w' bx 28 64 (ival g) ∧ Below w.heap.size w w' ∧
          (L 0 = true → v 25 = .agg (fcells 64 (ival g))) ∧ (L 1 = true → v 26 = .agg (fcells 64 (ival (invF g)))) ∧ (L 2 = true → v 27 = .agg (fcells 64 (ival g))) ∧
          (L 3 = true → v 28 = .agg (fcells 64 (ival g))) ∧ (L 4 = true → v 29 = .bool true) ∧ (L 5 = true → v 2 = .bool true))
          (fun v => ⟨HX, HW.drew, fun h => (by cases h), fun h => (by cases h), fun h => (by cases h), fun h => (by cases h), fun h => (by cases h), fun h => (by cases h)⟩) ?_ ?_
        · intro i o hi L v w' hR hd
          obtain ⟨HX, HW, r0, r1, r2, r3, r4, r5⟩ := hR
          match i, hi with
          | 0, hi =>
            obtain rfl := Option.some.inj hi
            simp only [fill, Act.put, List.setIfInBounds_toArray, List.set_cons_zero, List.set_cons_succ]
            go_wp2_with (refine wpList_load_blk HX rfl _ _ rfl rfl und28 (by kernel_rfl) ?_)
            exact ⟨upd v 25 _, rfl, HX, HW, fun _ => rfl, r1, r2, r3, r4, r5⟩
          | 1, hi =>
            obtain rfl := Option.some.inj hi
            have d0 := r0 (hd ⟨0, .data⟩ (by simp) rfl)
            simp only [fill, Act.put, List.setIfInBounds_toArray, List.set_cons_zero, List.set_cons_succ, d0]
            go_wp2_with fail
            refine (inverse_any g _ 1099511627776 (by omega) hgb).mono ?_
            rintro e w'' ⟨rfl, hb⟩
            go_wp2_with fail
            exact ⟨upd (upd v 25 _) 26 _, rfl, HX.below hb HX.lt, HW.trans (hb.mono HW.size), fun _ => rfl, fun _ => rfl, r2, r3, r4, r5⟩
          | 2, hi =>
            obtain rfl := Option.some.inj hi
            have d0 := r1 (hd ⟨1, .data⟩ (by simp) rfl)
            simp only [fill, Act.put, List.setIfInBounds_toArray, List.set_cons_zero, List.set_cons_succ, d0]
            go_wp2_with fail
            refine (forward_any (invF g) _ 1099511627777 (by omega) hib).mono ?_
            rintro e w'' ⟨rfl, hb⟩
            go_wp2_with fail
            rw [fcells_congr (f := ival (fwdF (invF g))) (g := ival g) (fun j hj => by unfold ival; rw [hfi j hj])]
            exact ⟨upd (upd v 26 _) 27 _, rfl, HX.below hb HX.lt, HW.trans (hb.mono HW.size), r0, fun _ => rfl, fun _ => rfl, r3, r4, r5⟩
          | 3, hi =>
            obtain rfl := Option.some.inj hi
            simp only [fill, Act.put, List.setIfInBounds_toArray, List.set_cons_zero, List.set_cons_succ]
            go_wp2_with (refine wpList_load_blk HX rfl _ _ rfl rfl und28 (by kernel_rfl) ?_)
            exact ⟨upd v 28 _, rfl, HX, HW, r0, r1, r2, fun _ => rfl, r4, r5⟩
          | 4, hi =>
            obtain rfl := Option.some.inj hi
            have d0 := r2 (hd ⟨2, .data⟩ (by simp) rfl)
            have d1 := r3 (hd ⟨3, .data⟩ (by simp) rfl)
            simp only [fill, Act.put, List.setIfInBounds_toArray, List.set_cons_zero, List.set_cons_succ, d0, d1]
            have hq := eq_self28 g
            go_wp2_with fail
            exact ⟨upd (upd (upd v 27 _) 28 _) 29 _, rfl, HX, HW, r0, r1, fun _ => rfl, fun _ => rfl, fun _ => rfl, r5⟩
          | 5, hi =>
            obtain rfl := Option.some.inj hi
            have d0 := r4 (hd ⟨4, .data⟩ (by simp) rfl)
            simp only [fill, Act.put, List.setIfInBounds_toArray, List.set_cons_zero, List.set_cons_succ, d0]
            go_wp2_with fail
            exact ⟨upd (upd v 29 _) 2 _, rfl, HX, HW, r0, r1, r2, r3, fun _ => rfl, fun _ => rfl⟩
          | n + 6, hi => cases hi
        · intro L v w' hL hR
          obtain ⟨HX, HW, -, -, -, -, -, r5⟩ := hR
          have d0 := r5 (hL 5 (by decide))
          clear r5 hL
          simp only [fill, Act.put, List.setIfInBounds_toArray, List.set_cons_zero, List.set_cons_succ, d0]
          go_wp2_with fail
          go_ret
          exact ⟨rfl, HW⟩
end Go.Proofs.Ytdgdpicfloekeaa

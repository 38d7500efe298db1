/- The walk of the law PlaneBack: true at every input. -/
import Derived.Test.YtggdaefgaakijaaFrRe
import Derived.Test.YtggdaefgaakijaaInterpMovesW
namespace Go.Proofs.Ytggdaefgaakijaa
open Go.RowKit Go.Sort
attribute [local go_sem ↓] run_imax run_imin

set_option maxRecDepth 1000000 in
set_option maxHeartbeats 8000000 in
theorem planeBack_walk (co ro ki a b c sd : Int) (p : Option Addr) (n m : Nat) (sl : Nat → Int) (dx dy : Int) (w : World) (hw : SmallW co ro ki a b c sd n sl) (hn : n ≤ maxLen) (hS : SL w p n (u8v sl))
    (hdx : -128 ≤ dx ∧ dx ≤ 127) (hdy : -128 ≤ dy ∧ dy ≤ 127) :
    Calls Try.prog 12 #[smV co ro ki a b c sd p n m, .int .i8 dx, .int .i8 dy] w fun e w' => e = .returned (.bool true) ∧ Below w.heap.size w w' := by
  have k1 := tmodB (dx * 2) 20 (by omega)
  have k2 := tmodB (dy * 2) 20 (by omega)
  replace hw := Lib.hid hw; replace hS := Lib.hid hS
  have HB0 : Ob (w.alloc (.cells (smC co ro ki a b c sd p n m) SMT)) w.heap.size SMT (smC co ro ki a b c sd p n m) := Ob.new_at _ _ rfl
  unfold smV
  unfold smC at *
  go_enter Try.func12, Try.ntmps12
  go_wp2_with fail
  have HW0 : Below w.heap.size w (w.alloc (.cells (smC co ro ki a b c sd p n m) SMT)) := by ((repeat (first | exact Below.refl _ _ | assumption | refine Below.setCell ?_ (by first | omega | (simp; done) | (simp; omega)) _ | refine Below.alloc ?_ (by first | omega | (simp; done) | (simp; omega)) _ | refine below_drewN ?_ _ | refine Below.drew ?_ | refine below_setRow ?_ (by first | omega | (simp; done) | (simp; omega)) _)))
  unfold smC at HW0
  refine (awake6 _).mono ?_
  rintro e w1 ⟨rfl, hb⟩
  have HB := HB0.later hb; have HW := below_step HW0 hb
  clear hb HB0 HW0
  go_wp2_with (refine wpList_load_ob_g HB rfl _ _ rfl rfl Try.underlying54 (by kernel_rfl) ?_)
  refine (light_any co ro ki a b c sd p n m _ hn).mono ?_
  rintro e w2 ⟨rfl, hb⟩
  replace HB := HB.later hb; replace HW := below_step HW hb
  clear hb
  by_cases hn2 : n ≤ 2000
  · have hd : decide (n ≤ 2000) = true := by simpa using hn2
    go_wp2_with (refine wpList_load_ob_g HB rfl _ _ rfl rfl Try.underlying54 (by kernel_rfl) ?_)
    refine (smallW_any hw.out hn2 (sl_later hS.out HW)).mono ?_
    rintro e w3 ⟨f, rfl, f1, f2, f3, f4, hM, -, hb⟩
    replace HW := below_step HW hb
    clear hb HB
    have hc8 := hM.hc; have hr8 := hM.hr
    unfold Fr.val
    go_wp2_with (refine wpList_store_stop (Ob.new_at (w := w3) FRT frZ rfl) rfl _ _ _ rfl rfl f.cells rfl (by kernel_rfl) rfl rfl ?_)
    intro w4 hw4
    have HF := cell_ob hw4.out
    replace hM := cell_mem hw4.out hM
    replace HW := cell_below hw4.out HW HW.size
    clear hw4
    generalize w3.heap.size = q at *
    go_wp2_with (refine wpList_load_ob HF rfl _ _ rfl rfl Try.underlying58 (by kernel_rfl) ?_)
    generalize (dx * 2).tmod 20 = u at *
    generalize (dy * 2).tmod 20 = v at *
    obtain ⟨u1, u2⟩ := k1
    obtain ⟨v1, v2⟩ := k2
    refine (moved_any f u v _ hM (by omega) (by omega)).mono ?_
    rintro e w5 ⟨g1, rfl, hg1, hG1, -, hb⟩
    replace HF := HF.later hb; replace hM := hM.later hb; replace HW := below_step HW hb
    clear hb
    unfold Fr.val
    go_wp2_with fail
    refine (moved_any g1 (-u) (-v) _ hG1 (by omega) (by omega)).mono ?_
    rintro e w6 ⟨⟨gc, gr, bY, bU, bV, kY, kU, kV, gY, gU, gV⟩, rfl, ⟨hg2, hg3, hg4, -, -⟩, hG, -, hb⟩
    have e1 := hg1.c; have e2 := hg1.r; have e3 := hg1.y
    simp only at hg2 hg3 hg4
    rw [e1] at hg2; rw [e2] at hg3; rw [e1, e2, e3] at hg4
    clear e1 e2 e3 hg1 hG1
    subst hg2 hg3 hg4
    replace HF := HF.later hb; replace hM := hM.later hb; replace HW := below_step HW hb
    clear hb
    unfold Fr.val
    go_wp2_with (refine wpList_store_stop (Ob.new_at (w := w6) FRT frZ rfl) rfl _ _ _ rfl rfl (Fr.cells ⟨f.c, f.r, bY, bU, bV, kY, kU, kV, mvS (16 * f.c) (16 * f.r) (mvS (16 * f.c) (16 * f.r) f.sY u v) (-u) (-v), gU, gV⟩) rfl (by kernel_rfl) rfl rfl ?_)
    intro w7 hw7
    have HG := cell_ob hw7.out
    replace HF := cell_keep hw7.out HF
    replace hM := cell_mem hw7.out hM
    replace hG := cell_mem hw7.out hG
    replace HW := cell_below hw7.out HW HW.size
    clear hw7
    generalize w6.heap.size = z at *
    have c1 := HF.fYH
    go_wp2_with fail
    clear c1
    go_loopw [41] (fun t wr => ∃ j : Nat, j ≤ 16 * f.r ∧ t = .int .i64 (j : Int) ∧ Ob wr q FRT f.cells ∧ Ob wr z FRT (Fr.cells ⟨f.c, f.r, bY, bU, bV, kY, kU, kV, mvS (16 * f.c) (16 * f.r) (mvS (16 * f.c) (16 * f.r) f.sY u v) (-u) (-v), gU, gV⟩) ∧ f.Mem wr ∧ Fr.Mem ⟨f.c, f.r, bY, bU, bV, kY, kU, kV, mvS (16 * f.c) (16 * f.r) (mvS (16 * f.c) (16 * f.r) f.sY u v) (-u) (-v), gU, gV⟩ wr ∧ Below w.heap.size w wr) (fun t _ => 16 * f.r - (intOf t).toNat)
    case atStart => exact ⟨0, by omega, rfl, HF, HG, hM, hG, HW⟩
    case round =>
      clear HF HG hM hG HW
      obtain ⟨j, hj, rfl, HF, HG, hM, hG, HW⟩ := hrel
      by_cases hlt : j < 16 * f.r
      · have hd : decide ((j : Int) < 16 * (f.r : Int)) = true := by simp; omega
        have c0 := HF.fYW
        go_wp2_with fail
        clear hd c0
        go_loopw [47] (fun t wr => ∃ i : Nat, i ≤ 16 * f.c ∧ t = .int .i64 (i : Int) ∧ Ob wr q FRT f.cells ∧ Ob wr z FRT (Fr.cells ⟨f.c, f.r, bY, bU, bV, kY, kU, kV, mvS (16 * f.c) (16 * f.r) (mvS (16 * f.c) (16 * f.r) f.sY u v) (-u) (-v), gU, gV⟩) ∧ f.Mem wr ∧ Fr.Mem ⟨f.c, f.r, bY, bU, bV, kY, kU, kV, mvS (16 * f.c) (16 * f.r) (mvS (16 * f.c) (16 * f.r) f.sY u v) (-u) (-v), gU, gV⟩ wr ∧ Below w.heap.size w wr) (fun t _ => 16 * f.c - (intOf t).toNat)
        case atStart => exact ⟨0, by omega, rfl, HF, HG, hM, hG, HW⟩
        case round =>
          clear HF HG hM hG HW
          obtain ⟨i, hi, rfl, HF, HG, hM, hG, HW⟩ := hrel
          by_cases hlt2 : i < 16 * f.c
          · have hd : decide ((i : Int) < 16 * (f.c : Int)) = true := by simp; omega
            have c0 := HF.fYW
            have c1 := HF.fYH
            have hjb : j < 128 := by omega
            have hib : i < 128 := by omega
            by_cases hin : 0 ≤ (i : Int) + u ∧ (i : Int) + u < 16 * (f.c : Int) ∧ 0 ≤ (j : Int) + v ∧ (j : Int) + v < 16 * (f.r : Int)
            · obtain ⟨p1, p2, p3, p4⟩ := hin
              have d1 : decide (0 ≤ (i : Int) + u) = true := by simpa using p1
              have d2 : decide ((i : Int) + u < 16 * (f.c : Int)) = true := by simpa using p2
              have d3 : decide (0 ≤ (j : Int) + v) = true := by simpa using p3
              have d4 : decide ((j : Int) + v < 16 * (f.r : Int)) = true := by simpa using p4
              have he : plAt (16 * f.c) (16 * f.r) (mvS (16 * f.c) (16 * f.r) (mvS (16 * f.c) (16 * f.r) f.sY u v) (-u) (-v)) i j = plAt (16 * f.c) (16 * f.r) f.sY i j := by
                rw [mv_at (by omega) (by omega) (by omega) (by omega), Int.sub_neg, Int.sub_neg, mv_at p1 (by omega) p3 (by omega), Int.add_sub_cancel, Int.add_sub_cancel]
              have hGat : ∀ w', PB w' bY (16 * f.c * (16 * f.r)) (mvS (16 * f.c) (16 * f.r) (mvS (16 * f.c) (16 * f.r) f.sY u v) (-u) (-v)) → Calls Try.prog 31 #[.agg (pl16 f.c f.r bY kY), .int .i64 (i : Int), .int .i64 (j : Int)] w' fun e w'' => e = .returned (.int .u8 (plAt (16 * f.c) (16 * f.r) f.sY i j)) ∧ Below w'.heap.size w' w'' := fun w' h => by
                rw [← he]; exact at16_any f.c f.r bY kY _ _ _ _ hc8 hr8 h
              replace hGat := Lib.hid hGat
              clear he p1 p2 p3 p4
              go_wp2_with fail
              clear c0 c1
              have c0 := fun p => (HF.re p).fYW
              have c1 := fun p => (HF.re p).fYH
              have c2 := fun p => (HF.re p).fYS
              have c3 : ∀ p : Regrown, (Sort.grow (redrawn wr p.d) p.os).cell? ⟨z, 2, none⟩ = some (.int .i64 (16 * (f.c : Int))) := fun p => (HG.re p).fYW
              have c4 : ∀ p : Regrown, (Sort.grow (redrawn wr p.d) p.os).cell? ⟨z, 3, none⟩ = some (.int .i64 (16 * (f.r : Int))) := fun p => (HG.re p).fYH
              have c5 : ∀ p : Regrown, (Sort.grow (redrawn wr p.d) p.os).cell? ⟨z, 4, none⟩ = some (.slice (some ⟨bY, 0, none⟩) (16 * f.c * (16 * f.r)) kY) := fun p => (HG.re p).fYS
              refine wp_region_quiet_below (by kernel_rfl) (by kernel_rfl) ?_
              repeat (go_big_quiet_step (first | (go_at_call 31; with_reducible exact Calls.regrown_of (hGat.out _ (hG.y.later (below_regrown _ _ _)))) | (go_at_call 31; with_reducible exact Calls.regrown_of (at16_any f.c f.r f.bY f.cY f.sY (i : Int) (j : Int) _ hc8 hr8 (hM.y.later (below_regrown _ _ _))))))
              refine wpQuiet_nil ?_
              intro wq hwq
              replace hwq := Cls.below hwq
              replace HF := HF.later hwq; replace HG := HG.later hwq; replace hM := hM.later hwq; replace hG := hG.later hwq; replace HW := below_step HW hwq
              clear hwq c0 c1 c2 c3 c4 c5
              go_wp2_with fail
              exact ⟨⟨i + 1, by omega, by go_num, HF, HG, hM, hG, HW⟩, by simp [intOf]; omega⟩
            · have h4 : ¬ 0 ≤ (i : Int) + u ∨ 0 ≤ (i : Int) + u ∧ ¬ (i : Int) + u < 16 * (f.c : Int) ∨ 0 ≤ (i : Int) + u ∧ (i : Int) + u < 16 * (f.c : Int) ∧ ¬ 0 ≤ (j : Int) + v ∨ 0 ≤ (i : Int) + u ∧ (i : Int) + u < 16 * (f.c : Int) ∧ 0 ≤ (j : Int) + v ∧ ¬ (j : Int) + v < 16 * (f.r : Int) := by omega
              clear hin
              rcases h4 with p1 | ⟨p1, p2⟩ | ⟨p1, p2, p3⟩ | ⟨p1, p2, p3, p4⟩
              all_goals
                first | (have d1 : decide (0 ≤ (i : Int) + u) = true := by simpa using p1) | (have d1 : decide (0 ≤ (i : Int) + u) = false := by simpa using p1)
                first | (have d2 : decide ((i : Int) + u < 16 * (f.c : Int)) = true := by simpa using p2) | (have d2 : decide ((i : Int) + u < 16 * (f.c : Int)) = false := by simpa using p2) | skip
                first | (have d3 : decide (0 ≤ (j : Int) + v) = true := by simpa using p3) | (have d3 : decide (0 ≤ (j : Int) + v) = false := by simpa using p3) | skip
                first | (have d4 : decide ((j : Int) + v < 16 * (f.r : Int)) = false := by simpa using p4) | skip
                go_wp2_with fail
                refine wp_region_quiet_below (by kernel_rfl) (by kernel_rfl) ?_
                repeat (go_big_quiet_step (fail))
                refine wpQuiet_nil ?_
                intro wq hwq
                replace hwq := Cls.below hwq
                replace HF := HF.later hwq; replace HG := HG.later hwq; replace hM := hM.later hwq; replace hG := hG.later hwq; replace HW := below_step HW hwq
                clear hwq
                go_wp2_with fail
                exact ⟨⟨i + 1, by omega, by go_num, HF, HG, hM, hG, HW⟩, by simp [intOf]; omega⟩
          · obtain rfl : i = 16 * f.c := by omega
            have hd : decide (((16 * f.c : Nat) : Int) < 16 * (f.c : Int)) = false := by simp
            go_wp2_with fail
            exact ⟨⟨j + 1, by omega, by go_num, HF, HG, hM, hG, HW⟩, by simp [intOf]; omega⟩
      · obtain rfl : j = 16 * f.r := by omega
        have hd : decide (((16 * f.r : Nat) : Int) < 16 * (f.r : Int)) = false := by simp
        go_wp2_with fail
        apply wp_region_rel 10 [5] (fun _ => MovS f)
        case hm => kernel_rfl
        case hB => kernel_rfl
        case hΛ => kernel_rfl
        case hSm => exact fun _ _ _ _ h hb => movS_later h hb
        case hF =>
          intro wx hwx vs
          have c0 := fun p => ((HF.later hwx).re p).fC
          have c1 := fun p => ((HF.later hwx).re p).fR
          have c2 := fun p => ((HF.later hwx).re p).fYW
          have c3 := fun p => ((HF.later hwx).re p).fYH
          have c4 := fun p => ((HF.later hwx).re p).fYS
          have c5 := fun p => ((HF.later hwx).re p).fUW
          have c6 := fun p => ((HF.later hwx).re p).fUH
          have c7 := fun p => ((HF.later hwx).re p).fUS
          have c8 := fun p => ((HF.later hwx).re p).fVW
          have c9 := fun p => ((HF.later hwx).re p).fVH
          have c10 := fun p => ((HF.later hwx).re p).fVS
          have d0 : ∀ p : Regrown, (Sort.grow (redrawn wx p.d) p.os).cell? ⟨z, 0, none⟩ = some (.int .i64 (f.c : Int)) := fun p => ((HG.later hwx).re p).fC
          have d1 : ∀ p : Regrown, (Sort.grow (redrawn wx p.d) p.os).cell? ⟨z, 1, none⟩ = some (.int .i64 (f.r : Int)) := fun p => ((HG.later hwx).re p).fR
          have d2 : ∀ p : Regrown, (Sort.grow (redrawn wx p.d) p.os).cell? ⟨z, 2, none⟩ = some (.int .i64 (16 * (f.c : Int))) := fun p => ((HG.later hwx).re p).fYW
          have d3 : ∀ p : Regrown, (Sort.grow (redrawn wx p.d) p.os).cell? ⟨z, 3, none⟩ = some (.int .i64 (16 * (f.r : Int))) := fun p => ((HG.later hwx).re p).fYH
          have d4 : ∀ p : Regrown, (Sort.grow (redrawn wx p.d) p.os).cell? ⟨z, 4, none⟩ = some (.slice (some ⟨bY, 0, none⟩) (16 * f.c * (16 * f.r)) kY) := fun p => ((HG.later hwx).re p).fYS
          have d5 : ∀ p : Regrown, (Sort.grow (redrawn wx p.d) p.os).cell? ⟨z, 5, none⟩ = some (.int .i64 (8 * (f.c : Int))) := fun p => ((HG.later hwx).re p).fUW
          have d6 : ∀ p : Regrown, (Sort.grow (redrawn wx p.d) p.os).cell? ⟨z, 6, none⟩ = some (.int .i64 (8 * (f.r : Int))) := fun p => ((HG.later hwx).re p).fUH
          have d7 : ∀ p : Regrown, (Sort.grow (redrawn wx p.d) p.os).cell? ⟨z, 7, none⟩ = some (.slice (some ⟨bU, 0, none⟩) (8 * f.c * (8 * f.r)) kU) := fun p => ((HG.later hwx).re p).fUS
          have d8 : ∀ p : Regrown, (Sort.grow (redrawn wx p.d) p.os).cell? ⟨z, 8, none⟩ = some (.int .i64 (8 * (f.c : Int))) := fun p => ((HG.later hwx).re p).fVW
          have d9 : ∀ p : Regrown, (Sort.grow (redrawn wx p.d) p.os).cell? ⟨z, 9, none⟩ = some (.int .i64 (8 * (f.r : Int))) := fun p => ((HG.later hwx).re p).fVH
          have d10 : ∀ p : Regrown, (Sort.grow (redrawn wx p.d) p.os).cell? ⟨z, 10, none⟩ = some (.slice (some ⟨bV, 0, none⟩) (8 * f.c * (8 * f.r)) kV) := fun p => ((HG.later hwx).re p).fVS
          have hG2 := hG.later hwx
          have hM2 := hM.later hwx
          simp only [List.take_succ_cons, List.take_zero]
          repeat (first | (refine WQ.want (by rfl) (by rfl) ?_; intro K hK; go_big_quiet_op; first | go_big_quiet_on | go_big_quiet_call ((go_at_call 43; exact Calls.regrown_of (check_ok ⟨f.c, f.r, bY, bU, bV, kY, kU, kV, mvS (16 * f.c) (16 * f.r) (mvS (16 * f.c) (16 * f.r) f.sY u v) (-u) (-v), gU, gV⟩ _ (by show 0 < f.c; omega) (by show f.c ≤ 8; omega) (by show 0 < f.r; omega) (by show f.r ≤ 8; omega))))) | (refine WQ.skip (by rfl) (by rfl) ?_; simp only [Act.put, List.setIfInBounds_toArray, List.set_cons_succ, List.set_cons_zero]))
          refine WQ.new (by rfl) (by rfl) ?_ ?_
          · intro W hW hf
            go_simp
            refine (moved_any f 0 0 _ (hM2.later hW) (by omega) (by omega)).mono ?_
            rintro e w' ⟨g, rfl, h1, h2, -, hb3⟩
            exact ⟨_, rfl, hb3, g, rfl, h1, h2⟩
          simp only [Act.put, List.setIfInBounds_toArray, List.set_cons_succ, List.set_cons_zero]
          repeat (first | (refine WQ.want (by rfl) (by rfl) ?_; intro K hK; go_big_quiet_op; first | go_big_quiet_on | go_big_quiet_call (fail)) | (refine WQ.skip (by rfl) (by rfl) ?_; simp only [Act.put, List.setIfInBounds_toArray, List.set_cons_succ, List.set_cons_zero]))
          refine WQ.fact (by rfl) (by rfl) (.bool true) ?_ ?_
          · intro W hW hf
            obtain ⟨g, hv, h1, h2⟩ : MovS f (vs 5) W := hf 5 (by simp) (by kernel_rfl)
            unfold Oper.quietAt
            go_simp
            exact calls_fact hW (by rw [← same_moved h1]; exact same_any g f W h2 (hM2.later hW))
          simp only [Act.put, List.setIfInBounds_toArray, List.set_cons_succ, List.set_cons_zero]
          repeat (first | (refine WQ.want (by rfl) (by rfl) ?_; intro K hK; go_big_quiet_op; first | go_big_quiet_on | go_big_quiet_call (fail)) | (refine WQ.skip (by rfl) (by rfl) ?_; simp only [Act.put, List.setIfInBounds_toArray, List.set_cons_succ, List.set_cons_zero]))
          exact WQ.nil rfl
        case hind => intro vs vs'; kernel_rfl
        case hT =>
          intro vs w' hb hS
          simp only [List.drop_succ_cons, List.drop_nil]
          go_wp2_with fail
          go_ret
          exact ⟨rfl, below_step HW hb⟩
  · have hd : decide (n ≤ 2000) = false := by simpa using hn2
    go_wp2_with fail
    go_ret
    exact ⟨rfl, HW⟩
end Go.Proofs.Ytggdaefgaakijaa

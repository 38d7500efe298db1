/- The walk of the law ConcealFlat: true at every input. -/
import Derived.Test.YtbldgpemocnboaaFlatM
namespace Go.Proofs.Ytbldgpemocnboaa
open Go.RowKit Go.Sort
attribute [local go_sem ↓] run_imax run_imin

def NewS (c r : Nat) (v : Int) (u : Value) (W : World) : Prop := ∃ g : Fr, u = g.val ∧ g.Flat v ∧ g.c = c ∧ g.r = r ∧ g.Mem W
theorem NewS.later {c r : Nat} {v : Int} {u : Value} {W W' : World} (h : NewS c r v u W) (hb : Below W.heap.size W W') : NewS c r v u W' := by
  obtain ⟨g, h1, h2, h3, h4, h5⟩ := h; exact ⟨g, h1, h2, h3, h4, h5.later hb⟩
set_option maxRecDepth 1000000 in
set_option maxHeartbeats 16000000 in
theorem conFlat_walk (a0 a1 v : Int) (p1 : Option Addr) (ls lc : Nat) (bad : Nat → Bool) (mb x y : Int) (w : World)
    (h0 : 0 ≤ a0 ∧ a0 ≤ 255) (h1 : 0 ≤ a1 ∧ a1 ≤ 255) (hv : 0 ≤ v ∧ v ≤ 255) (hls : ls ≤ maxLen) (hS1 : SL w p1 ls (blv bad)) (hmb : 0 ≤ mb ∧ mb ≤ 255) (hx : -128 ≤ x ∧ x ≤ 127) (hy : -128 ≤ y ∧ y ≤ 127) :
    Calls Try.prog 12 #[.int .u8 a0, .int .u8 a1, .int .u8 v, .slice p1 ls lc, .int .u8 mb, .int .i8 x, .int .i8 y] w fun e w' => e = .returned (.bool true) ∧ Below w.heap.size w w' := by
  replace hS1 := Lib.hid hS1
  have hls2 : ls ≤ 9223372036854775807 := by unfold maxLen at hls; omega
  obtain ⟨hmb0, hmb1⟩ := hmb
  obtain ⟨C, hA⟩ : ∃ C : Nat, 1 + a0 % 4 = (C : Int) := ⟨(1 + a0 % 4).toNat, by omega⟩
  obtain ⟨R, hB⟩ : ∃ R : Nat, 1 + a1 % 4 = (R : Int) := ⟨(1 + a1 % 4).toNat, by omega⟩
  have hC : 1 ≤ C ∧ C ≤ 4 := by omega
  have hR : 1 ≤ R ∧ R ≤ 4 := by omega
  replace h0 := Lib.hid h0; replace h1 := Lib.hid h1; replace hA := Lib.hid hA; replace hB := Lib.hid hB
  replace hx := Lib.hid hx; replace hy := Lib.hid hy
  obtain ⟨hC1, hC2⟩ := hC; obtain ⟨hR1, hR2⟩ := hR
  go_enter Try.func12, Try.ntmps12
  go_wp2_with fail
  refine (awake26 _).mono ?_
  rintro e w1 ⟨rfl, HW⟩
  by_cases hbig : 100 < ls
  · go_wp2_with fail
    go_ret
    exact ⟨rfl, HW⟩
  go_wp2_with fail
  refine (mapOf_any a0 a1 C R p1 ls lc bad _ h0.out h1.out hA.out hB.out (by omega) (sl_later hS1.out HW)).mono ?_
  rintro e w2 ⟨b, rfl, hb1, V1, hb⟩
  have ubb : w.heap.size ≤ b := Nat.le_trans HW.size hb1
  replace HW := below_step HW hb
  clear hb
  obtain ⟨B, hBe⟩ : ∃ B, flF ls bad = B := ⟨_, rfl⟩
  rw [hBe] at V1
  obtain ⟨M, hMe⟩ : ∃ M, C * R = M := ⟨_, rfl⟩
  have hM0 : 0 < M := by rw [← hMe]; exact Nat.mul_pos (by omega) (by omega)
  have hM9 : M ≤ 16 := by rw [← hMe]; exact Nat.mul_le_mul hC2 hR2
  obtain ⟨N, hN1, hN2⟩ := mb_of mb hM0 hmb0
  rw [hMe] at V1 ⊢
  replace hMe := Lib.hid hMe; replace hN1 := Lib.hid hN1
  clear hBe hb1 hbig
  unfold dmV dmC
  go_wp2_with (refine wpList_store_stop (Ob.new_at (w := w2) DMT dmZ rfl) rfl _ _ _ rfl rfl (dmC C R b M M) rfl (by kernel_rfl) rfl rfl ?_)
  intro w3 hw3
  have HM : Ob w3 w2.heap.size DMT (dmC C R b M M) := by rw [← hw3.out]; exact (Ob.new_at (w := w2) DMT dmZ rfl).setRow_same _
  replace V1 : VB w3 b 4 M (blv B) := by rw [← hw3.out]; have := V1.lt; exact (V1.alloc _).setRow (by omega) _
  replace HW : Below w.heap.size w w3 := by rw [← hw3.out]; exact below_setRow (HW.alloc HW.size _) HW.size _
  clear hw3
  generalize w2.heap.size = q at *
  have hqb : q ≠ b := HM.ne_vb V1 (by decide)
  have g0 := HM.mC; have g1 := HM.mR
  go_wp2_with fail
  clear g0 g1
  refine (newFrame_any _ _ v C R _ (by rw [imin_eq, imax_eq]; omega) (by rw [imin_eq, imax_eq]; omega) hv).mono ?_
  rintro e w4 ⟨b1, b2, b3, rfl, -, hM, hb⟩
  have hfl := frFlat_flat C R b1 b2 b3 v
  obtain ⟨f, hf⟩ : ∃ f, frFlat C R b1 b2 b3 v = f := ⟨_, rfl⟩
  have fc : f.c = C := by rw [← hf]; rfl
  have fr : f.r = R := by rw [← hf]; rfl
  rw [hf] at hM hfl ⊢
  subst fc fr
  replace hfl := Lib.hid hfl
  clear hf
  replace HM := HM.later hb; replace V1 := V1.later hb; replace HW := below_step HW hb
  clear hb
  unfold Fr.val
  go_wp2_with (refine wpList_store_stop (Ob.new_at (w := w4) FRT frZ rfl) rfl _ _ _ rfl rfl f.cells rfl (by kernel_rfl) rfl rfl ?_)
  intro w5 hw5
  have HF := cell_ob hw5.out
  replace HM := cell_keep hw5.out HM
  replace V1 : VB w5 b 4 M (blv B) := by rw [← hw5.out]; have := V1.lt; exact (V1.alloc _).setRow (by omega) _
  replace hM := cell_mem hw5.out hM
  replace HW := cell_below hw5.out HW HW.size
  clear hw5
  generalize w4.heap.size = z at *
  have g2 := HM.mS
  have hN3 := hN1.out
  have hz0 : ((M : Int) == 0) = false := by simp; omega
  have hp0 : (0 : Int) < (M : Int) := by omega
  go_wp2_with (refine wpList_load_ob_g HF rfl 43 _ rfl rfl Try.underlying43 (by kernel_rfl) ?_)
  clear g2 hN3 hz0 hp0
  refine (clone_any f _ hM).mono ?_
  rintro e w6 ⟨g, rfl, hg, hG, gF, hb⟩
  have sFG : f.Sep g := Fr.Sep.of hM gF
  replace gF : g.From w.heap.size := gF.mono HW.size
  replace HM := HM.later hb; replace V1 := V1.later hb; replace HF := HF.later hb; replace hM := hM.later hb; replace HW := below_step HW hb
  clear hb
  unfold Fr.val
  go_wp2_with (refine wpList_store_stop (Ob.new_at (w := w6) FRT frZ rfl) rfl _ _ _ rfl rfl g.cells rfl (by kernel_rfl) rfl rfl ?_)
  intro w7 hw7
  have HG := cell_ob hw7.out
  replace HF := cell_keep hw7.out HF; replace HM := cell_keep hw7.out HM
  replace V1 : VB w7 b 4 M (blv B) := by rw [← hw7.out]; have := V1.lt; exact (V1.alloc _).setRow (by omega) _
  replace hM := cell_mem hw7.out hM; replace hG := cell_mem hw7.out hG
  replace HW := cell_below hw7.out HW HW.size
  clear hw7
  generalize w6.heap.size = zg at *
  have hgd : Hid (g.c = f.c ∧ g.r = f.r) := Lib.hid ⟨hg.c, hg.r⟩
  replace hg := Lib.hid hg; replace gF := Lib.hid gF; replace sFG := Lib.hid sFG
  have hc8 := hM.hc; have hr8 := hM.hr
  have hNf : N < f.c * f.r := by rw [hMe.out]; exact hN2
  have hvs := fun W => (vsmall_any x y W hx.out hy.out).mono (fun e w' h => (⟨h.1, h.2 ▸ Below.refl _ _⟩ : e = .returned (vcV (sm32 x) (sm32 y)) ∧ Below W.heap.size W w'))
  have bX := sm32_bd x; have bY := sm32_bd y
  obtain ⟨X, hX⟩ : ∃ X, sm32 x = X := ⟨_, rfl⟩
  obtain ⟨Y, hY⟩ : ∃ Y, sm32 y = Y := ⟨_, rfl⟩
  rw [hX] at bX hvs; rw [hY] at bY hvs
  replace hvs := Lib.hid hvs
  clear hX hY
  go_wp2_with fail
  have c0 := fun p => (HF.re p).fC
  have c1 := fun p => (HF.re p).fR
  have c2 := fun p => (HF.re p).fYW
  have c3 := fun p => (HF.re p).fYH
  have c4 := fun p => (HF.re p).fYS
  have c5 := fun p => (HF.re p).fUW
  have c6 := fun p => (HF.re p).fUH
  have c7 := fun p => (HF.re p).fUS
  have c8 := fun p => (HF.re p).fVW
  have c9 := fun p => (HF.re p).fVH
  have c10 := fun p => (HF.re p).fVS
  have d0 := fun p => (HG.re p).fC
  have d1 := fun p => (HG.re p).fR
  have d2 := fun p => (HG.re p).fYW
  have d3 := fun p => (HG.re p).fYH
  have d4 := fun p => (HG.re p).fYS
  have d5 := fun p => (HG.re p).fUW
  have d6 := fun p => (HG.re p).fUH
  have d7 := fun p => (HG.re p).fUS
  have d8 := fun p => (HG.re p).fVW
  have d9 := fun p => (HG.re p).fVH
  have d10 := fun p => (HG.re p).fVS
  apply wp_region_tail_below 6
  case hm => kernel_rfl
  case hB => kernel_rfl
  case hno => kernel_rfl
  case hF =>
    simp only [List.take_succ_cons, List.take_zero]
    repeat (go_big_quiet_step ((go_at_call 60; with_reducible exact Calls.regrown_of (hvs.out _))))
    exact wpQuiet_nil rfl
  case hT =>
    intro w8 hb
    clear c0 c1 c2 c3 c4 c5 c6 c7 c8 c9 c10
    clear d0 d1 d2 d3 d4 d5 d6 d7 d8 d9 d10
    simp only [List.drop_succ_cons, List.drop_zero]
    replace HM := HM.later hb; replace V1 := V1.later hb; replace HF := HF.later hb; replace HG := HG.later hb; replace hM := hM.later hb; replace hG := hG.later hb; replace HW := below_step HW hb
    clear hb
    unfold vcV
    go_wp2_with fail
    have hcp := copy_of f g N (fbits X) (fbits Y) true X Y w8 hgd.out.1.symm hgd.out.2.symm (by rw [hgd.out.1]; omega) (by rw [hgd.out.2]; omega) (by rw [hgd.out.1, hgd.out.2]; exact hNf) hM hG (fun W => by
      have h9 := right_any X Y W (by omega) (by omega)
      rw [show rightB X Y = true by unfold rightB; simp; omega] at h9
      exact h9) bX bY (fun _ => rfl) (fun h => by cases h)
    refine hcp.mono ?_
    rintro e w9 ⟨rfl, x1, hx1, hX1, hwr⟩
    have hwz := HW.size
    replace HM := HM.wrfT hG hwr (by decide); replace HF := HF.wrfT hG hwr (by decide); replace HG := HG.wrfT hG hwr (by decide); replace V1 := V1.wrfT hG hwr (by decide)
    replace hM := hM.wrfS sFG.out hwr
    replace HW := hwr.belowF HW hwz gF.out
    rw [← (hx1.pw 0).2.2.2.2.1] at HG
    have s1 : sameB f x1 = true := hx1.flat hg.out hfl.out hv (by omega) (fun k j => predB_flat hfl.out (by omega) (by omega) N _ _ _ k j)
    clear hwr hG hwz
    go_wp2_with (refine wpList_load_ob_g HF rfl 43 _ rfl rfl Try.underlying43 (by kernel_rfl) ?_)
    refine (clone_any f _ hM).mono ?_
    rintro e w10 ⟨h, rfl, hh, hH, hF2, hb⟩
    have sFH : f.Sep h := Fr.Sep.of hM hF2
    have sXH : x1.Sep h := Fr.Sep.of hX1 hF2
    replace hF2 : h.From w.heap.size := hF2.mono HW.size
    replace hX1 := hX1.later hb
    replace HM := HM.later hb; replace V1 := V1.later hb; replace HF := HF.later hb; replace HG := HG.later hb; replace hM := hM.later hb; replace HW := below_step HW hb
    clear hb
    unfold Fr.val
    go_wp2_with (refine wpList_store_stop (Ob.new_at (w := w10) FRT frZ rfl) rfl _ _ _ rfl rfl h.cells rfl (by kernel_rfl) rfl rfl ?_)
    intro w11 hw11
    have HH := cell_ob hw11.out
    replace HF := cell_keep hw11.out HF; replace HM := cell_keep hw11.out HM; replace HG := cell_keep hw11.out HG
    replace V1 : VB w11 b 4 M (blv B) := by rw [← hw11.out]; have := V1.lt; exact (V1.alloc _).setRow (by omega) _
    replace hM := cell_mem hw11.out hM; replace hX1 := cell_mem hw11.out hX1; replace hH := cell_mem hw11.out hH
    replace HW := cell_below hw11.out HW HW.size
    clear hw11
    generalize w10.heap.size = zh at *
    have hwz := HW.size
    have hhd : Hid (h.c = f.c ∧ h.r = f.r) := Lib.hid ⟨hh.c, hh.r⟩
    replace hh := Lib.hid hh; replace hF2 := Lib.hid hF2; replace sFH := Lib.hid sFH; replace sXH := Lib.hid sXH; replace s1 := Lib.hid s1; replace hx1 := Lib.hid hx1
    unfold dmC at HM
    go_wp2_with (first | (refine wpList_load_ob_g HH rfl 43 _ rfl rfl Try.underlying43 (by kernel_rfl) ?_) | (refine wpList_load_ob_g HM rfl 58 _ rfl rfl Try.underlying58 (by kernel_rfl) ?_))
    refine (spread_like hhd.out.1 hhd.out.2 hMe.out (by omega) (by omega) hN2 hH V1).mono ?_
    rintro e w12 ⟨rfl, x2, hx2, hX2, hwr⟩
    replace HM := HM.wrfT hH hwr (by decide); replace HF := HF.wrfT hH hwr (by decide); replace HG := HG.wrfT hH hwr (by decide); replace HH := HH.wrfT hH hwr (by decide); replace V1 := V1.wrfT hH hwr (by decide)
    replace hM := hM.wrfS sFH.out hwr; replace hX1 := hX1.wrfS sXH.out hwr
    replace HW := hwr.belowF HW hwz hF2.out
    rw [← (hx2.pw 0).2.2.2.2.1] at HH
    replace hx2 := Lib.hid hx2
    clear hwr hH hwz
    have g2 := HM.mS
    go_wp2_with fail
    clear g2
    go_loopw [20, 61] (fun s i wr => ∃ k : Nat, k ≤ M ∧ s = .bool (someTo B f.c N k) ∧ i = .int .i64 k ∧ Ob wr q DMT #[.int .i64 (f.c : Int), .int .i64 (f.r : Int), .slice (some ⟨b, 0, none⟩) M M] ∧ Ob wr z FRT f.cells ∧ Ob wr zg FRT x1.cells ∧ Ob wr zh FRT x2.cells ∧ VB wr b 4 M (blv B) ∧ f.Mem wr ∧ x1.Mem wr ∧ x2.Mem wr ∧ Below w.heap.size w wr) (fun _ i _ => M - (intOf i).toNat)
    case atStart => exact ⟨0, by omega, rfl, rfl, HM, HF, HG, HH, V1, hM, hX1, hX2, HW⟩
    case round =>
      clear HM HF HG HH V1 hM hX1 hX2 HW
      obtain ⟨k, hk, rfl, rfl, HM, HF, HG, HH, V1, hM, hX1, hX2, HW⟩ := hrel
      by_cases hkM : k < M
      · have hd : decide ((k : Int) < (M : Int)) = true := by simp; omega
        have hz1 : ((f.c : Int) == 0) = false := by simp; omega
        have hq1 : (k : Int).tmod (f.c : Int) = ((k % f.c : Nat) : Int) := rfl
        have hq2 : (N : Int).tmod (f.c : Int) = ((N % f.c : Nat) : Int) := rfl
        have m0 := fun p => (HM.re p).mC; have m1 := fun p => (HM.re p).mR; have m2 := fun p => (HM.re p).mS
        cases hs : someTo B f.c N k
        · by_cases he : k % f.c = N % f.c
          · have hnx : someTo B f.c N (k + 1) = !B k := by unfold someTo; rw [hs]; simp [he]
            rw [he] at hq1
            obtain ⟨a, ha⟩ : ∃ a, N % f.c = a := ⟨_, rfl⟩
            rw [ha] at hq1 hq2
            have hhas : ∀ W, VB W b 4 M (blv B) → Calls Try.prog 46 #[.agg #[.int .i64 (f.c : Int), .int .i64 (f.r : Int), .slice (some ⟨b, 0, none⟩) M M], .int .i64 (k : Int)] W fun e' w' => e' = .returned (.bool (B k)) ∧ Below W.heap.size W w' := fun W hV => dmHas_is (by rw [has_row hkM]) hV
            cases hBk : B k
            all_goals
              rw [hBk] at hhas hnx
              have e0 : ((a : Int) == (a : Int)) = true := by simp
              replace hhas := Lib.hid hhas; replace hnx := Lib.hid hnx; replace hs := Lib.hid hs; replace hBk := Lib.hid hBk; replace ha := Lib.hid ha; replace he := Lib.hid he
              go_wp2_with fail
              refine wp_region_quiet_below (by kernel_rfl) (by kernel_rfl) ?_
              repeat (go_big_quiet_step (first | (go_at_call 46; with_reducible exact Calls.regrown_of (hhas.out _ (V1.later (below_regrown _ _ _))))))
              refine wpQuiet_nil ?_
              intro wq hwq
              replace hwq := Cls.below hwq
              clear m0 m1 m2 hhas hq1 hq2
              replace hX1 := hX1.later hwq; replace hX2 := hX2.later hwq
              replace HM := HM.later hwq; replace HF := HF.later hwq; replace HG := HG.later hwq; replace HH := HH.later hwq; replace V1 := V1.later hwq; replace hM := hM.later hwq; replace HW := below_step HW hwq
              clear hwq
              go_wp2_with fail
              exact ⟨⟨k + 1, by omega, by rw [hnx.out]; rfl, by go_num, HM, HF, HG, HH, V1, hM, hX1, hX2, HW⟩, by simp [intOf]; omega⟩
          · have hnx : someTo B f.c N (k + 1) = false := by unfold someTo; rw [hs]; simp [he]
            obtain ⟨a, ha⟩ : ∃ a, k % f.c = a := ⟨_, rfl⟩
            obtain ⟨a2, ha2⟩ : ∃ a, N % f.c = a := ⟨_, rfl⟩
            rw [ha, ha2] at he
            rw [ha] at hq1; rw [ha2] at hq2
            have e0 : ((a : Int) == (a2 : Int)) = false := by simp; omega
            replace hnx := Lib.hid hnx; replace hs := Lib.hid hs; replace ha := Lib.hid ha; replace ha2 := Lib.hid ha2; replace he := Lib.hid he
            go_wp2_with fail
            refine wp_region_quiet_below (by kernel_rfl) (by kernel_rfl) ?_
            repeat (go_big_quiet_step (fail))
            refine wpQuiet_nil ?_
            intro wq hwq
            replace hwq := Cls.below hwq
            clear m0 m1 m2 hq1 hq2
            replace hX1 := hX1.later hwq; replace hX2 := hX2.later hwq
            replace HM := HM.later hwq; replace HF := HF.later hwq; replace HG := HG.later hwq; replace HH := HH.later hwq; replace V1 := V1.later hwq; replace hM := hM.later hwq; replace HW := below_step HW hwq
            clear hwq
            go_wp2_with fail
            exact ⟨⟨k + 1, by omega, by rw [hnx.out], by go_num, HM, HF, HG, HH, V1, hM, hX1, hX2, HW⟩, by simp [intOf]; omega⟩
        · have hnx : someTo B f.c N (k + 1) = true := by unfold someTo; rw [hs]; rfl
          replace hnx := Lib.hid hnx; replace hs := Lib.hid hs
          clear m0 m1 m2 hq1 hq2 hz1
          go_wp2_with fail
          refine wp_region_quiet_below (by kernel_rfl) (by kernel_rfl) ?_
          repeat (go_big_quiet_step (fail))
          refine wpQuiet_nil ?_
          intro wq hwq
          replace hwq := Cls.below hwq
          replace hX1 := hX1.later hwq; replace hX2 := hX2.later hwq
          replace HM := HM.later hwq; replace HF := HF.later hwq; replace HG := HG.later hwq; replace HH := HH.later hwq; replace V1 := V1.later hwq; replace hM := hM.later hwq; replace HW := below_step HW hwq
          clear hwq
          go_wp2_with fail
          exact ⟨⟨k + 1, by omega, by rw [hnx.out], by go_num, HM, HF, HG, HH, V1, hM, hX1, hX2, HW⟩, by simp [intOf]; omega⟩
      · have hd : decide ((k : Int) < (M : Int)) = false := by simp; omega
        have hkE : k = f.c * f.r := by rw [hMe.out]; omega
        have hsm : ∀ W, f.Mem W → x1.Mem W → Calls Try.prog 40 #[f.val, x1.val] W fun e w' => e = .returned (.bool true) ∧ Below W.heap.size W w' := fun W h1 h2 => by have := same_any f x1 W h1 h2; rw [s1.out] at this; exact this
        replace hsm := Lib.hid hsm
        cases hs : someTo B f.c N k
        · have hnone := some_none (by omega) hNf (by rw [← hkE]; exact hs)
          replace hs := Lib.hid hs; replace hkE := Lib.hid hkE; replace hnone := Lib.hid hnone
          have hx2c : x2.c = f.c := by rw [hx2.out.dims.1]; exact hhd.out.1
          have hx2d : Hid (0 < x2.c) := Lib.hid (by rw [hx2c]; omega)
          clear hx2c
          go_wp2_with fail
          apply wp_region_rel 13 [9] (fun _ => NewS f.c f.r 128)
          case hm => kernel_rfl
          case hB => kernel_rfl
          case hΛ => kernel_rfl
          case hSm => exact fun _ _ _ _ h hb => h.later hb
          case hF =>
            intro wx hwx vs
            have c0 := fun p => ((HF.later hwx).re p).fC
            have c1 := fun p => ((HF.later hwx).re p).fR
            have c2 := fun p => ((HF.later hwx).re p).fYW
            have c3 := fun p => ((HF.later hwx).re p).fYH
            have c4 := fun p => ((HF.later hwx).re p).fYS
            have c5 := fun p => ((HF.later hwx).re p).fUW
            have c6 := fun p => ((HF.later hwx).re p).fUH
            have c7 := fun p => ((HF.later hwx).re p).fUS
            have c8 := fun p => ((HF.later hwx).re p).fVW
            have c9 := fun p => ((HF.later hwx).re p).fVH
            have c10 := fun p => ((HF.later hwx).re p).fVS
            have d0 := fun p => ((HG.later hwx).re p).fC
            have d1 := fun p => ((HG.later hwx).re p).fR
            have d2 := fun p => ((HG.later hwx).re p).fYW
            have d3 := fun p => ((HG.later hwx).re p).fYH
            have d4 := fun p => ((HG.later hwx).re p).fYS
            have d5 := fun p => ((HG.later hwx).re p).fUW
            have d6 := fun p => ((HG.later hwx).re p).fUH
            have d7 := fun p => ((HG.later hwx).re p).fUS
            have d8 := fun p => ((HG.later hwx).re p).fVW
            have d9 := fun p => ((HG.later hwx).re p).fVH
            have d10 := fun p => ((HG.later hwx).re p).fVS
            have e0 := fun p => ((HH.later hwx).re p).fC
            have e1 := fun p => ((HH.later hwx).re p).fR
            have e2 := fun p => ((HH.later hwx).re p).fYW
            have e3 := fun p => ((HH.later hwx).re p).fYH
            have e4 := fun p => ((HH.later hwx).re p).fYS
            have e5 := fun p => ((HH.later hwx).re p).fUW
            have e6 := fun p => ((HH.later hwx).re p).fUH
            have e7 := fun p => ((HH.later hwx).re p).fUS
            have e8 := fun p => ((HH.later hwx).re p).fVW
            have e9 := fun p => ((HH.later hwx).re p).fVH
            have e10 := fun p => ((HH.later hwx).re p).fVS
            have m0 := fun p => ((HM.later hwx).re p).mC; have m1 := fun p => ((HM.later hwx).re p).mR
            have hM2 := hM.later hwx
            have hX12 := hX1.later hwx
            have hX22 := hX2.later hwx
            simp only [List.take_succ_cons, List.take_zero]
            repeat (first | (refine WQ.want (by rfl) (by rfl) ?_; intro K hK; go_big_quiet_op; first | go_big_quiet_on | go_big_quiet_call ((go_at_call 40; exact Calls.regrown_of (hsm.out _ (hM2.later (below_regrown _ _ _)) (hX12.later (below_regrown _ _ _)))))) | (refine WQ.skip (by rfl) (by rfl) ?_; simp only [Act.put, List.setIfInBounds_toArray, List.set_cons_succ, List.set_cons_zero]))
            refine WQ.new (by rfl) (by rfl) ?_ ?_
            · intro W hW hf
              go_simp
              refine (newFrame_any _ _ 128 f.c f.r _ (by rw [imin_eq, imax_eq]; omega) (by rw [imin_eq, imax_eq]; omega) (by omega)).mono ?_
              rintro e w' ⟨b1, b2, b3, rfl, -, h2, hb3⟩
              exact ⟨_, rfl, hb3, _, rfl, frFlat_flat _ _ _ _ _ _, rfl, rfl, h2⟩
            simp only [Act.put, List.setIfInBounds_toArray, List.set_cons_succ, List.set_cons_zero]
            repeat (first | (refine WQ.want (by rfl) (by rfl) ?_; intro K hK; go_big_quiet_op; first | go_big_quiet_on | go_big_quiet_call (fail)) | (refine WQ.skip (by rfl) (by rfl) ?_; simp only [Act.put, List.setIfInBounds_toArray, List.set_cons_succ, List.set_cons_zero]))
            refine WQ.fact (by rfl) (by rfl) (.bool true) ?_ ?_
            · intro W hW hf
              obtain ⟨gr, hvv, h1, h2, h3, h4⟩ : NewS f.c f.r 128 (vs 9) W := hf 9 (by simp) (by kernel_rfl)
              have hsa : sameAtB x2 gr N = true := hx2.out.grey hh.out h1 (by omega) h2 h3 hNf hnone.out.1 hnone.out.2
              have hsc := sameAt_any x2 gr N W (hX22.later hW) h4 hx2d.out (by rw [h2]; omega) (by omega)
              rw [hsa] at hsc
              unfold Oper.quietAt
              rw [← hvv] at hsc
              replace hsc := Lib.hid hsc
              clear hvv hsa
              go_simp
              exact calls_fact hW hsc.out
            simp only [Act.put, List.setIfInBounds_toArray, List.set_cons_succ, List.set_cons_zero]
            repeat (first | (refine WQ.want (by rfl) (by rfl) ?_; intro K hK; go_big_quiet_op; first | go_big_quiet_on | go_big_quiet_call (fail)) | (refine WQ.skip (by rfl) (by rfl) ?_; simp only [Act.put, List.setIfInBounds_toArray, List.set_cons_succ, List.set_cons_zero]))
            exact WQ.nil rfl
          case hind => intro vs vs'; kernel_rfl
          case hT =>
            intro vs w' hb hS
            simp only [List.drop_succ_cons, List.drop_zero]
            go_wp2_with fail
            go_ret
            exact ⟨rfl, below_step HW hb⟩
        · have hany := some_any (by omega) hNf (by rw [← hkE]; exact hs)
          have s2 : sameB f x2 = true := hx2.out.flat hh.out hfl.out hv (by omega) (by omega) hany
          have hsm2 : ∀ W, f.Mem W → x2.Mem W → Calls Try.prog 40 #[f.val, x2.val] W fun e w' => e = .returned (.bool true) ∧ Below W.heap.size W w' := fun W h1 h2 => by have := same_any f x2 W h1 h2; rw [s2] at this; exact this
          replace hsm2 := Lib.hid hsm2
          replace hs := Lib.hid hs; replace hkE := Lib.hid hkE
          clear hany s2
          go_wp2_with (first | (refine wpList_load_ob_g HF rfl 43 _ rfl rfl Try.underlying43 (by kernel_rfl) ?_) | (refine wpList_load_ob_g HG rfl 43 _ rfl rfl Try.underlying43 (by kernel_rfl) ?_))
          refine (hsm.out _ hM hX1).mono ?_
          rintro e w13 ⟨rfl, hb⟩
          replace hX2 := hX2.later hb
          replace HF := HF.later hb; replace HH := HH.later hb; replace hM := hM.later hb; replace HW := below_step HW hb
          clear hb
          go_wp2_with (first | (refine wpList_load_ob_g HF rfl 43 _ rfl rfl Try.underlying43 (by kernel_rfl) ?_) | (refine wpList_load_ob_g HH rfl 43 _ rfl rfl Try.underlying43 (by kernel_rfl) ?_))
          refine (hsm2.out _ hM hX2).mono ?_
          rintro e w14 ⟨rfl, hb⟩
          replace HW := below_step HW hb
          go_wp2_with fail
          go_ret
          exact ⟨rfl, HW⟩
end Go.Proofs.Ytbldgpemocnboaa

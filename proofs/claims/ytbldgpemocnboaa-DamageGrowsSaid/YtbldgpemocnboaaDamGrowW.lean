/- The walk of the law DamageGrows: true at every input. -/
import Derived.Test.YtbldgpemocnboaaDamFromW
namespace Go.Proofs.Ytbldgpemocnboaa
open Go.RowKit Go.Sort
attribute [local go_sem ↓] run_imax run_imin

/-- The map, and what the first k of the second list add. -/
def grF (B more : Nat → Bool) (k j : Nat) : Bool := B j || (decide (j < k) && more j)
theorem grF_zero (B more : Nat → Bool) (j : Nat) : grF B more 0 j = B j := by unfold grF; simp
theorem grF_no {B more : Nat → Bool} {k : Nat} (h : more k = false) (j : Nat) : grF B more (k + 1) j = grF B more k j := by
  unfold grF
  by_cases e : j = k
  · subst e; simp [h]
  · have : decide (j < k + 1) = decide (j < k) := by rw [decide_eq_decide]; omega
    rw [this]
theorem grF_yes {B more : Nat → Bool} {M k : Nat} (h : more k = true) (j : Nat) (hj : j < M) : updB M (grF B more k) (k : Int) true j = grF B more (k + 1) j := by
  unfold updB grF
  by_cases e : j = k
  · subst e; simp [hj, h]
  · have : decide (j < k + 1) = decide (j < k) := by rw [decide_eq_decide]; omega
    rw [if_neg (by rintro ⟨_, _, h3⟩; omega), this]
theorem bool_of (p : Prop) : ∃ r : Bool, r = true ↔ p := by
  by_cases h : p
  · exact ⟨true, by simp [h]⟩
  · exact ⟨false, by simp [h]⟩
/-- One macroblock at least is touched. -/
theorem touched_some (C R N : Nat) (X Y : Nat → Int) (hC : 0 < C) (hR : 0 < R) : ∃ z, touched C R N X Y z := by
  have b1 := tx_bd (c := C) (r := R) (mb := N) (X := X) hC 0
  have b2 := ty_bd (c := C) (r := R) (mb := N) (Y := Y) hR 0
  refine ⟨_, 0, by omega, (ty0 C R N Y 0).toNat / szb 0, (tx0 C R N X 0).toNat / szb 0, ⟨Nat.le_refl _, Nat.div_le_div_right (by omega)⟩, ⟨Nat.le_refl _, Nat.div_le_div_right (by omega)⟩, rfl⟩
set_option maxRecDepth 1000000 in
set_option maxHeartbeats 16000000 in
theorem damGrow_walk (a0 a1 : Int) (p2 : Option Addr) (ls lc : Nat) (bad : Nat → Bool) (p3 : Option Addr) (lm lmc : Nat) (more : Nat → Bool) (mb kd st : Int) (X0 Y0 : Nat → Int) (same ed : Bool) (bits : Nat → Int) (seed : Int) (far : Bool) (w : World)
    (h0 : 0 ≤ a0 ∧ a0 ≤ 255) (h1 : 0 ≤ a1 ∧ a1 ≤ 255) (hls : ls ≤ maxLen) (hS : SL w p2 ls (blv bad)) (hlm : lm ≤ maxLen) (hS3 : SL w p3 lm (blv more)) (hmb : 0 ≤ mb ∧ mb ≤ 255)
    (hk : 0 ≤ kd ∧ kd ≤ 255) (hst : 0 ≤ st ∧ st ≤ 255) (hB : WyB X0 Y0) (hbits : ∀ j, j < 6 → 0 ≤ bits j ∧ bits j < 18446744073709551616) (hsd : 0 ≤ seed ∧ seed < 4294967296) :
    Calls Try.prog 16 #[.int .u8 a0, .int .u8 a1, .slice p2 ls lc, .slice p3 lm lmc, .int .u8 mb, .agg (fcells 20 (s19 kd st X0 Y0 same ed bits seed far))] w fun e w' => e = .returned (.bool true) ∧ Below w.heap.size w w' := by
  replace hS := Lib.hid hS; replace hS3 := Lib.hid hS3
  have hlm2 : lm ≤ 9223372036854775807 := by unfold maxLen at hlm; omega
  have hls2 : ls ≤ 9223372036854775807 := by unfold maxLen at hls; omega
  have hmac := fun W => smallMacro_any kd st X0 Y0 same ed bits seed far W hk hst hB hbits hsd
  replace hmac := Lib.hid hmac
  clear hk hst hB hbits hsd
  obtain ⟨sm, hsm⟩ : ∃ sm, s19 kd st X0 Y0 same ed bits seed far = sm := ⟨_, rfl⟩
  rw [hsm] at hmac ⊢
  clear hsm
  obtain ⟨hmb0, hmb1⟩ := hmb
  obtain ⟨C, hA⟩ : ∃ C : Nat, 1 + a0 % 4 = (C : Int) := ⟨(1 + a0 % 4).toNat, by omega⟩
  obtain ⟨R, hB⟩ : ∃ R : Nat, 1 + a1 % 4 = (R : Int) := ⟨(1 + a1 % 4).toNat, by omega⟩
  have hC : 1 ≤ C ∧ C ≤ 4 := by omega
  have hR : 1 ≤ R ∧ R ≤ 4 := by omega
  obtain ⟨M, hMe⟩ : ∃ M, C * R = M := ⟨_, rfl⟩
  have hM0 : 0 < M := by rw [← hMe]; exact Nat.mul_pos (by omega) (by omega)
  have hM9 : M ≤ 16 := by rw [← hMe]; exact Nat.mul_le_mul hC.2 hR.2
  obtain ⟨N, hN1, hN2⟩ := mb_of mb hM0 hmb0
  have hMi : (C : Int) * (R : Int) = (M : Int) := by rw [← Int.natCast_mul, hMe]
  replace hMe := Lib.hid hMe; replace hMi := Lib.hid hMi; replace hN1 := Lib.hid hN1
  obtain ⟨hC1, hC2⟩ := hC; obtain ⟨hR1, hR2⟩ := hR
  go_enter Try.func16, Try.ntmps16
  have HI : Blk (w.alloc (.cells (fcells 20 sm) S19T)) w.heap.size S19T 20 sm := Blk.new_at _ _ _ rfl
  have HW : Below w.heap.size w (w.alloc (.cells (fcells 20 sm) S19T)) := by ((repeat (first | exact Below.refl _ _ | assumption | refine Below.setCell ?_ (by first | omega | (simp; done) | (simp; omega)) _ | refine Below.alloc ?_ (by first | omega | (simp; done) | (simp; omega)) _ | refine below_drewN ?_ _ | refine Below.drew ?_ | refine below_setRow ?_ (by first | omega | (simp; done) | (simp; omega)) _)))
  replace h0 := Lib.hid h0; replace h1 := Lib.hid h1; replace hA := Lib.hid hA; replace hB := Lib.hid hB
  go_wp2_with fail
  generalize w.alloc (.cells (fcells 20 sm) S19T) = w0 at *
  refine (awake25 _).mono ?_
  rintro e w1 ⟨rfl, hb⟩
  replace HI := HI.later hb; replace HW := below_step HW hb
  clear hb
  by_cases hbig : 100 < ls
  · go_wp2_with fail
    go_ret
    exact ⟨rfl, HW⟩
  by_cases hbig2 : 100 < lm
  · go_wp2_with fail
    go_ret
    exact ⟨rfl, HW⟩
  have hA2 := hA.out; have hB2 := hB.out; have h02 := h0.out; have h12 := h1.out
  go_wp2_with fail
  clear hA2 hB2 h02 h12
  refine (mapOf_any a0 a1 C R p2 ls lc bad _ h0.out h1.out hA.out hB.out (by omega) (sl_later hS.out HW)).mono ?_
  rintro e w2 ⟨b, rfl, hb1, V1, hb⟩
  replace HI := HI.later hb; replace HW := below_step HW hb
  clear hb
  clear hb1 hbig
  obtain ⟨B, hBe⟩ : ∃ B, flF ls bad = B := ⟨_, rfl⟩
  rw [hBe, hMe.out] at V1
  rw [hMe.out]
  clear hBe
  unfold dmV dmC
  go_wp2_with (refine wpList_store_stop (Ob.new_at (w := w2) DMT dmZ rfl) rfl _ _ _ rfl rfl (dmC C R b M M) rfl (by kernel_rfl) rfl rfl ?_)
  intro w3 hw3
  have us := HW.size; have uI := HI.lt
  have H1 : Ob w3 w2.heap.size DMT #[.int .i64 (C : Int), .int .i64 (R : Int), .slice (some ⟨b, 0, none⟩) M M] := by rw [← hw3.out]; exact (Ob.new_at (w := w2) DMT dmZ rfl).setRow_same _
  replace V1 : VB w3 b 4 M (blv B) := by rw [← hw3.out]; have := V1.lt; exact (V1.alloc _).setRow (by omega) _
  replace HI : Blk w3 w.heap.size S19T 20 sm := by rw [← hw3.out]; exact (HI.alloc _).setRow (by omega) _
  replace HW : Below w.heap.size w w3 := by rw [← hw3.out]; exact below_setRow (HW.alloc us _) us _
  clear hw3 us uI
  generalize w2.heap.size = q at *
  go_wp2_with (refine wpList_load_ob_g H1 rfl 58 _ rfl rfl Try.underlying58 (by kernel_rfl) ?_)
  refine (dmClone_any C R b M M B _ (by omega) V1).mono ?_
  rintro e w4 ⟨b2, c2, rfl, hb2, V2, hb⟩
  have n12 : b ≠ b2 := by have := V1.lt; omega
  have hwb2 : w.heap.size ≤ b2 := Nat.le_trans HW.size hb2
  replace HI := HI.later hb; replace H1 := H1.later hb; replace V1 := V1.later hb; replace HW := below_step HW hb
  clear hb
  unfold dmV dmC
  go_wp2_with (refine wpList_store_stop (Ob.new_at (w := w4) DMT dmZ rfl) rfl _ _ _ rfl rfl (dmC C R b2 M c2) rfl (by kernel_rfl) rfl rfl ?_)
  intro w5 hw5
  have us := HW.size; have uI := HI.lt; have u1 := H1.lt; have u2 := V1.lt; have u3 := V2.lt
  have H2 : Ob w5 w4.heap.size DMT #[.int .i64 (C : Int), .int .i64 (R : Int), .slice (some ⟨b2, 0, none⟩) M c2] := by rw [← hw5.out]; exact (Ob.new_at (w := w4) DMT dmZ rfl).setRow_same _
  replace H1 : Ob w5 q DMT #[.int .i64 (C : Int), .int .i64 (R : Int), .slice (some ⟨b, 0, none⟩) M M] := by rw [← hw5.out]; exact (H1.alloc _).setRow (by omega) _
  replace V1 : VB w5 b 4 M (blv B) := by rw [← hw5.out]; exact (V1.alloc _).setRow (by omega) _
  replace V2 : VB w5 b2 4 M (blv B) := by rw [← hw5.out]; exact (V2.alloc _).setRow (by omega) _
  replace HI : Blk w5 w.heap.size S19T 20 sm := by rw [← hw5.out]; exact (HI.alloc _).setRow (by omega) _
  replace HW : Below w.heap.size w w5 := by rw [← hw5.out]; exact below_setRow (HW.alloc us _) us _
  clear hw5 us uI u1 u2 u3
  generalize w4.heap.size = q2 at *
  go_wp2_with fail
  replace V2 : VB w5 b2 4 M (blv (grF B more 0)) := V2.congr fun j _ => by unfold blv; rw [grF_zero]
  go_loopw [39] (fun t wr => ∃ k : Nat, k ≤ lm ∧ t = .int .i64 (k : Int) ∧ Blk wr w.heap.size S19T 20 sm ∧ Ob wr q DMT #[.int .i64 (C : Int), .int .i64 (R : Int), .slice (some ⟨b, 0, none⟩) M M] ∧ Ob wr q2 DMT #[.int .i64 (C : Int), .int .i64 (R : Int), .slice (some ⟨b2, 0, none⟩) M c2] ∧ VB wr b 4 M (blv B) ∧ VB wr b2 4 M (blv (grF B more k)) ∧ Below w.heap.size w wr) (fun t _ => lm - (intOf t).toNat)
  case atStart => exact ⟨0, by omega, rfl, HI, H1, H2, V1, V2, HW⟩
  case round =>
    clear HI H1 H2 V1 V2 HW
    obtain ⟨k, hkl, rfl, HI, H1, H2, V1, V2, HW⟩ := hrel
    by_cases hk : k < lm
    · have hd : decide ((k : Int) < (lm : Int)) = true := by simp; omega
      have k0 : (0 : Int) ≤ k := by omega
      obtain ⟨bs, os, rfl, hbs, hcs⟩ : ∃ bs os, p3 = some ⟨bs, os, none⟩ ∧ bs < w.heap.size ∧ ∀ k, k < lm → w.cell? ⟨bs, os + k, none⟩ = some (blv more k) := by
        rcases hS3.out with h | h
        · omega
        · exact h
      have c4 : wr.cell? ⟨bs, os + k, none⟩ = some (.bool (more k)) := by rw [HW.cell (p := ⟨bs, os + k, none⟩) hbs]; exact hcs k hk
      clear hcs
      cases hmk : more k
      · rw [hmk] at c4
        replace V2 : VB wr b2 4 M (blv (grF B more (k + 1))) := V2.congr fun j _ => by unfold blv; rw [grF_no hmk]
        replace hmk := Lib.hid hmk
        go_wp2_with fail
        exact ⟨⟨k + 1, by omega, by go_num, HI, H1, H2, V1, V2, HW⟩, by simp [intOf]; omega⟩
      · rw [hmk] at c4
        replace hmk := Lib.hid hmk
        go_wp2_with (refine wpList_load_ob_g H2 rfl 58 _ rfl rfl Try.underlying58 (by kernel_rfl) ?_)
        clear c4
        refine (dmSet_any C R b2 M c2 (grF B more k) (k : Int) true _ V2).mono ?_
        rintro e w6 ⟨rfl, V3, hWr⟩
        replace HI : Blk w6 w.heap.size S19T 20 sm := Ob.wrT (cs := fcells 20 sm) HI V2 hWr (by decide)
        replace H1 := H1.wrT V2 hWr (by decide); replace H2 := H2.wrT V2 hWr (by decide)
        replace V1 := V1.wr hWr n12
        replace HW := hWr.below HW hwb2
        replace V2 : VB w6 b2 4 M (blv (grF B more (k + 1))) := V3.congr fun j hj => by unfold blv; rw [grF_yes hmk.out j hj]
        clear V3 hWr
        go_wp2_with fail
        exact ⟨⟨k + 1, by omega, by go_num, HI, H1, H2, V1, V2, HW⟩, by simp [intOf]; omega⟩
    · obtain rfl : k = lm := by omega
      have hd : decide ((k : Int) < (k : Int)) = false := by simp
      have hN3 := hN1.out
      have hz0 : ((M : Int) == 0) = false := by simp; omega
      have hp0 : (0 : Int) < (M : Int) := by omega
      have hp1 : (M : Int) ≤ 16 := by omega
      have g2 := H1.mS
      go_wp2_with (refine wpList_load_blkM HI rfl S19T _ rfl rfl Try.underlying124 (by kernel_rfl) ?_)
      clear hN3 hz0 hp0 hp1 g2
      refine (hmac.out _).mono ?_
      rintro e w7 ⟨kk, qp, X, Y, ee, Lv, rfl, hV, hb⟩
      replace H1 := H1.later hb; replace H2 := H2.later hb; replace V1 := V1.later hb; replace V2 := V2.later hb; replace HW := below_step HW hb
      clear hb
      clear HI hmac
      have hal := fun W => alone_any kk qp X Y ee Lv W
      have hfr : ∀ (bb cc : Nat) (F : Nat → Bool) (res : Bool) W, VB W bb 4 M (blv F) → (res = true ↔ (aloneB kk = false ∧ ∃ z, touched C R N X Y z ∧ F z = true)) → Calls Try.prog 78 #[dmV C R bb M cc, .int .i64 (N : Int), .agg (fcells 391 (mmC kk qp X Y ee Lv))] W fun e w' => e = .returned (.bool res) ∧ Below W.heap.size W w' := fun bb cc F res W h1 h2 =>
        from_anyC C R bb M cc N F kk qp X Y ee Lv res W (by omega) (by omega) hMe.out (by omega) hV h1 h2
      obtain ⟨al, hAl⟩ : ∃ al, aloneB kk = al := ⟨_, rfl⟩
      rw [hAl] at hal hfr
      obtain ⟨mm, hmm⟩ : ∃ mm, mmC kk qp X Y ee Lv = mm := ⟨_, rfl⟩
      have hone : ∀ j, (mm j).oneCell' = true := fun j => by rw [← hmm]; exact mmC_one _ _ _ _ _ _ j
      rw [hmm] at hal hfr ⊢
      clear hmm hAl
      unfold dmV dmC at hfr
      replace hal := Lib.hid hal; replace hfr := Lib.hid hfr; replace hV := Lib.hid hV; replace hone := Lib.hid hone
      have HZ : Blk (w7.alloc (.cells (fcells 391 (mmC 0 0 zv zv false zv)) M106)) w7.heap.size M106 391 (mmC 0 0 zv zv false zv) := Blk.new_at _ _ _ rfl
      go_upto_region 15 with (first | (refine wpList_alloc_blk rfl M106 rfl _ _ alloc106 ?_) | (refine wpList_store_blk HZ rfl _ _ _ rfl rfl rfl (by kernel_rfl) (fun j _ => hone.out j) ?_))
      have us := HW.size; have u1 := H1.lt; have u2 := V1.lt; have u3 := H2.lt; have u4 := V2.lt
      generalize hw8 : (w7.alloc (.cells (fcells 391 (mmC 0 0 zv zv false zv)) M106)).setRow w7.heap.size (fcells 391 mm) = w8
      have HM : Blk w8 w7.heap.size M106 391 mm := by rw [← hw8]; exact HZ.setRow_same rfl
      replace H1 : Ob w8 q DMT #[.int .i64 (C : Int), .int .i64 (R : Int), .slice (some ⟨b, 0, none⟩) M M] := by rw [← hw8]; exact (H1.alloc _).setRow (by omega) _
      replace H2 : Ob w8 q2 DMT #[.int .i64 (C : Int), .int .i64 (R : Int), .slice (some ⟨b2, 0, none⟩) M c2] := by rw [← hw8]; exact (H2.alloc _).setRow (by omega) _
      replace V1 : VB w8 b 4 M (blv B) := by rw [← hw8]; exact (V1.alloc _).setRow (by omega) _
      replace V2 : VB w8 b2 4 M (blv (grF B more k)) := by rw [← hw8]; exact (V2.alloc _).setRow (by omega) _
      replace HW : Below w.heap.size w w8 := by rw [← hw8]; exact below_setRow (HW.alloc us _) us _
      clear hw8 HZ us u1 u2 u3 u4
      generalize w7.heap.size = mq at *
      go_wp2_with fail
      have ub0 := HW.size; have ub1 := H1.lt; have ub2 := V1.lt; have ub3 := H2.lt; have ub4 := V2.lt; have ub5 := HM.lt
      simp only [Act.put, List.setIfInBounds_toArray, List.set_cons_succ, List.set_cons_zero]
      apply wp_region_grow2 12 [4, 9] 10 19 11 20 DMT DMT dmZ dmZ
      case hm => kernel_rfl
      case hB => kernel_rfl
      case hp => kernel_rfl
      case hlo => kernel_rfl
      case hne => decide
      case hop1 => kernel_rfl
      case hop2 => kernel_rfl
      case hz1 => intro W; kernel_rfl
      case hz2 => intro W; kernel_rfl
      case hF =>
        intro wx hwx
        have c0 := fun p => ((H1.later hwx).re p).mC
        have c1 := fun p => ((H1.later hwx).re p).mR
        simp only [List.take_succ_cons, List.take_zero, muteG, mute, isAlloc, neutral, List.contains_cons, List.contains_nil, Nat.reduceAdd, Nat.zero_add, Nat.reduceBEq, Bool.or_self, Bool.or_false, Bool.or_true, ↓reduceIte, Bool.false_eq_true]
        repeat (go_big_quiet_step (fail))
        exact wpQuiet_nil rfl
      case hG =>
        simp only [List.filterMap_cons, List.filterMap_nil, List.getElem?_toArray, List.getElem?_cons_succ, List.getElem?_cons_zero]
        intro x6 hw6
        have us6 := hw6.size
        replace H1 := H1.later hw6; replace H2 := H2.later hw6; replace HM := HM.later hw6; replace V1 := V1.later hw6; replace V2 := V2.later hw6; replace HW := below_step HW hw6
        clear hw6
        have hnA := fun W => dmNew_any (C : Int) (R : Int) true C R W (by rw [imin_eq, imax_eq]; omega) (by rw [imin_eq, imax_eq]; omega)
        have hnB := fun W => dmNew_any (C : Int) (R : Int) false C R W (by rw [imin_eq, imax_eq]; omega) (by rw [imin_eq, imax_eq]; omega)
        go_wp2_with fail
        refine (hnA _).mono ?_
        rintro e x7 ⟨b3, rfl, hb3, V3, hb⟩
        rw [hMe.out] at V3
        rw [hMe.out]
        have us7 := hb.size
        replace H1 := H1.later hb; replace H2 := H2.later hb; replace HM := HM.later hb; replace V1 := V1.later hb; replace V2 := V2.later hb; replace HW := below_step HW hb
        unfold dmV dmC
        go_wp2_with fail
        refine ⟨rfl, hb, ?_⟩
        clear hb
        intro x8 hw8
        have us8 := hw8.size
        replace H1 := H1.later hw8; replace H2 := H2.later hw8; replace HM := HM.later hw8; replace V1 := V1.later hw8; replace V2 := V2.later hw8; replace V3 := V3.later hw8; replace HW := below_step HW hw8
        clear hw8
        go_wp2_with fail
        refine (hnB _).mono ?_
        rintro e x9 ⟨b4, rfl, hb4, V4, hb⟩
        rw [hMe.out] at V4
        rw [hMe.out]
        have us9 := V3.lt
        replace H1 := H1.later hb; replace H2 := H2.later hb; replace HM := HM.later hb; replace V1 := V1.later hb; replace V2 := V2.later hb; replace V3 := V3.later hb; replace HW := below_step HW hb
        unfold dmV dmC
        go_wp2_with fail
        refine ⟨rfl, hb, ?_⟩
        clear hb hnA hnB
        intro x10 hw10 z1 z2 hz1 hz2 hz3 H3 H4
        simp only [ptrAt]
        replace H1 := H1.later hw10; replace H2 := H2.later hw10; replace HM := HM.later hw10; replace V1 := V1.later hw10; replace V2 := V2.later hw10; replace V3 := V3.later hw10; replace V4 := V4.later hw10; replace HW := below_step HW hw10
        clear hw10
        have zw1 : w.heap.size ≤ z1 := by omega
        have zw2 : w.heap.size ≤ z2 := by omega
        have y1 : z1 ≠ q := by omega
        have y2 : z1 ≠ q2 := by omega
        have y3 : z2 ≠ q := by omega
        have y4 : z2 ≠ q2 := by omega
        have y0 : z1 ≠ mq := by omega
        have y9 : z2 ≠ mq := by omega
        have y5 := H3.ne_vb V1 (by decide); have y6 := H3.ne_vb V2 (by decide); have y7 := H3.ne_vb V3 (by decide); have y8 := H3.ne_vb V4 (by decide)
        have x5 := H4.ne_vb V1 (by decide); have x6 := H4.ne_vb V2 (by decide); have x7 := H4.ne_vb V3 (by decide); have x8 := H4.ne_vb V4 (by decide)
        refine wpList_store_ob H3 rfl _ _ _ rfl rfl #[.int .i64 (C : Int), .int .i64 (R : Int), .slice (some ⟨b3, 0, none⟩) M M] rfl (by kernel_rfl) rfl rfl ?_
        simp only [Act.put]
        refine wpList_store_ob (H4.setRow hz3 _) rfl _ _ _ rfl rfl #[.int .i64 (C : Int), .int .i64 (R : Int), .slice (some ⟨b4, 0, none⟩) M M] rfl (by kernel_rfl) rfl rfl ?_
        generalize hwB : (x10.setRow z1 #[.int .i64 (C : Int), .int .i64 (R : Int), .slice (some ⟨b3, 0, none⟩) M M]).setRow z2 #[.int .i64 (C : Int), .int .i64 (R : Int), .slice (some ⟨b4, 0, none⟩) M M] = wB
        replace H1 : Ob wB q DMT #[.int .i64 (C : Int), .int .i64 (R : Int), .slice (some ⟨b, 0, none⟩) M M] := by rw [← hwB]; exact (H1.setRow y1 _).setRow y3 _
        replace H2 : Ob wB q2 DMT #[.int .i64 (C : Int), .int .i64 (R : Int), .slice (some ⟨b2, 0, none⟩) M c2] := by rw [← hwB]; exact (H2.setRow y2 _).setRow y4 _
        replace HM : Blk wB mq M106 391 mm := by rw [← hwB]; exact (HM.setRow y0 _).setRow y9 _
        replace V1 : VB wB b 4 M (blv B) := by rw [← hwB]; exact (V1.setRow y5 _).setRow x5 _
        replace V2 : VB wB b2 4 M (blv (grF B more k)) := by rw [← hwB]; exact (V2.setRow y6 _).setRow x6 _
        replace V3 : VB wB b3 4 M (blv fun _ => true) := by rw [← hwB]; exact (V3.setRow y7 _).setRow x7 _
        replace V4 : VB wB b4 4 M (blv fun _ => false) := by rw [← hwB]; exact (V4.setRow y8 _).setRow x8 _
        replace H4 : Ob wB z2 DMT #[.int .i64 (C : Int), .int .i64 (R : Int), .slice (some ⟨b4, 0, none⟩) M M] := by rw [← hwB]; exact (H4.setRow hz3 _).setRow_same _
        replace H3 : Ob wB z1 DMT #[.int .i64 (C : Int), .int .i64 (R : Int), .slice (some ⟨b3, 0, none⟩) M M] := by rw [← hwB]; exact (H3.setRow_same _).setRow (Ne.symm hz3) _
        replace HW : Below w.heap.size w wB := by rw [← hwB]; exact below_setRow (below_setRow HW zw1 _) zw2 _
        clear hwB y0 y1 y2 y3 y4 y5 y6 y7 y8 y9 x5 x6 x7 x8 us6 us7 us8 us9 ub0 ub1 ub2 ub3 ub4 ub5 hb2 hb3 hb4 hz1 hz2 hz3 zw1 zw2 hwb2
        obtain ⟨zt, hzt⟩ := touched_some C R N X Y (by omega) (by omega)
        obtain ⟨r1, hr1⟩ := bool_of (al = false ∧ ∃ z, touched C R N X Y z ∧ B z = true)
        obtain ⟨r2, hr2⟩ := bool_of (al = false ∧ ∃ z, touched C R N X Y z ∧ grF B more k z = true)
        have h12 : r1 = true → r2 = true := fun h => hr2.2 (by obtain ⟨a, z, hz, hB⟩ := hr1.1 h; exact ⟨a, z, hz, by unfold grF; simp [hB]⟩)
        have f1 := fun W h => hfr.out b M B r1 W h hr1
        have f2 := fun W h => hfr.out b2 c2 (grF B more k) r2 W h hr2
        have f3 := fun W h => hfr.out b3 M (fun _ => true) (!al) W h ⟨fun h => ⟨by simpa using h, zt, hzt, rfl⟩, fun h => by simp [h.1]⟩
        have f4 := fun W h => hfr.out b4 M (fun _ => false) false W h ⟨(fun h => by cases h), (fun ⟨_, _, _, h⟩ => by cases h)⟩
        have m0 := fun p => (H1.re p).mC; have m1 := fun p => (H1.re p).mR; have m2 := fun p => (H1.re p).mS
        have n0 := fun p => (H2.re p).mC; have n1 := fun p => (H2.re p).mR; have n2 := fun p => (H2.re p).mS
        have k0 := fun p => (H3.re p).mC; have k1 := fun p => (H3.re p).mR; have k2 := fun p => (H3.re p).mS
        have j0 := fun p => (H4.re p).mC; have j1 := fun p => (H4.re p).mR; have j2 := fun p => (H4.re p).mS
        replace f1 := Lib.hid f1; replace f2 := Lib.hid f2; replace f3 := Lib.hid f3; replace f4 := Lib.hid f4
        clear hr1 hr2 hzt
        cases r1
        · cases al
          · go_wp2_with fail
            try simp only [Act.put, List.setIfInBounds_toArray, List.set_cons_succ, List.set_cons_zero]
            refine wp_region_quiet_below (by kernel_rfl) (by kernel_rfl) ?_
            repeat (first | (go_big_quiet_want; refine quiet_load_row (m := 391) HM M106 _ rfl rfl _ Try.underlying106 rfl (by kernel_rfl) (by omega) _ (fcells_from _ _) ?_; go_big_quiet_on; simp only [Act.put, List.setIfInBounds_toArray, List.set_cons_succ, List.set_cons_zero]) | (go_big_quiet_step (first | (go_at_call 78; with_reducible exact Calls.regrown_of (f1.out _ (V1.later (below_regrown _ _ _)))) | (go_at_call 78; with_reducible exact Calls.regrown_of (f2.out _ (V2.later (below_regrown _ _ _)))) | (go_at_call 78; with_reducible exact Calls.regrown_of (f3.out _ (V3.later (below_regrown _ _ _)))) | (go_at_call 78; with_reducible exact Calls.regrown_of (f4.out _ (V4.later (below_regrown _ _ _)))) | (go_at_call 77; with_reducible exact Calls.regrown_of (hal.out _)))))
            refine wpQuiet_nil ?_
            intro wq hwq
            replace hwq := Cls.below hwq
            replace HW := below_step HW hwq
            go_wp2_with fail
            go_ret
            exact ⟨rfl, HW⟩
          · go_wp2_with fail
            try simp only [Act.put, List.setIfInBounds_toArray, List.set_cons_succ, List.set_cons_zero]
            refine wp_region_quiet_below (by kernel_rfl) (by kernel_rfl) ?_
            repeat (first | (go_big_quiet_want; refine quiet_load_row (m := 391) HM M106 _ rfl rfl _ Try.underlying106 rfl (by kernel_rfl) (by omega) _ (fcells_from _ _) ?_; go_big_quiet_on; simp only [Act.put, List.setIfInBounds_toArray, List.set_cons_succ, List.set_cons_zero]) | (go_big_quiet_step (first | (go_at_call 78; with_reducible exact Calls.regrown_of (f1.out _ (V1.later (below_regrown _ _ _)))) | (go_at_call 78; with_reducible exact Calls.regrown_of (f2.out _ (V2.later (below_regrown _ _ _)))) | (go_at_call 78; with_reducible exact Calls.regrown_of (f3.out _ (V3.later (below_regrown _ _ _)))) | (go_at_call 78; with_reducible exact Calls.regrown_of (f4.out _ (V4.later (below_regrown _ _ _)))) | (go_at_call 77; with_reducible exact Calls.regrown_of (hal.out _)))))
            refine wpQuiet_nil ?_
            intro wq hwq
            replace hwq := Cls.below hwq
            replace HW := below_step HW hwq
            go_wp2_with fail
            go_ret
            exact ⟨rfl, HW⟩
        · obtain rfl := h12 rfl
          cases al
          · go_wp2_with fail
            try simp only [Act.put, List.setIfInBounds_toArray, List.set_cons_succ, List.set_cons_zero]
            refine wp_region_quiet_below (by kernel_rfl) (by kernel_rfl) ?_
            repeat (first | (go_big_quiet_want; refine quiet_load_row (m := 391) HM M106 _ rfl rfl _ Try.underlying106 rfl (by kernel_rfl) (by omega) _ (fcells_from _ _) ?_; go_big_quiet_on; simp only [Act.put, List.setIfInBounds_toArray, List.set_cons_succ, List.set_cons_zero]) | (go_big_quiet_step (first | (go_at_call 78; with_reducible exact Calls.regrown_of (f1.out _ (V1.later (below_regrown _ _ _)))) | (go_at_call 78; with_reducible exact Calls.regrown_of (f2.out _ (V2.later (below_regrown _ _ _)))) | (go_at_call 78; with_reducible exact Calls.regrown_of (f3.out _ (V3.later (below_regrown _ _ _)))) | (go_at_call 78; with_reducible exact Calls.regrown_of (f4.out _ (V4.later (below_regrown _ _ _)))) | (go_at_call 77; with_reducible exact Calls.regrown_of (hal.out _)))))
            refine wpQuiet_nil ?_
            intro wq hwq
            replace hwq := Cls.below hwq
            replace HW := below_step HW hwq
            go_wp2_with fail
            go_ret
            exact ⟨rfl, HW⟩
          · go_wp2_with fail
            try simp only [Act.put, List.setIfInBounds_toArray, List.set_cons_succ, List.set_cons_zero]
            refine wp_region_quiet_below (by kernel_rfl) (by kernel_rfl) ?_
            repeat (first | (go_big_quiet_want; refine quiet_load_row (m := 391) HM M106 _ rfl rfl _ Try.underlying106 rfl (by kernel_rfl) (by omega) _ (fcells_from _ _) ?_; go_big_quiet_on; simp only [Act.put, List.setIfInBounds_toArray, List.set_cons_succ, List.set_cons_zero]) | (go_big_quiet_step (first | (go_at_call 78; with_reducible exact Calls.regrown_of (f1.out _ (V1.later (below_regrown _ _ _)))) | (go_at_call 78; with_reducible exact Calls.regrown_of (f2.out _ (V2.later (below_regrown _ _ _)))) | (go_at_call 78; with_reducible exact Calls.regrown_of (f3.out _ (V3.later (below_regrown _ _ _)))) | (go_at_call 78; with_reducible exact Calls.regrown_of (f4.out _ (V4.later (below_regrown _ _ _)))) | (go_at_call 77; with_reducible exact Calls.regrown_of (hal.out _)))))
            refine wpQuiet_nil ?_
            intro wq hwq
            replace hwq := Cls.below hwq
            replace HW := below_step HW hwq
            go_wp2_with fail
            go_ret
            exact ⟨rfl, HW⟩
end Go.Proofs.Ytbldgpemocnboaa

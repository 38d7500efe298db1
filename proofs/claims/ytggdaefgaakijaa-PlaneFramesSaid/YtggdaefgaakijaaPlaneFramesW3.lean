/- The walk of the law PlaneFrames: true at every input (printed by wip/tools/pframes.py). -/
import Derived.Test.YtggdaefgaakijaaFr9
import Derived.Test.YtggdaefgaakijaaStr
import Derived.Test.YtggdaefgaakijaaPfC
namespace Go.Proofs.Ytggdaefgaakijaa
open Go.RowKit Go.Sort
attribute [local go_sem ↓] run_imax run_imin

set_option maxRecDepth 1000000 in
set_option maxHeartbeats 16000000 in
theorem planeFrames_walk3 (co ro ki a b c sd : Int) (p : Option Addr) (n m : Nat) (sl : Nat → Int) (cols rows mbn kn bent : Int) (w : World) (hw : SmallW co ro ki a b c sd n sl) (hn : n ≤ maxLen) (hS : SL w p n (u8v sl))
    (hmn : 0 ≤ mbn ∧ mbn ≤ 255) (hkn : 0 ≤ kn ∧ kn ≤ 255) (hbe : 0 ≤ bent ∧ bent ≤ 255)
    (hk : 0 < imin (imax cols 0) 8 ∧ imin (imax rows 0) 8 = 0) :
    Calls Try.prog 10 #[.int .i64 cols, .int .i64 rows, smV co ro ki a b c sd p n m, .int .u8 mbn, .int .u8 kn, .int .u8 bent] w fun e w' => e = .returned (.bool true) ∧ Below w.heap.size w w' := by
  obtain ⟨C, hC, hC8⟩ : ∃ C : Nat, imin (imax cols 0) 8 = (C : Int) ∧ C ≤ 8 := ⟨(imin (imax cols 0) 8).toNat, by rw [imin_eq, imax_eq]; omega, by rw [imin_eq, imax_eq]; omega⟩
  obtain ⟨R, hR, hR8⟩ : ∃ R : Nat, imin (imax rows 0) 8 = (R : Int) ∧ R ≤ 8 := ⟨(imin (imax rows 0) 8).toNat, by rw [imin_eq, imax_eq]; omega, by rw [imin_eq, imax_eq]; omega⟩
  have hnf := fun w => newFrame_any cols rows a C R w hC hR hw.a
  have k1 : 0 < C := by omega
  have k2 : R = 0 := by omega
  clear hk
  replace k1 := Lib.hid k1; replace k2 := Lib.hid k2
  replace hw := Lib.hid hw; replace hS := Lib.hid hS; replace hnf := Lib.hid hnf
  have HB0 : Ob (w.alloc (.cells (smC co ro ki a b c sd p n m) SMT)) w.heap.size SMT (smC co ro ki a b c sd p n m) := Ob.new_at _ _ rfl
  unfold smV
  unfold smC at *
  go_enter Try.func10, Try.ntmps10
  go_wp2_with fail
  have HW0 : Below w.heap.size w (w.alloc (.cells (smC co ro ki a b c sd p n m) SMT)) := by ((repeat (first | exact Below.refl _ _ | assumption | refine Below.setCell ?_ (by first | omega | (simp; done) | (simp; omega)) _ | refine Below.alloc ?_ (by first | omega | (simp; done) | (simp; omega)) _ | refine below_drewN ?_ _ | refine Below.drew ?_ | refine below_setRow ?_ (by first | omega | (simp; done) | (simp; omega)) _)))
  unfold smC at HW0
  refine (awake6 _).mono ?_
  rintro e w1 ⟨rfl, hb⟩
  have HB := HB0.later hb; have HW := below_step HW0 hb
  clear hb HB0 HW0
  go_wp2_with (refine wpList_load_ob_g HB rfl _ _ rfl rfl Try.underlying54 (by kernel_rfl) ?_)
  refine (light_any co ro ki a b c sd p n m _ hn).mono ?_
  rintro e w2 ⟨rfl, hb⟩
  replace HB := HB.later hb; replace HW := below_step HW hb
  clear hb
  by_cases hn2 : n ≤ 2000
  case neg =>
    have hd : decide (n ≤ 2000) = false := by simpa using hn2
    replace hC := Lib.hid hC; replace hR := Lib.hid hR
    go_wp2_with fail
    go_ret
    exact ⟨rfl, HW⟩
  have hd : decide (n ≤ 2000) = true := by simpa using hn2
  have ca := HB.cell 3 (v := .int .u8 a) rfl
  go_wp2_with fail
  refine (hnf.out _).mono ?_
  rintro e w3 ⟨b1, b2, b3, rfl, -, -, hb⟩
  replace HB := HB.later hb; replace HW := below_step HW hb
  clear hb ca hnf
  unfold Fr.val
  go_wp2_with (refine wpList_store_stop (Ob.new_at (w := w3) FRT frZ rfl) rfl _ _ _ rfl rfl (frFlat C R b1 b2 b3 a).cells rfl (by kernel_rfl) rfl rfl ?_)
  intro w4 hw4
  have HF := cell_ob hw4.out
  replace HB := cell_keep hw4.out HB
  replace HW := cell_below hw4.out HW HW.size
  clear hw4
  generalize w3.heap.size = q at *
  have g0 : w4.cell? ⟨q, 0, none⟩ = some (.int .i64 (C : Int)) := HF.cell 0 rfl
  have g1 : w4.cell? ⟨q, 1, none⟩ = some (.int .i64 (R : Int)) := HF.cell 1 rfl
  go_wp2_with (refine wpList_load_ob_g HF rfl _ _ rfl rfl Try.underlying58 (by kernel_rfl) ?_)
  have hck := check_new C R b1 b2 b3 a
  replace k1 := k1.out; replace k2 := k2.out
  replace hck := fun w => hck w hC8 hR8
  simp only [if_neg (show ¬ (0 < C ∧ 0 < R) by omega)] at hck
  subst k2
  have d1 : decide (0 < (C : Int)) = true := by simp; omega
  replace hck := Lib.hid hck
  refine (hck.out _).mono ?_
  rintro e w4b ⟨rfl, hb⟩
  replace HF := HF.later hb; replace HB := HB.later hb; replace HW := below_step HW hb
  clear hb g0 g1
  go_wp2_with (refine wpList_load_ob_g HF rfl _ _ rfl rfl Try.underlying58 (by kernel_rfl) ?_)
  refine (hck.out _).mono ?_
  rintro e w5 ⟨rfl, hb⟩
  replace HB := HB.later hb; replace HW := below_step HW hb
  clear hb HF
  go_wp2_with (refine wpList_load_ob_g HB rfl _ _ rfl rfl Try.underlying54 (by kernel_rfl) ?_)
  clear d1
  refine (smallW_any hw.out hn2 (sl_later hS.out HW)).mono ?_
  rintro e w5 ⟨g, rfl, f1, f2, f3, f4, hM, -, hb⟩
  replace HW := below_step HW hb
  clear hb HB
  have hc8 := hM.hc; have hr8 := hM.hr
  unfold Fr.val
  go_wp2_with (refine wpList_store_stop (Ob.new_at FRT frZ rfl) rfl _ _ _ rfl rfl g.cells rfl (by kernel_rfl) rfl rfl ?_)
  intro w6 hw6
  have HG := cell_ob hw6.out
  replace hM := cell_mem hw6.out hM
  replace HW := cell_below hw6.out HW HW.size
  clear hw6
  generalize w5.heap.size = z at *
  have h9 : 1 ≤ g.c * g.r ∧ g.c * g.r ≤ 9 := ⟨Nat.mul_pos (by omega) (by omega), Nat.mul_le_mul (by omega : g.c ≤ 3) (by omega : g.r ≤ 3)⟩
  have hz0 : ((g.c : Int) * (g.r : Int) == 0) = false := by
    have : ¬ ((g.c * g.r : Nat) : Int) = 0 := by omega
    simpa using this
  have q9 : (0 : Int) < (g.c : Int) * (g.r : Int) ∧ (g.c : Int) * (g.r : Int) ≤ 9 := by
    rw [show (g.c : Int) * (g.r : Int) = ((g.c * g.r : Nat) : Int) by simp]; omega
  obtain ⟨nn, hnn1, hnn2⟩ : ∃ nn : Nat, mbn.tmod ((g.c : Int) * (g.r : Int)) = (nn : Int) ∧ nn < 9 := by
    have e1 := Int.tmod_nonneg ((g.c : Int) * (g.r : Int)) hmn.1
    have e2 := Int.tmod_lt_of_pos mbn q9.1
    exact ⟨(mbn.tmod ((g.c : Int) * (g.r : Int))).toNat, by omega, by omega⟩
  obtain ⟨C1, hC1, hC2, hC3, hC4⟩ : ∃ x : Int, (nn : Int).tmod (g.c : Int) = x ∧ (nn : Int) % (g.c : Int) = x ∧ 0 ≤ x ∧ x ≤ 8 := ⟨_, rfl, by rw [Int.tmod_eq_emod_of_nonneg (by omega)], Int.tmod_nonneg _ (by omega), by have := Int.tmod_lt_of_pos (nn : Int) (show (0 : Int) < (g.c : Int) by omega); omega⟩
  obtain ⟨R1, hR1, hR2, hR3, hR4⟩ : ∃ x : Int, (nn : Int).tdiv (g.c : Int) = x ∧ (nn : Int) / (g.c : Int) = x ∧ 0 ≤ x ∧ x ≤ 8 := ⟨(nn : Int).tdiv (g.c : Int), rfl, by rw [Int.tdiv_eq_ediv_of_nonneg (by omega)], Int.tdiv_nonneg (by omega) (by omega), by
    rw [Int.tdiv_eq_ediv_of_nonneg (by omega)]; have := Int.ediv_le_self (g.c : Int) (show (0 : Int) ≤ nn by omega); omega⟩
  have hzc : ((g.c : Int) == 0) = false := by simp; omega
  have c0 := HG.fC
  have c1 := HG.fR
  have hi6 : (∃ i : Nat, kn % 6 = (i : Int) ∧ i < 4) ∨ kn % 6 = 4 ∨ kn % 6 = 5 := by
    have : 0 ≤ kn % 6 ∧ kn % 6 < 6 := by omega
    by_cases h : kn % 6 < 4
    · exact Or.inl ⟨(kn % 6).toNat, by omega, by omega⟩
    · omega
  rcases hi6 with ⟨i, hi1, hi2⟩ | hi1 | hi1
  · have di1 : decide ((i : Int) = 4) = false := by simp; omega
    have di2 : decide ((i : Int) = 5) = false := by simp; omega
    have di3 : ((i : Int) == 4) = false := by simp; omega
    have di4 : ((i : Int) == 5) = false := by simp; omega
    have di5 : (0 : Int) ≤ i ∧ (i : Int) < 4 := by omega
    obtain ⟨di5, di6⟩ := di5
    go_wp2_with (refine wpList_load_ob HG rfl _ _ rfl rfl Try.underlying58 (by kernel_rfl) ?_)
    refine (frBlockY g nn i _ (by omega) (by omega) (by omega) (by omega)).mono ?_
    rintro e w7 ⟨rfl, hb⟩
    replace HG := HG.later hb; replace hM := hM.later hb; replace HW := below_step HW hb
    clear hb c0 c1 hz0 hnn1 h9 q9
    simp only [blkY, plV_16]
    rw [hC2, hR2]
    go_wp2_with fail
    have HP : Ob (w7.alloc (.cells #[.int .i64 (16 * (g.c : Int)), .int .i64 (16 * (g.r : Int)), .slice (some ⟨g.bY, 0, none⟩) (16 * g.c * (16 * g.r)) g.cY] PLT)) w7.heap.size PLT #[.int .i64 (16 * (g.c : Int)), .int .i64 (16 * (g.r : Int)), .slice (some ⟨g.bY, 0, none⟩) (16 * g.c * (16 * g.r)) g.cY] := Ob.new_at _ _ rfl
    replace HG := HG.alloc (.cells #[.int .i64 (16 * (g.c : Int)), .int .i64 (16 * (g.r : Int)), .slice (some ⟨g.bY, 0, none⟩) (16 * g.c * (16 * g.r)) g.cY] PLT); replace hM := hM.alloc (.cells #[.int .i64 (16 * (g.c : Int)), .int .i64 (16 * (g.r : Int)), .slice (some ⟨g.bY, 0, none⟩) (16 * g.c * (16 * g.r)) g.cY] PLT); replace HW := HW.alloc HW.size (.cells #[.int .i64 (16 * (g.c : Int)), .int .i64 (16 * (g.r : Int)), .slice (some ⟨g.bY, 0, none⟩) (16 * g.c * (16 * g.r)) g.cY] PLT)
    generalize w7.alloc (.cells #[.int .i64 (16 * (g.c : Int)), .int .i64 (16 * (g.r : Int)), .slice (some ⟨g.bY, 0, none⟩) (16 * g.c * (16 * g.r)) g.cY] PLT) = w8 at *
    generalize w7.heap.size = p1 at *
    have c0 := fun p => (HG.re p).fC
    refine wp_region_quiet_below (by kernel_rfl) (by kernel_rfl) ?_
    repeat (go_big_quiet_step (fail))
    refine wpQuiet_nil ?_
    intro wq hwq
    replace hwq := Cls.below hwq
    replace HP := HP.later hwq; replace HG := HG.later hwq; replace hM := hM.later hwq; replace HW := below_step HW hwq
    clear hwq c0
    have e2 := HG.fYW; have e3 := HG.fYH; have e4 := HG.fYS; have e5 := HG.fUW; have e6 := HG.fUH; have e7 := HG.fUS; have e8 := HG.fVW; have e9 := HG.fVH; have e10 := HG.fVS
    have HQ : Ob (wq.alloc (.cells #[.int .i64 (16 * (g.c : Int)), .int .i64 (16 * (g.r : Int)), .slice (some ⟨g.bY, 0, none⟩) (16 * g.c * (16 * g.r)) g.cY] PLT)) wq.heap.size PLT #[.int .i64 (16 * (g.c : Int)), .int .i64 (16 * (g.r : Int)), .slice (some ⟨g.bY, 0, none⟩) (16 * g.c * (16 * g.r)) g.cY] := Ob.new_at _ _ rfl
    replace HP := HP.alloc (.cells #[.int .i64 (16 * (g.c : Int)), .int .i64 (16 * (g.r : Int)), .slice (some ⟨g.bY, 0, none⟩) (16 * g.c * (16 * g.r)) g.cY] PLT); replace HG := HG.alloc (.cells #[.int .i64 (16 * (g.c : Int)), .int .i64 (16 * (g.r : Int)), .slice (some ⟨g.bY, 0, none⟩) (16 * g.c * (16 * g.r)) g.cY] PLT); replace hM := hM.alloc (.cells #[.int .i64 (16 * (g.c : Int)), .int .i64 (16 * (g.r : Int)), .slice (some ⟨g.bY, 0, none⟩) (16 * g.c * (16 * g.r)) g.cY] PLT); replace HW := HW.alloc HW.size (.cells #[.int .i64 (16 * (g.c : Int)), .int .i64 (16 * (g.r : Int)), .slice (some ⟨g.bY, 0, none⟩) (16 * g.c * (16 * g.r)) g.cY] PLT)
    go_wp2_with (refine wpList_load_ob HG rfl _ _ rfl rfl Try.underlying58 (by kernel_rfl) ?_)
    generalize wq.alloc (.cells #[.int .i64 (16 * (g.c : Int)), .int .i64 (16 * (g.r : Int)), .slice (some ⟨g.bY, 0, none⟩) (16 * g.c * (16 * g.r)) g.cY] PLT) = w9 at *
    clear e2 e3 e4 e5 e6 e7 e8 e9 e10
    generalize wq.heap.size = q1 at *
    refine (planes_any g _).mono ?_
    rintro e w10 ⟨rfl, hb⟩
    replace HP := HP.later hb; replace HQ := HQ.later hb; replace HG := HG.later hb; replace hM := hM.later hb; replace HW := below_step HW hb
    clear hb
    unfold Fr.planes
    have HL : Ob (w10.alloc (.cells #[.int .i64 (16 * (g.c : Int)), .int .i64 (16 * (g.r : Int)), .slice (some ⟨g.bY, 0, none⟩) (16 * g.c * (16 * g.r)) g.cY, .int .i64 (8 * (g.c : Int)), .int .i64 (8 * (g.r : Int)), .slice (some ⟨g.bU, 0, none⟩) (8 * g.c * (8 * g.r)) g.cU, .int .i64 (8 * (g.c : Int)), .int .i64 (8 * (g.r : Int)), .slice (some ⟨g.bV, 0, none⟩) (8 * g.c * (8 * g.r)) g.cV] PL3)) w10.heap.size PL3 #[.int .i64 (16 * (g.c : Int)), .int .i64 (16 * (g.r : Int)), .slice (some ⟨g.bY, 0, none⟩) (16 * g.c * (16 * g.r)) g.cY, .int .i64 (8 * (g.c : Int)), .int .i64 (8 * (g.r : Int)), .slice (some ⟨g.bU, 0, none⟩) (8 * g.c * (8 * g.r)) g.cU, .int .i64 (8 * (g.c : Int)), .int .i64 (8 * (g.r : Int)), .slice (some ⟨g.bV, 0, none⟩) (8 * g.c * (8 * g.r)) g.cV] := Ob.new_at _ _ rfl
    replace HP := HP.alloc (.cells #[.int .i64 (16 * (g.c : Int)), .int .i64 (16 * (g.r : Int)), .slice (some ⟨g.bY, 0, none⟩) (16 * g.c * (16 * g.r)) g.cY, .int .i64 (8 * (g.c : Int)), .int .i64 (8 * (g.r : Int)), .slice (some ⟨g.bU, 0, none⟩) (8 * g.c * (8 * g.r)) g.cU, .int .i64 (8 * (g.c : Int)), .int .i64 (8 * (g.r : Int)), .slice (some ⟨g.bV, 0, none⟩) (8 * g.c * (8 * g.r)) g.cV] PL3); replace HQ := HQ.alloc (.cells #[.int .i64 (16 * (g.c : Int)), .int .i64 (16 * (g.r : Int)), .slice (some ⟨g.bY, 0, none⟩) (16 * g.c * (16 * g.r)) g.cY, .int .i64 (8 * (g.c : Int)), .int .i64 (8 * (g.r : Int)), .slice (some ⟨g.bU, 0, none⟩) (8 * g.c * (8 * g.r)) g.cU, .int .i64 (8 * (g.c : Int)), .int .i64 (8 * (g.r : Int)), .slice (some ⟨g.bV, 0, none⟩) (8 * g.c * (8 * g.r)) g.cV] PL3); replace HG := HG.alloc (.cells #[.int .i64 (16 * (g.c : Int)), .int .i64 (16 * (g.r : Int)), .slice (some ⟨g.bY, 0, none⟩) (16 * g.c * (16 * g.r)) g.cY, .int .i64 (8 * (g.c : Int)), .int .i64 (8 * (g.r : Int)), .slice (some ⟨g.bU, 0, none⟩) (8 * g.c * (8 * g.r)) g.cU, .int .i64 (8 * (g.c : Int)), .int .i64 (8 * (g.r : Int)), .slice (some ⟨g.bV, 0, none⟩) (8 * g.c * (8 * g.r)) g.cV] PL3); replace hM := hM.alloc (.cells #[.int .i64 (16 * (g.c : Int)), .int .i64 (16 * (g.r : Int)), .slice (some ⟨g.bY, 0, none⟩) (16 * g.c * (16 * g.r)) g.cY, .int .i64 (8 * (g.c : Int)), .int .i64 (8 * (g.r : Int)), .slice (some ⟨g.bU, 0, none⟩) (8 * g.c * (8 * g.r)) g.cU, .int .i64 (8 * (g.c : Int)), .int .i64 (8 * (g.r : Int)), .slice (some ⟨g.bV, 0, none⟩) (8 * g.c * (8 * g.r)) g.cV] PL3); replace HW := HW.alloc HW.size (.cells #[.int .i64 (16 * (g.c : Int)), .int .i64 (16 * (g.r : Int)), .slice (some ⟨g.bY, 0, none⟩) (16 * g.c * (16 * g.r)) g.cY, .int .i64 (8 * (g.c : Int)), .int .i64 (8 * (g.r : Int)), .slice (some ⟨g.bU, 0, none⟩) (8 * g.c * (8 * g.r)) g.cU, .int .i64 (8 * (g.c : Int)), .int .i64 (8 * (g.r : Int)), .slice (some ⟨g.bV, 0, none⟩) (8 * g.c * (8 * g.r)) g.cV] PL3)
    go_wp2_with (refine wpList_load_ob HG rfl _ _ rfl rfl Try.underlying58 (by kernel_rfl) ?_)
    generalize w10.alloc (.cells #[.int .i64 (16 * (g.c : Int)), .int .i64 (16 * (g.r : Int)), .slice (some ⟨g.bY, 0, none⟩) (16 * g.c * (16 * g.r)) g.cY, .int .i64 (8 * (g.c : Int)), .int .i64 (8 * (g.r : Int)), .slice (some ⟨g.bU, 0, none⟩) (8 * g.c * (8 * g.r)) g.cU, .int .i64 (8 * (g.c : Int)), .int .i64 (8 * (g.r : Int)), .slice (some ⟨g.bV, 0, none⟩) (8 * g.c * (8 * g.r)) g.cV] PL3) = w11 at *
    generalize w10.heap.size = l1 at *
    refine (clone_any g _ hM).mono ?_
    rintro e w12 ⟨h, rfl, hlk, hH, -, hb⟩
    replace HP := HP.later hb; replace HQ := HQ.later hb; replace HL := HL.later hb; replace HG := HG.later hb; replace hM := hM.later hb; replace HW := below_step HW hb
    clear hb
    have hsame := Lib.hid (sameB_like hlk)
    have hlc := Lib.hid hlk.c; have hlr := Lib.hid hlk.r
    clear hlk
    unfold Fr.val
    go_wp2_with (refine wpList_store_stop (Ob.new_at (w := w12) FRT frZ rfl) rfl _ _ _ rfl rfl h.cells rfl (by kernel_rfl) rfl rfl ?_)
    intro w13 hw13
    have HH := cell_ob hw13.out
    replace HP := cell_keep hw13.out HP; replace HQ := cell_keep hw13.out HQ; replace HL := cell_keep hw13.out HL; replace HG := cell_keep hw13.out HG
    replace hM := cell_mem hw13.out hM; replace hH := cell_mem hw13.out hH
    have hhx : w.heap.size ≤ w12.heap.size := HW.size
    replace HW := cell_below hw13.out HW HW.size
    clear hw13
    generalize w12.heap.size = h1 at *
    have v1 := conv_any g.cY hM.y
    have p0 : w13.cell? ⟨p1, 0, none⟩ = some (.int .i64 (16 * (g.c : Int))) := HP.cell 0 rfl
    have p2 : w13.cell? ⟨p1, 2, none⟩ = some (.slice (some ⟨g.bY, 0, none⟩) (16 * g.c * (16 * g.r)) g.cY) := HP.cell 2 rfl
    have q0 : w13.cell? ⟨q1, 0, none⟩ = some (.int .i64 (16 * (g.c : Int))) := HQ.cell 0 rfl
    have q2 : w13.cell? ⟨q1, 2, none⟩ = some (.slice (some ⟨g.bY, 0, none⟩) (16 * g.c * (16 * g.r)) g.cY) := HQ.cell 2 rfl
    have u0 := HG.fC; have u1 := HG.fR; have u2 := HG.fYW; have u3 := HG.fYH; have u4 := HG.fYS; have u5 := HG.fUW; have u6 := HG.fUH; have u7 := HG.fUS; have u8 := HG.fVW; have u9 := HG.fVH; have u10 := HG.fVS
    have x0 := HH.fC; have x1 := HH.fR; have x2 := HH.fYW; have x3 := HH.fYH; have x4 := HH.fYS; have x5 := HH.fUW; have x6 := HH.fUH; have x7 := HH.fUS; have x8 := HH.fVW; have x9 := HH.fVH; have x10 := HH.fVS
    go_wp2_with fail
    have hsa := same_any g h w13 hM hH
    rw [hsame.out] at hsa
    refine hsa.mono ?_
    clear hsa v1 p0 p2 q0 q2 HP HQ hsame u0 u1 u2 u3 u4 u5 u6 u7 u8 u9 u10 x0 x1 x2 x3 x4 x5 x6 x7 x8 x9 x10
    rintro e w14 ⟨rfl, hb⟩
    replace HL := HL.later hb; replace HG := HG.later hb; replace HH := HH.later hb; replace hM := hM.later hb; replace HW := below_step HW hb
    clear hb hH
    have v1 := conv_any g.cY hM.y; have v2 := conv_any g.cU hM.u; have v3 := conv_any g.cV hM.v
    have n1 : 16 * g.c * (16 * g.r) ≤ 16384 := Nat.le_trans (Nat.mul_le_mul (by omega : _ ≤ 128) (by omega : _ ≤ 128)) (by omega)
    have n2 : 8 * g.c * (8 * g.r) ≤ 16384 := Nat.le_trans (Nat.mul_le_mul (by omega : _ ≤ 128) (by omega : _ ≤ 128)) (by omega)
    obtain ⟨S1, hS1, z1⟩ : ∃ S, strF (16 * g.c * (16 * g.r)) g.sY = S ∧ S.size ≤ 16384 := ⟨_, rfl, by rw [strF_size]; exact n1⟩
    obtain ⟨S2, hS2, z2⟩ : ∃ S, strF (8 * g.c * (8 * g.r)) g.sU = S ∧ S.size ≤ 16384 := ⟨_, rfl, by rw [strF_size]; exact n2⟩
    obtain ⟨S3, hS3, z3⟩ : ∃ S, strF (8 * g.c * (8 * g.r)) g.sV = S ∧ S.size ≤ 16384 := ⟨_, rfl, by rw [strF_size]; exact n2⟩
    rw [hS1] at v1; rw [hS2] at v2; rw [hS3] at v3
    have z4 : ¬ S1.size + S2.size > 9223372036854775807 := by omega
    have z5 : ¬ (S1 ++ S2).size + S3.size > 9223372036854775807 := by rw [ByteArray.size_append]; omega
    have l2 : w14.cell? ⟨l1, 2, none⟩ = some (.slice (some ⟨g.bY, 0, none⟩) (16 * g.c * (16 * g.r)) g.cY) := HL.cell 2 rfl
    have l5 : w14.cell? ⟨l1, 5, none⟩ = some (.slice (some ⟨g.bU, 0, none⟩) (8 * g.c * (8 * g.r)) g.cU) := HL.cell 5 rfl
    have l8 : w14.cell? ⟨l1, 8, none⟩ = some (.slice (some ⟨g.bV, 0, none⟩) (8 * g.c * (8 * g.r)) g.cV) := HL.cell 8 rfl
    have u0 := HG.fC; have u1 := HG.fR; have u2 := HG.fYW; have u3 := HG.fYH; have u4 := HG.fYS; have u5 := HG.fUW; have u6 := HG.fUH; have u7 := HG.fUS; have u8 := HG.fVW; have u9 := HG.fVH; have u10 := HG.fVS
    clear hS1 hS2 hS3 n1 n2
    go_wp2_with fail
    refine (check_ok g _ (by omega) (by omega) (by omega) (by omega)).mono ?_
    rintro e w15 ⟨rfl, hb⟩
    replace HH := HH.later hb; replace HW := below_step HW hb
    clear hb v1 v2 v3 z1 z2 z3 z4 z5 l2 l5 l8 u0 u1 u2 u3 u4 u5 u6 u7 u8 u9 u10 HL HG hM
    have hlc2 := hlc.out; have hlr2 := hlr.out
    have b5 : bent % 5 = 0 ∨ bent % 5 = 1 ∨ bent % 5 = 2 ∨ bent % 5 = 3 ∨ bent % 5 = 4 := by omega
    clear hlc hlr
    replace b5 := Lib.hid b5
    obtain ⟨hc_, hr_, BY, BU, BV, KY, KU, KV, SY, SU, SV⟩ := h
    simp only at hlc2 hlr2
    subst hlc2 hlr2
    replace HH : Ob w15 h1 FRT #[.int .i64 (g.c : Int), .int .i64 (g.r : Int), .int .i64 (16 * (g.c : Int)), .int .i64 (16 * (g.r : Int)), .slice (some ⟨BY, 0, none⟩) (16 * g.c * (16 * g.r)) KY, .int .i64 (8 * (g.c : Int)), .int .i64 (8 * (g.r : Int)), .slice (some ⟨BU, 0, none⟩) (8 * g.c * (8 * g.r)) KU, .int .i64 (8 * (g.c : Int)), .int .i64 (8 * (g.r : Int)), .slice (some ⟨BV, 0, none⟩) (8 * g.c * (8 * g.r)) KV] := HH
    rcases b5.out with k | k | k | k | k
    · clear b5
      have fz := HH.free 0
      have cz : w15.cell? ⟨h1, 0, none⟩ = some (.int .i64 (g.c : Int)) := HH.cell 0 rfl
      go_wp2_with (refine wpList_load_ob (HH.set 0 _) rfl _ _ rfl rfl Try.underlying58 (by kernel_rfl) ?_)
      all_goals
        refine (check_bent0 (g.c : Int) (g.r : Int) _ _ _ _ _ _ _ _ _ _ (by omega) (by omega) rfl).mono ?_
        rintro e w16 ⟨rfl, hb⟩
        replace HW := below_step (HW.setCell (p := ⟨h1, 0, none⟩) hhx _) hb
        clear hb fz cz
        go_wp2_with fail
        go_ret
        exact ⟨rfl, HW⟩
    · clear b5
      have fz := HH.free 2
      have cz : w15.cell? ⟨h1, 2, none⟩ = some (.int .i64 (16 * (g.c : Int))) := HH.cell 2 rfl
      go_wp2_with (refine wpList_load_ob (HH.set 2 _) rfl _ _ rfl rfl Try.underlying58 (by kernel_rfl) ?_)
      all_goals
        refine (check_bent1 (g.c : Int) (g.r : Int) _ _ _ _ _ _ _ _ _ (by omega) (by omega)).mono ?_
        rintro e w16 ⟨rfl, hb⟩
        replace HW := below_step (HW.setCell (p := ⟨h1, 2, none⟩) hhx _) hb
        clear hb fz cz
        go_wp2_with fail
        go_ret
        exact ⟨rfl, HW⟩
    · clear b5
      have fz := HH.free 7
      have cz : w15.cell? ⟨h1, 7, none⟩ = some (.slice (some ⟨BU, 0, none⟩) (8 * g.c * (8 * g.r)) KU) := HH.cell 7 rfl
      have hn8 : 1 ≤ 8 * g.c * (8 * g.r) := Nat.mul_pos (by omega) (by omega)
      have dn8 : decide ((1 : Int) ≤ 8 * (g.c : Int) * (8 * (g.r : Int))) = true := by
        have : ((1 : Nat) : Int) ≤ ((8 * g.c * (8 * g.r) : Nat) : Int) := by omega
        simpa using this
      go_wp2_with (refine wpList_load_ob (HH.set 7 _) rfl _ _ rfl rfl Try.underlying58 (by kernel_rfl) ?_)
      all_goals
        refine (check_bent2 g.c g.r _ _ _ _ _ _ _ ⟨f1, f2⟩ ⟨f3, f4⟩).mono ?_
        rintro e w16 ⟨rfl, hb⟩
        replace HW := below_step (HW.setCell (p := ⟨h1, 7, none⟩) hhx _) hb
        clear hb fz cz
        go_wp2_with fail
        go_ret
        exact ⟨rfl, HW⟩
    · clear b5
      have fz := HH.free 9
      have cz : w15.cell? ⟨h1, 9, none⟩ = some (.int .i64 (8 * (g.r : Int))) := HH.cell 9 rfl
      go_wp2_with (refine wpList_load_ob (HH.set 9 _) rfl _ _ rfl rfl Try.underlying58 (by kernel_rfl) ?_)
      all_goals
        refine (check_bent3 (g.c : Int) (g.r : Int) _ _ _ _ (by omega) (by omega)).mono ?_
        rintro e w16 ⟨rfl, hb⟩
        replace HW := below_step (HW.setCell (p := ⟨h1, 9, none⟩) hhx _) hb
        clear hb fz cz
        go_wp2_with fail
        go_ret
        exact ⟨rfl, HW⟩
    · clear b5
      have fz := HH.free 1
      have cz : w15.cell? ⟨h1, 1, none⟩ = some (.int .i64 (g.r : Int)) := HH.cell 1 rfl
      go_wp2_with (refine wpList_load_ob (HH.set 1 _) rfl _ _ rfl rfl Try.underlying58 (by kernel_rfl) ?_)
      all_goals
        refine (check_size (g.c : Int) 9 _ _ _ _ _ _ _ _ _ _ (by omega)).mono ?_
        rintro e w16 ⟨rfl, hb⟩
        replace HW := below_step (HW.setCell (p := ⟨h1, 1, none⟩) hhx _) hb
        clear hb fz cz
        go_wp2_with fail
        go_ret
        exact ⟨rfl, HW⟩

  · go_wp2_with (refine wpList_load_ob HG rfl _ _ rfl rfl Try.underlying58 (by kernel_rfl) ?_)
    refine (frBlockU g nn _ (by omega) (by omega) (by omega)).mono ?_
    rintro e w7 ⟨rfl, hb⟩
    replace HG := HG.later hb; replace hM := hM.later hb; replace HW := below_step HW hb
    clear hb c0 c1 hz0 hnn1 h9 q9
    simp only [blkU, plV_8]
    rw [hC2, hR2]
    go_wp2_with fail
    have HP : Ob (w7.alloc (.cells #[.int .i64 (8 * (g.c : Int)), .int .i64 (8 * (g.r : Int)), .slice (some ⟨g.bU, 0, none⟩) (8 * g.c * (8 * g.r)) g.cU] PLT)) w7.heap.size PLT #[.int .i64 (8 * (g.c : Int)), .int .i64 (8 * (g.r : Int)), .slice (some ⟨g.bU, 0, none⟩) (8 * g.c * (8 * g.r)) g.cU] := Ob.new_at _ _ rfl
    replace HG := HG.alloc (.cells #[.int .i64 (8 * (g.c : Int)), .int .i64 (8 * (g.r : Int)), .slice (some ⟨g.bU, 0, none⟩) (8 * g.c * (8 * g.r)) g.cU] PLT); replace hM := hM.alloc (.cells #[.int .i64 (8 * (g.c : Int)), .int .i64 (8 * (g.r : Int)), .slice (some ⟨g.bU, 0, none⟩) (8 * g.c * (8 * g.r)) g.cU] PLT); replace HW := HW.alloc HW.size (.cells #[.int .i64 (8 * (g.c : Int)), .int .i64 (8 * (g.r : Int)), .slice (some ⟨g.bU, 0, none⟩) (8 * g.c * (8 * g.r)) g.cU] PLT)
    generalize w7.alloc (.cells #[.int .i64 (8 * (g.c : Int)), .int .i64 (8 * (g.r : Int)), .slice (some ⟨g.bU, 0, none⟩) (8 * g.c * (8 * g.r)) g.cU] PLT) = w8 at *
    generalize w7.heap.size = p1 at *
    have c0 := fun p => (HG.re p).fC
    refine wp_region_quiet_below (by kernel_rfl) (by kernel_rfl) ?_
    repeat (go_big_quiet_step (fail))
    refine wpQuiet_nil ?_
    intro wq hwq
    replace hwq := Cls.below hwq
    replace HP := HP.later hwq; replace HG := HG.later hwq; replace hM := hM.later hwq; replace HW := below_step HW hwq
    clear hwq c0
    have e2 := HG.fYW; have e3 := HG.fYH; have e4 := HG.fYS; have e5 := HG.fUW; have e6 := HG.fUH; have e7 := HG.fUS; have e8 := HG.fVW; have e9 := HG.fVH; have e10 := HG.fVS
    have y2 : (wq.alloc (.cells #[.int .i64 (16 * (g.c : Int)), .int .i64 (16 * (g.r : Int)), .slice (some ⟨g.bY, 0, none⟩) (16 * g.c * (16 * g.r)) g.cY] PLT)).cell? ⟨z, 5, none⟩ = some (.int .i64 (8 * (g.c : Int))) := (HG.alloc _).fUW
    have y3 : (wq.alloc (.cells #[.int .i64 (16 * (g.c : Int)), .int .i64 (16 * (g.r : Int)), .slice (some ⟨g.bY, 0, none⟩) (16 * g.c * (16 * g.r)) g.cY] PLT)).cell? ⟨z, 6, none⟩ = some (.int .i64 (8 * (g.r : Int))) := (HG.alloc _).fUH
    have y4 : (wq.alloc (.cells #[.int .i64 (16 * (g.c : Int)), .int .i64 (16 * (g.r : Int)), .slice (some ⟨g.bY, 0, none⟩) (16 * g.c * (16 * g.r)) g.cY] PLT)).cell? ⟨z, 7, none⟩ = some (.slice (some ⟨g.bU, 0, none⟩) (8 * g.c * (8 * g.r)) g.cU) := (HG.alloc _).fUS
    go_wp2_with (refine wpList_store_stop (Ob.new_at (w := wq) PLT #[.int .i64 (16 * (g.c : Int)), .int .i64 (16 * (g.r : Int)), .slice (some ⟨g.bY, 0, none⟩) (16 * g.c * (16 * g.r)) g.cY] rfl) rfl _ _ _ rfl rfl #[.int .i64 (8 * (g.c : Int)), .int .i64 (8 * (g.r : Int)), .slice (some ⟨g.bU, 0, none⟩) (8 * g.c * (8 * g.r)) g.cU] rfl (by kernel_rfl) rfl rfl ?_)
    intro w9 hw9
    have HQ := cellT_ob hw9.out
    replace HP := cellT_keep hw9.out HP; replace HG := cellT_keep hw9.out HG; replace hM := cellT_mem hw9.out hM; replace HW := cellT_below hw9.out HW HW.size
    clear hw9 y2 y3 y4
    clear e2 e3 e4 e5 e6 e7 e8 e9 e10
    generalize wq.heap.size = q1 at *
    go_wp2_with (refine wpList_load_ob HG rfl _ _ rfl rfl Try.underlying58 (by kernel_rfl) ?_)
    refine (planes_any g _).mono ?_
    rintro e w10 ⟨rfl, hb⟩
    replace HP := HP.later hb; replace HQ := HQ.later hb; replace HG := HG.later hb; replace hM := hM.later hb; replace HW := below_step HW hb
    clear hb
    unfold Fr.planes
    have HL : Ob (w10.alloc (.cells #[.int .i64 (16 * (g.c : Int)), .int .i64 (16 * (g.r : Int)), .slice (some ⟨g.bY, 0, none⟩) (16 * g.c * (16 * g.r)) g.cY, .int .i64 (8 * (g.c : Int)), .int .i64 (8 * (g.r : Int)), .slice (some ⟨g.bU, 0, none⟩) (8 * g.c * (8 * g.r)) g.cU, .int .i64 (8 * (g.c : Int)), .int .i64 (8 * (g.r : Int)), .slice (some ⟨g.bV, 0, none⟩) (8 * g.c * (8 * g.r)) g.cV] PL3)) w10.heap.size PL3 #[.int .i64 (16 * (g.c : Int)), .int .i64 (16 * (g.r : Int)), .slice (some ⟨g.bY, 0, none⟩) (16 * g.c * (16 * g.r)) g.cY, .int .i64 (8 * (g.c : Int)), .int .i64 (8 * (g.r : Int)), .slice (some ⟨g.bU, 0, none⟩) (8 * g.c * (8 * g.r)) g.cU, .int .i64 (8 * (g.c : Int)), .int .i64 (8 * (g.r : Int)), .slice (some ⟨g.bV, 0, none⟩) (8 * g.c * (8 * g.r)) g.cV] := Ob.new_at _ _ rfl
    replace HP := HP.alloc (.cells #[.int .i64 (16 * (g.c : Int)), .int .i64 (16 * (g.r : Int)), .slice (some ⟨g.bY, 0, none⟩) (16 * g.c * (16 * g.r)) g.cY, .int .i64 (8 * (g.c : Int)), .int .i64 (8 * (g.r : Int)), .slice (some ⟨g.bU, 0, none⟩) (8 * g.c * (8 * g.r)) g.cU, .int .i64 (8 * (g.c : Int)), .int .i64 (8 * (g.r : Int)), .slice (some ⟨g.bV, 0, none⟩) (8 * g.c * (8 * g.r)) g.cV] PL3); replace HQ := HQ.alloc (.cells #[.int .i64 (16 * (g.c : Int)), .int .i64 (16 * (g.r : Int)), .slice (some ⟨g.bY, 0, none⟩) (16 * g.c * (16 * g.r)) g.cY, .int .i64 (8 * (g.c : Int)), .int .i64 (8 * (g.r : Int)), .slice (some ⟨g.bU, 0, none⟩) (8 * g.c * (8 * g.r)) g.cU, .int .i64 (8 * (g.c : Int)), .int .i64 (8 * (g.r : Int)), .slice (some ⟨g.bV, 0, none⟩) (8 * g.c * (8 * g.r)) g.cV] PL3); replace HG := HG.alloc (.cells #[.int .i64 (16 * (g.c : Int)), .int .i64 (16 * (g.r : Int)), .slice (some ⟨g.bY, 0, none⟩) (16 * g.c * (16 * g.r)) g.cY, .int .i64 (8 * (g.c : Int)), .int .i64 (8 * (g.r : Int)), .slice (some ⟨g.bU, 0, none⟩) (8 * g.c * (8 * g.r)) g.cU, .int .i64 (8 * (g.c : Int)), .int .i64 (8 * (g.r : Int)), .slice (some ⟨g.bV, 0, none⟩) (8 * g.c * (8 * g.r)) g.cV] PL3); replace hM := hM.alloc (.cells #[.int .i64 (16 * (g.c : Int)), .int .i64 (16 * (g.r : Int)), .slice (some ⟨g.bY, 0, none⟩) (16 * g.c * (16 * g.r)) g.cY, .int .i64 (8 * (g.c : Int)), .int .i64 (8 * (g.r : Int)), .slice (some ⟨g.bU, 0, none⟩) (8 * g.c * (8 * g.r)) g.cU, .int .i64 (8 * (g.c : Int)), .int .i64 (8 * (g.r : Int)), .slice (some ⟨g.bV, 0, none⟩) (8 * g.c * (8 * g.r)) g.cV] PL3); replace HW := HW.alloc HW.size (.cells #[.int .i64 (16 * (g.c : Int)), .int .i64 (16 * (g.r : Int)), .slice (some ⟨g.bY, 0, none⟩) (16 * g.c * (16 * g.r)) g.cY, .int .i64 (8 * (g.c : Int)), .int .i64 (8 * (g.r : Int)), .slice (some ⟨g.bU, 0, none⟩) (8 * g.c * (8 * g.r)) g.cU, .int .i64 (8 * (g.c : Int)), .int .i64 (8 * (g.r : Int)), .slice (some ⟨g.bV, 0, none⟩) (8 * g.c * (8 * g.r)) g.cV] PL3)
    go_wp2_with (refine wpList_load_ob HG rfl _ _ rfl rfl Try.underlying58 (by kernel_rfl) ?_)
    generalize w10.alloc (.cells #[.int .i64 (16 * (g.c : Int)), .int .i64 (16 * (g.r : Int)), .slice (some ⟨g.bY, 0, none⟩) (16 * g.c * (16 * g.r)) g.cY, .int .i64 (8 * (g.c : Int)), .int .i64 (8 * (g.r : Int)), .slice (some ⟨g.bU, 0, none⟩) (8 * g.c * (8 * g.r)) g.cU, .int .i64 (8 * (g.c : Int)), .int .i64 (8 * (g.r : Int)), .slice (some ⟨g.bV, 0, none⟩) (8 * g.c * (8 * g.r)) g.cV] PL3) = w11 at *
    generalize w10.heap.size = l1 at *
    refine (clone_any g _ hM).mono ?_
    rintro e w12 ⟨h, rfl, hlk, hH, -, hb⟩
    replace HP := HP.later hb; replace HQ := HQ.later hb; replace HL := HL.later hb; replace HG := HG.later hb; replace hM := hM.later hb; replace HW := below_step HW hb
    clear hb
    have hsame := Lib.hid (sameB_like hlk)
    have hlc := Lib.hid hlk.c; have hlr := Lib.hid hlk.r
    clear hlk
    unfold Fr.val
    go_wp2_with (refine wpList_store_stop (Ob.new_at (w := w12) FRT frZ rfl) rfl _ _ _ rfl rfl h.cells rfl (by kernel_rfl) rfl rfl ?_)
    intro w13 hw13
    have HH := cell_ob hw13.out
    replace HP := cell_keep hw13.out HP; replace HQ := cell_keep hw13.out HQ; replace HL := cell_keep hw13.out HL; replace HG := cell_keep hw13.out HG
    replace hM := cell_mem hw13.out hM; replace hH := cell_mem hw13.out hH
    have hhx : w.heap.size ≤ w12.heap.size := HW.size
    replace HW := cell_below hw13.out HW HW.size
    clear hw13
    generalize w12.heap.size = h1 at *
    have v1 := conv_any g.cU hM.u
    have p0 : w13.cell? ⟨p1, 0, none⟩ = some (.int .i64 (8 * (g.c : Int))) := HP.cell 0 rfl
    have p2 : w13.cell? ⟨p1, 2, none⟩ = some (.slice (some ⟨g.bU, 0, none⟩) (8 * g.c * (8 * g.r)) g.cU) := HP.cell 2 rfl
    have q0 : w13.cell? ⟨q1, 0, none⟩ = some (.int .i64 (8 * (g.c : Int))) := HQ.cell 0 rfl
    have q2 : w13.cell? ⟨q1, 2, none⟩ = some (.slice (some ⟨g.bU, 0, none⟩) (8 * g.c * (8 * g.r)) g.cU) := HQ.cell 2 rfl
    have u0 := HG.fC; have u1 := HG.fR; have u2 := HG.fYW; have u3 := HG.fYH; have u4 := HG.fYS; have u5 := HG.fUW; have u6 := HG.fUH; have u7 := HG.fUS; have u8 := HG.fVW; have u9 := HG.fVH; have u10 := HG.fVS
    have x0 := HH.fC; have x1 := HH.fR; have x2 := HH.fYW; have x3 := HH.fYH; have x4 := HH.fYS; have x5 := HH.fUW; have x6 := HH.fUH; have x7 := HH.fUS; have x8 := HH.fVW; have x9 := HH.fVH; have x10 := HH.fVS
    go_wp2_with fail
    have hsa := same_any g h w13 hM hH
    rw [hsame.out] at hsa
    refine hsa.mono ?_
    clear hsa v1 p0 p2 q0 q2 HP HQ hsame u0 u1 u2 u3 u4 u5 u6 u7 u8 u9 u10 x0 x1 x2 x3 x4 x5 x6 x7 x8 x9 x10
    rintro e w14 ⟨rfl, hb⟩
    replace HL := HL.later hb; replace HG := HG.later hb; replace HH := HH.later hb; replace hM := hM.later hb; replace HW := below_step HW hb
    clear hb hH
    have v1 := conv_any g.cY hM.y; have v2 := conv_any g.cU hM.u; have v3 := conv_any g.cV hM.v
    have n1 : 16 * g.c * (16 * g.r) ≤ 16384 := Nat.le_trans (Nat.mul_le_mul (by omega : _ ≤ 128) (by omega : _ ≤ 128)) (by omega)
    have n2 : 8 * g.c * (8 * g.r) ≤ 16384 := Nat.le_trans (Nat.mul_le_mul (by omega : _ ≤ 128) (by omega : _ ≤ 128)) (by omega)
    obtain ⟨S1, hS1, z1⟩ : ∃ S, strF (16 * g.c * (16 * g.r)) g.sY = S ∧ S.size ≤ 16384 := ⟨_, rfl, by rw [strF_size]; exact n1⟩
    obtain ⟨S2, hS2, z2⟩ : ∃ S, strF (8 * g.c * (8 * g.r)) g.sU = S ∧ S.size ≤ 16384 := ⟨_, rfl, by rw [strF_size]; exact n2⟩
    obtain ⟨S3, hS3, z3⟩ : ∃ S, strF (8 * g.c * (8 * g.r)) g.sV = S ∧ S.size ≤ 16384 := ⟨_, rfl, by rw [strF_size]; exact n2⟩
    rw [hS1] at v1; rw [hS2] at v2; rw [hS3] at v3
    have z4 : ¬ S1.size + S2.size > 9223372036854775807 := by omega
    have z5 : ¬ (S1 ++ S2).size + S3.size > 9223372036854775807 := by rw [ByteArray.size_append]; omega
    have l2 : w14.cell? ⟨l1, 2, none⟩ = some (.slice (some ⟨g.bY, 0, none⟩) (16 * g.c * (16 * g.r)) g.cY) := HL.cell 2 rfl
    have l5 : w14.cell? ⟨l1, 5, none⟩ = some (.slice (some ⟨g.bU, 0, none⟩) (8 * g.c * (8 * g.r)) g.cU) := HL.cell 5 rfl
    have l8 : w14.cell? ⟨l1, 8, none⟩ = some (.slice (some ⟨g.bV, 0, none⟩) (8 * g.c * (8 * g.r)) g.cV) := HL.cell 8 rfl
    have u0 := HG.fC; have u1 := HG.fR; have u2 := HG.fYW; have u3 := HG.fYH; have u4 := HG.fYS; have u5 := HG.fUW; have u6 := HG.fUH; have u7 := HG.fUS; have u8 := HG.fVW; have u9 := HG.fVH; have u10 := HG.fVS
    clear hS1 hS2 hS3 n1 n2
    go_wp2_with fail
    refine (check_ok g _ (by omega) (by omega) (by omega) (by omega)).mono ?_
    rintro e w15 ⟨rfl, hb⟩
    replace HH := HH.later hb; replace HW := below_step HW hb
    clear hb v1 v2 v3 z1 z2 z3 z4 z5 l2 l5 l8 u0 u1 u2 u3 u4 u5 u6 u7 u8 u9 u10 HL HG hM
    have hlc2 := hlc.out; have hlr2 := hlr.out
    have b5 : bent % 5 = 0 ∨ bent % 5 = 1 ∨ bent % 5 = 2 ∨ bent % 5 = 3 ∨ bent % 5 = 4 := by omega
    clear hlc hlr
    replace b5 := Lib.hid b5
    obtain ⟨hc_, hr_, BY, BU, BV, KY, KU, KV, SY, SU, SV⟩ := h
    simp only at hlc2 hlr2
    subst hlc2 hlr2
    replace HH : Ob w15 h1 FRT #[.int .i64 (g.c : Int), .int .i64 (g.r : Int), .int .i64 (16 * (g.c : Int)), .int .i64 (16 * (g.r : Int)), .slice (some ⟨BY, 0, none⟩) (16 * g.c * (16 * g.r)) KY, .int .i64 (8 * (g.c : Int)), .int .i64 (8 * (g.r : Int)), .slice (some ⟨BU, 0, none⟩) (8 * g.c * (8 * g.r)) KU, .int .i64 (8 * (g.c : Int)), .int .i64 (8 * (g.r : Int)), .slice (some ⟨BV, 0, none⟩) (8 * g.c * (8 * g.r)) KV] := HH
    rcases b5.out with k | k | k | k | k
    · clear b5
      have fz := HH.free 0
      have cz : w15.cell? ⟨h1, 0, none⟩ = some (.int .i64 (g.c : Int)) := HH.cell 0 rfl
      go_wp2_with (refine wpList_load_ob (HH.set 0 _) rfl _ _ rfl rfl Try.underlying58 (by kernel_rfl) ?_)
      all_goals
        refine (check_bent0 (g.c : Int) (g.r : Int) _ _ _ _ _ _ _ _ _ _ (by omega) (by omega) rfl).mono ?_
        rintro e w16 ⟨rfl, hb⟩
        replace HW := below_step (HW.setCell (p := ⟨h1, 0, none⟩) hhx _) hb
        clear hb fz cz
        go_wp2_with fail
        go_ret
        exact ⟨rfl, HW⟩
    · clear b5
      have fz := HH.free 2
      have cz : w15.cell? ⟨h1, 2, none⟩ = some (.int .i64 (16 * (g.c : Int))) := HH.cell 2 rfl
      go_wp2_with (refine wpList_load_ob (HH.set 2 _) rfl _ _ rfl rfl Try.underlying58 (by kernel_rfl) ?_)
      all_goals
        refine (check_bent1 (g.c : Int) (g.r : Int) _ _ _ _ _ _ _ _ _ (by omega) (by omega)).mono ?_
        rintro e w16 ⟨rfl, hb⟩
        replace HW := below_step (HW.setCell (p := ⟨h1, 2, none⟩) hhx _) hb
        clear hb fz cz
        go_wp2_with fail
        go_ret
        exact ⟨rfl, HW⟩
    · clear b5
      have fz := HH.free 7
      have cz : w15.cell? ⟨h1, 7, none⟩ = some (.slice (some ⟨BU, 0, none⟩) (8 * g.c * (8 * g.r)) KU) := HH.cell 7 rfl
      have hn8 : 1 ≤ 8 * g.c * (8 * g.r) := Nat.mul_pos (by omega) (by omega)
      have dn8 : decide ((1 : Int) ≤ 8 * (g.c : Int) * (8 * (g.r : Int))) = true := by
        have : ((1 : Nat) : Int) ≤ ((8 * g.c * (8 * g.r) : Nat) : Int) := by omega
        simpa using this
      go_wp2_with (refine wpList_load_ob (HH.set 7 _) rfl _ _ rfl rfl Try.underlying58 (by kernel_rfl) ?_)
      all_goals
        refine (check_bent2 g.c g.r _ _ _ _ _ _ _ ⟨f1, f2⟩ ⟨f3, f4⟩).mono ?_
        rintro e w16 ⟨rfl, hb⟩
        replace HW := below_step (HW.setCell (p := ⟨h1, 7, none⟩) hhx _) hb
        clear hb fz cz
        go_wp2_with fail
        go_ret
        exact ⟨rfl, HW⟩
    · clear b5
      have fz := HH.free 9
      have cz : w15.cell? ⟨h1, 9, none⟩ = some (.int .i64 (8 * (g.r : Int))) := HH.cell 9 rfl
      go_wp2_with (refine wpList_load_ob (HH.set 9 _) rfl _ _ rfl rfl Try.underlying58 (by kernel_rfl) ?_)
      all_goals
        refine (check_bent3 (g.c : Int) (g.r : Int) _ _ _ _ (by omega) (by omega)).mono ?_
        rintro e w16 ⟨rfl, hb⟩
        replace HW := below_step (HW.setCell (p := ⟨h1, 9, none⟩) hhx _) hb
        clear hb fz cz
        go_wp2_with fail
        go_ret
        exact ⟨rfl, HW⟩
    · clear b5
      have fz := HH.free 1
      have cz : w15.cell? ⟨h1, 1, none⟩ = some (.int .i64 (g.r : Int)) := HH.cell 1 rfl
      go_wp2_with (refine wpList_load_ob (HH.set 1 _) rfl _ _ rfl rfl Try.underlying58 (by kernel_rfl) ?_)
      all_goals
        refine (check_size (g.c : Int) 9 _ _ _ _ _ _ _ _ _ _ (by omega)).mono ?_
        rintro e w16 ⟨rfl, hb⟩
        replace HW := below_step (HW.setCell (p := ⟨h1, 1, none⟩) hhx _) hb
        clear hb fz cz
        go_wp2_with fail
        go_ret
        exact ⟨rfl, HW⟩

  · go_wp2_with (refine wpList_load_ob HG rfl _ _ rfl rfl Try.underlying58 (by kernel_rfl) ?_)
    refine (frBlockV g nn _ (by omega) (by omega) (by omega)).mono ?_
    rintro e w7 ⟨rfl, hb⟩
    replace HG := HG.later hb; replace hM := hM.later hb; replace HW := below_step HW hb
    clear hb c0 c1 hz0 hnn1 h9 q9
    simp only [blkV, plV_8]
    rw [hC2, hR2]
    go_wp2_with fail
    have HP : Ob (w7.alloc (.cells #[.int .i64 (8 * (g.c : Int)), .int .i64 (8 * (g.r : Int)), .slice (some ⟨g.bV, 0, none⟩) (8 * g.c * (8 * g.r)) g.cV] PLT)) w7.heap.size PLT #[.int .i64 (8 * (g.c : Int)), .int .i64 (8 * (g.r : Int)), .slice (some ⟨g.bV, 0, none⟩) (8 * g.c * (8 * g.r)) g.cV] := Ob.new_at _ _ rfl
    replace HG := HG.alloc (.cells #[.int .i64 (8 * (g.c : Int)), .int .i64 (8 * (g.r : Int)), .slice (some ⟨g.bV, 0, none⟩) (8 * g.c * (8 * g.r)) g.cV] PLT); replace hM := hM.alloc (.cells #[.int .i64 (8 * (g.c : Int)), .int .i64 (8 * (g.r : Int)), .slice (some ⟨g.bV, 0, none⟩) (8 * g.c * (8 * g.r)) g.cV] PLT); replace HW := HW.alloc HW.size (.cells #[.int .i64 (8 * (g.c : Int)), .int .i64 (8 * (g.r : Int)), .slice (some ⟨g.bV, 0, none⟩) (8 * g.c * (8 * g.r)) g.cV] PLT)
    generalize w7.alloc (.cells #[.int .i64 (8 * (g.c : Int)), .int .i64 (8 * (g.r : Int)), .slice (some ⟨g.bV, 0, none⟩) (8 * g.c * (8 * g.r)) g.cV] PLT) = w8 at *
    generalize w7.heap.size = p1 at *
    have c0 := fun p => (HG.re p).fC
    refine wp_region_quiet_below (by kernel_rfl) (by kernel_rfl) ?_
    repeat (go_big_quiet_step (fail))
    refine wpQuiet_nil ?_
    intro wq hwq
    replace hwq := Cls.below hwq
    replace HP := HP.later hwq; replace HG := HG.later hwq; replace hM := hM.later hwq; replace HW := below_step HW hwq
    clear hwq c0
    have e2 := HG.fYW; have e3 := HG.fYH; have e4 := HG.fYS; have e5 := HG.fUW; have e6 := HG.fUH; have e7 := HG.fUS; have e8 := HG.fVW; have e9 := HG.fVH; have e10 := HG.fVS
    have y2 : (wq.alloc (.cells #[.int .i64 (16 * (g.c : Int)), .int .i64 (16 * (g.r : Int)), .slice (some ⟨g.bY, 0, none⟩) (16 * g.c * (16 * g.r)) g.cY] PLT)).cell? ⟨z, 8, none⟩ = some (.int .i64 (8 * (g.c : Int))) := (HG.alloc _).fVW
    have y3 : (wq.alloc (.cells #[.int .i64 (16 * (g.c : Int)), .int .i64 (16 * (g.r : Int)), .slice (some ⟨g.bY, 0, none⟩) (16 * g.c * (16 * g.r)) g.cY] PLT)).cell? ⟨z, 9, none⟩ = some (.int .i64 (8 * (g.r : Int))) := (HG.alloc _).fVH
    have y4 : (wq.alloc (.cells #[.int .i64 (16 * (g.c : Int)), .int .i64 (16 * (g.r : Int)), .slice (some ⟨g.bY, 0, none⟩) (16 * g.c * (16 * g.r)) g.cY] PLT)).cell? ⟨z, 10, none⟩ = some (.slice (some ⟨g.bV, 0, none⟩) (8 * g.c * (8 * g.r)) g.cV) := (HG.alloc _).fVS
    go_wp2_with (refine wpList_store_stop (Ob.new_at (w := wq) PLT #[.int .i64 (16 * (g.c : Int)), .int .i64 (16 * (g.r : Int)), .slice (some ⟨g.bY, 0, none⟩) (16 * g.c * (16 * g.r)) g.cY] rfl) rfl _ _ _ rfl rfl #[.int .i64 (8 * (g.c : Int)), .int .i64 (8 * (g.r : Int)), .slice (some ⟨g.bV, 0, none⟩) (8 * g.c * (8 * g.r)) g.cV] rfl (by kernel_rfl) rfl rfl ?_)
    intro w9 hw9
    have HQ := cellT_ob hw9.out
    replace HP := cellT_keep hw9.out HP; replace HG := cellT_keep hw9.out HG; replace hM := cellT_mem hw9.out hM; replace HW := cellT_below hw9.out HW HW.size
    clear hw9 y2 y3 y4
    clear e2 e3 e4 e5 e6 e7 e8 e9 e10
    generalize wq.heap.size = q1 at *
    go_wp2_with (refine wpList_load_ob HG rfl _ _ rfl rfl Try.underlying58 (by kernel_rfl) ?_)
    refine (planes_any g _).mono ?_
    rintro e w10 ⟨rfl, hb⟩
    replace HP := HP.later hb; replace HQ := HQ.later hb; replace HG := HG.later hb; replace hM := hM.later hb; replace HW := below_step HW hb
    clear hb
    unfold Fr.planes
    have HL : Ob (w10.alloc (.cells #[.int .i64 (16 * (g.c : Int)), .int .i64 (16 * (g.r : Int)), .slice (some ⟨g.bY, 0, none⟩) (16 * g.c * (16 * g.r)) g.cY, .int .i64 (8 * (g.c : Int)), .int .i64 (8 * (g.r : Int)), .slice (some ⟨g.bU, 0, none⟩) (8 * g.c * (8 * g.r)) g.cU, .int .i64 (8 * (g.c : Int)), .int .i64 (8 * (g.r : Int)), .slice (some ⟨g.bV, 0, none⟩) (8 * g.c * (8 * g.r)) g.cV] PL3)) w10.heap.size PL3 #[.int .i64 (16 * (g.c : Int)), .int .i64 (16 * (g.r : Int)), .slice (some ⟨g.bY, 0, none⟩) (16 * g.c * (16 * g.r)) g.cY, .int .i64 (8 * (g.c : Int)), .int .i64 (8 * (g.r : Int)), .slice (some ⟨g.bU, 0, none⟩) (8 * g.c * (8 * g.r)) g.cU, .int .i64 (8 * (g.c : Int)), .int .i64 (8 * (g.r : Int)), .slice (some ⟨g.bV, 0, none⟩) (8 * g.c * (8 * g.r)) g.cV] := Ob.new_at _ _ rfl
    replace HP := HP.alloc (.cells #[.int .i64 (16 * (g.c : Int)), .int .i64 (16 * (g.r : Int)), .slice (some ⟨g.bY, 0, none⟩) (16 * g.c * (16 * g.r)) g.cY, .int .i64 (8 * (g.c : Int)), .int .i64 (8 * (g.r : Int)), .slice (some ⟨g.bU, 0, none⟩) (8 * g.c * (8 * g.r)) g.cU, .int .i64 (8 * (g.c : Int)), .int .i64 (8 * (g.r : Int)), .slice (some ⟨g.bV, 0, none⟩) (8 * g.c * (8 * g.r)) g.cV] PL3); replace HQ := HQ.alloc (.cells #[.int .i64 (16 * (g.c : Int)), .int .i64 (16 * (g.r : Int)), .slice (some ⟨g.bY, 0, none⟩) (16 * g.c * (16 * g.r)) g.cY, .int .i64 (8 * (g.c : Int)), .int .i64 (8 * (g.r : Int)), .slice (some ⟨g.bU, 0, none⟩) (8 * g.c * (8 * g.r)) g.cU, .int .i64 (8 * (g.c : Int)), .int .i64 (8 * (g.r : Int)), .slice (some ⟨g.bV, 0, none⟩) (8 * g.c * (8 * g.r)) g.cV] PL3); replace HG := HG.alloc (.cells #[.int .i64 (16 * (g.c : Int)), .int .i64 (16 * (g.r : Int)), .slice (some ⟨g.bY, 0, none⟩) (16 * g.c * (16 * g.r)) g.cY, .int .i64 (8 * (g.c : Int)), .int .i64 (8 * (g.r : Int)), .slice (some ⟨g.bU, 0, none⟩) (8 * g.c * (8 * g.r)) g.cU, .int .i64 (8 * (g.c : Int)), .int .i64 (8 * (g.r : Int)), .slice (some ⟨g.bV, 0, none⟩) (8 * g.c * (8 * g.r)) g.cV] PL3); replace hM := hM.alloc (.cells #[.int .i64 (16 * (g.c : Int)), .int .i64 (16 * (g.r : Int)), .slice (some ⟨g.bY, 0, none⟩) (16 * g.c * (16 * g.r)) g.cY, .int .i64 (8 * (g.c : Int)), .int .i64 (8 * (g.r : Int)), .slice (some ⟨g.bU, 0, none⟩) (8 * g.c * (8 * g.r)) g.cU, .int .i64 (8 * (g.c : Int)), .int .i64 (8 * (g.r : Int)), .slice (some ⟨g.bV, 0, none⟩) (8 * g.c * (8 * g.r)) g.cV] PL3); replace HW := HW.alloc HW.size (.cells #[.int .i64 (16 * (g.c : Int)), .int .i64 (16 * (g.r : Int)), .slice (some ⟨g.bY, 0, none⟩) (16 * g.c * (16 * g.r)) g.cY, .int .i64 (8 * (g.c : Int)), .int .i64 (8 * (g.r : Int)), .slice (some ⟨g.bU, 0, none⟩) (8 * g.c * (8 * g.r)) g.cU, .int .i64 (8 * (g.c : Int)), .int .i64 (8 * (g.r : Int)), .slice (some ⟨g.bV, 0, none⟩) (8 * g.c * (8 * g.r)) g.cV] PL3)
    go_wp2_with (refine wpList_load_ob HG rfl _ _ rfl rfl Try.underlying58 (by kernel_rfl) ?_)
    generalize w10.alloc (.cells #[.int .i64 (16 * (g.c : Int)), .int .i64 (16 * (g.r : Int)), .slice (some ⟨g.bY, 0, none⟩) (16 * g.c * (16 * g.r)) g.cY, .int .i64 (8 * (g.c : Int)), .int .i64 (8 * (g.r : Int)), .slice (some ⟨g.bU, 0, none⟩) (8 * g.c * (8 * g.r)) g.cU, .int .i64 (8 * (g.c : Int)), .int .i64 (8 * (g.r : Int)), .slice (some ⟨g.bV, 0, none⟩) (8 * g.c * (8 * g.r)) g.cV] PL3) = w11 at *
    generalize w10.heap.size = l1 at *
    refine (clone_any g _ hM).mono ?_
    rintro e w12 ⟨h, rfl, hlk, hH, -, hb⟩
    replace HP := HP.later hb; replace HQ := HQ.later hb; replace HL := HL.later hb; replace HG := HG.later hb; replace hM := hM.later hb; replace HW := below_step HW hb
    clear hb
    have hsame := Lib.hid (sameB_like hlk)
    have hlc := Lib.hid hlk.c; have hlr := Lib.hid hlk.r
    clear hlk
    unfold Fr.val
    go_wp2_with (refine wpList_store_stop (Ob.new_at (w := w12) FRT frZ rfl) rfl _ _ _ rfl rfl h.cells rfl (by kernel_rfl) rfl rfl ?_)
    intro w13 hw13
    have HH := cell_ob hw13.out
    replace HP := cell_keep hw13.out HP; replace HQ := cell_keep hw13.out HQ; replace HL := cell_keep hw13.out HL; replace HG := cell_keep hw13.out HG
    replace hM := cell_mem hw13.out hM; replace hH := cell_mem hw13.out hH
    have hhx : w.heap.size ≤ w12.heap.size := HW.size
    replace HW := cell_below hw13.out HW HW.size
    clear hw13
    generalize w12.heap.size = h1 at *
    have v1 := conv_any g.cV hM.v
    have p0 : w13.cell? ⟨p1, 0, none⟩ = some (.int .i64 (8 * (g.c : Int))) := HP.cell 0 rfl
    have p2 : w13.cell? ⟨p1, 2, none⟩ = some (.slice (some ⟨g.bV, 0, none⟩) (8 * g.c * (8 * g.r)) g.cV) := HP.cell 2 rfl
    have q0 : w13.cell? ⟨q1, 0, none⟩ = some (.int .i64 (8 * (g.c : Int))) := HQ.cell 0 rfl
    have q2 : w13.cell? ⟨q1, 2, none⟩ = some (.slice (some ⟨g.bV, 0, none⟩) (8 * g.c * (8 * g.r)) g.cV) := HQ.cell 2 rfl
    have u0 := HG.fC; have u1 := HG.fR; have u2 := HG.fYW; have u3 := HG.fYH; have u4 := HG.fYS; have u5 := HG.fUW; have u6 := HG.fUH; have u7 := HG.fUS; have u8 := HG.fVW; have u9 := HG.fVH; have u10 := HG.fVS
    have x0 := HH.fC; have x1 := HH.fR; have x2 := HH.fYW; have x3 := HH.fYH; have x4 := HH.fYS; have x5 := HH.fUW; have x6 := HH.fUH; have x7 := HH.fUS; have x8 := HH.fVW; have x9 := HH.fVH; have x10 := HH.fVS
    go_wp2_with fail
    have hsa := same_any g h w13 hM hH
    rw [hsame.out] at hsa
    refine hsa.mono ?_
    clear hsa v1 p0 p2 q0 q2 HP HQ hsame u0 u1 u2 u3 u4 u5 u6 u7 u8 u9 u10 x0 x1 x2 x3 x4 x5 x6 x7 x8 x9 x10
    rintro e w14 ⟨rfl, hb⟩
    replace HL := HL.later hb; replace HG := HG.later hb; replace HH := HH.later hb; replace hM := hM.later hb; replace HW := below_step HW hb
    clear hb hH
    have v1 := conv_any g.cY hM.y; have v2 := conv_any g.cU hM.u; have v3 := conv_any g.cV hM.v
    have n1 : 16 * g.c * (16 * g.r) ≤ 16384 := Nat.le_trans (Nat.mul_le_mul (by omega : _ ≤ 128) (by omega : _ ≤ 128)) (by omega)
    have n2 : 8 * g.c * (8 * g.r) ≤ 16384 := Nat.le_trans (Nat.mul_le_mul (by omega : _ ≤ 128) (by omega : _ ≤ 128)) (by omega)
    obtain ⟨S1, hS1, z1⟩ : ∃ S, strF (16 * g.c * (16 * g.r)) g.sY = S ∧ S.size ≤ 16384 := ⟨_, rfl, by rw [strF_size]; exact n1⟩
    obtain ⟨S2, hS2, z2⟩ : ∃ S, strF (8 * g.c * (8 * g.r)) g.sU = S ∧ S.size ≤ 16384 := ⟨_, rfl, by rw [strF_size]; exact n2⟩
    obtain ⟨S3, hS3, z3⟩ : ∃ S, strF (8 * g.c * (8 * g.r)) g.sV = S ∧ S.size ≤ 16384 := ⟨_, rfl, by rw [strF_size]; exact n2⟩
    rw [hS1] at v1; rw [hS2] at v2; rw [hS3] at v3
    have z4 : ¬ S1.size + S2.size > 9223372036854775807 := by omega
    have z5 : ¬ (S1 ++ S2).size + S3.size > 9223372036854775807 := by rw [ByteArray.size_append]; omega
    have l2 : w14.cell? ⟨l1, 2, none⟩ = some (.slice (some ⟨g.bY, 0, none⟩) (16 * g.c * (16 * g.r)) g.cY) := HL.cell 2 rfl
    have l5 : w14.cell? ⟨l1, 5, none⟩ = some (.slice (some ⟨g.bU, 0, none⟩) (8 * g.c * (8 * g.r)) g.cU) := HL.cell 5 rfl
    have l8 : w14.cell? ⟨l1, 8, none⟩ = some (.slice (some ⟨g.bV, 0, none⟩) (8 * g.c * (8 * g.r)) g.cV) := HL.cell 8 rfl
    have u0 := HG.fC; have u1 := HG.fR; have u2 := HG.fYW; have u3 := HG.fYH; have u4 := HG.fYS; have u5 := HG.fUW; have u6 := HG.fUH; have u7 := HG.fUS; have u8 := HG.fVW; have u9 := HG.fVH; have u10 := HG.fVS
    clear hS1 hS2 hS3 n1 n2
    go_wp2_with fail
    refine (check_ok g _ (by omega) (by omega) (by omega) (by omega)).mono ?_
    rintro e w15 ⟨rfl, hb⟩
    replace HH := HH.later hb; replace HW := below_step HW hb
    clear hb v1 v2 v3 z1 z2 z3 z4 z5 l2 l5 l8 u0 u1 u2 u3 u4 u5 u6 u7 u8 u9 u10 HL HG hM
    have hlc2 := hlc.out; have hlr2 := hlr.out
    have b5 : bent % 5 = 0 ∨ bent % 5 = 1 ∨ bent % 5 = 2 ∨ bent % 5 = 3 ∨ bent % 5 = 4 := by omega
    clear hlc hlr
    replace b5 := Lib.hid b5
    obtain ⟨hc_, hr_, BY, BU, BV, KY, KU, KV, SY, SU, SV⟩ := h
    simp only at hlc2 hlr2
    subst hlc2 hlr2
    replace HH : Ob w15 h1 FRT #[.int .i64 (g.c : Int), .int .i64 (g.r : Int), .int .i64 (16 * (g.c : Int)), .int .i64 (16 * (g.r : Int)), .slice (some ⟨BY, 0, none⟩) (16 * g.c * (16 * g.r)) KY, .int .i64 (8 * (g.c : Int)), .int .i64 (8 * (g.r : Int)), .slice (some ⟨BU, 0, none⟩) (8 * g.c * (8 * g.r)) KU, .int .i64 (8 * (g.c : Int)), .int .i64 (8 * (g.r : Int)), .slice (some ⟨BV, 0, none⟩) (8 * g.c * (8 * g.r)) KV] := HH
    rcases b5.out with k | k | k | k | k
    · clear b5
      have fz := HH.free 0
      have cz : w15.cell? ⟨h1, 0, none⟩ = some (.int .i64 (g.c : Int)) := HH.cell 0 rfl
      go_wp2_with (refine wpList_load_ob (HH.set 0 _) rfl _ _ rfl rfl Try.underlying58 (by kernel_rfl) ?_)
      all_goals
        refine (check_bent0 (g.c : Int) (g.r : Int) _ _ _ _ _ _ _ _ _ _ (by omega) (by omega) rfl).mono ?_
        rintro e w16 ⟨rfl, hb⟩
        replace HW := below_step (HW.setCell (p := ⟨h1, 0, none⟩) hhx _) hb
        clear hb fz cz
        go_wp2_with fail
        go_ret
        exact ⟨rfl, HW⟩
    · clear b5
      have fz := HH.free 2
      have cz : w15.cell? ⟨h1, 2, none⟩ = some (.int .i64 (16 * (g.c : Int))) := HH.cell 2 rfl
      go_wp2_with (refine wpList_load_ob (HH.set 2 _) rfl _ _ rfl rfl Try.underlying58 (by kernel_rfl) ?_)
      all_goals
        refine (check_bent1 (g.c : Int) (g.r : Int) _ _ _ _ _ _ _ _ _ (by omega) (by omega)).mono ?_
        rintro e w16 ⟨rfl, hb⟩
        replace HW := below_step (HW.setCell (p := ⟨h1, 2, none⟩) hhx _) hb
        clear hb fz cz
        go_wp2_with fail
        go_ret
        exact ⟨rfl, HW⟩
    · clear b5
      have fz := HH.free 7
      have cz : w15.cell? ⟨h1, 7, none⟩ = some (.slice (some ⟨BU, 0, none⟩) (8 * g.c * (8 * g.r)) KU) := HH.cell 7 rfl
      have hn8 : 1 ≤ 8 * g.c * (8 * g.r) := Nat.mul_pos (by omega) (by omega)
      have dn8 : decide ((1 : Int) ≤ 8 * (g.c : Int) * (8 * (g.r : Int))) = true := by
        have : ((1 : Nat) : Int) ≤ ((8 * g.c * (8 * g.r) : Nat) : Int) := by omega
        simpa using this
      go_wp2_with (refine wpList_load_ob (HH.set 7 _) rfl _ _ rfl rfl Try.underlying58 (by kernel_rfl) ?_)
      all_goals
        refine (check_bent2 g.c g.r _ _ _ _ _ _ _ ⟨f1, f2⟩ ⟨f3, f4⟩).mono ?_
        rintro e w16 ⟨rfl, hb⟩
        replace HW := below_step (HW.setCell (p := ⟨h1, 7, none⟩) hhx _) hb
        clear hb fz cz
        go_wp2_with fail
        go_ret
        exact ⟨rfl, HW⟩
    · clear b5
      have fz := HH.free 9
      have cz : w15.cell? ⟨h1, 9, none⟩ = some (.int .i64 (8 * (g.r : Int))) := HH.cell 9 rfl
      go_wp2_with (refine wpList_load_ob (HH.set 9 _) rfl _ _ rfl rfl Try.underlying58 (by kernel_rfl) ?_)
      all_goals
        refine (check_bent3 (g.c : Int) (g.r : Int) _ _ _ _ (by omega) (by omega)).mono ?_
        rintro e w16 ⟨rfl, hb⟩
        replace HW := below_step (HW.setCell (p := ⟨h1, 9, none⟩) hhx _) hb
        clear hb fz cz
        go_wp2_with fail
        go_ret
        exact ⟨rfl, HW⟩
    · clear b5
      have fz := HH.free 1
      have cz : w15.cell? ⟨h1, 1, none⟩ = some (.int .i64 (g.r : Int)) := HH.cell 1 rfl
      go_wp2_with (refine wpList_load_ob (HH.set 1 _) rfl _ _ rfl rfl Try.underlying58 (by kernel_rfl) ?_)
      all_goals
        refine (check_size (g.c : Int) 9 _ _ _ _ _ _ _ _ _ _ (by omega)).mono ?_
        rintro e w16 ⟨rfl, hb⟩
        replace HW := below_step (HW.setCell (p := ⟨h1, 1, none⟩) hhx _) hb
        clear hb fz cz
        go_wp2_with fail
        go_ret
        exact ⟨rfl, HW⟩


end Go.Proofs.Ytggdaefgaakijaa

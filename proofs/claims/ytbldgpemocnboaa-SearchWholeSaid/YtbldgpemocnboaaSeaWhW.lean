/- The walk of the law SearchWhole: true at every input. -/
import Derived.Test.YtbldgpemocnboaaSeaL
import Derived.Test.YtbldgpemocnboaaFrRe
import Derived.Test.YtbldgpemocnboaaCompWholeW
import Derived.Test.YtbldgpemocnboaaConM
import Derived.Deep.DeepCutAuto
namespace Go.Proofs.Ytbldgpemocnboaa
open Go.RowKit Go.Sort
attribute [local go_sem ↓] run_imax run_imin

theorem grid_step {A : Int → Int → Bool} {F : Int → Int → Int} {s0 : St} (X Y n by_ : Int) (m j i : Nat) (hi : i < m) :
    tryL A F s0 (stepsTo X Y n by_ m (j * m + (i + 1))) = tryL A F (tryL A F s0 (stepsTo X Y n by_ m (j * m + i))) (rightL (X + (-n + by_ * (i : Int))) (Y + (-n + by_ * (j : Int)))).toList := by
  have e1 : (j * m + i) % m = i := by rw [Nat.mul_comm, Nat.mul_add_mod, Nat.mod_eq_of_lt hi]
  have e2 : (j * m + i) / m = j := by rw [Nat.mul_comm, Nat.mul_add_div (by omega), Nat.div_eq_of_lt hi, Nat.add_zero]
  have e : stF X Y n by_ m (j * m + i) = rightL (X + (-n + by_ * (i : Int))) (Y + (-n + by_ * (j : Int))) := by
    unfold stF rightL; rw [e1, e2]
  show tryL A F s0 (stepsTo X Y n by_ m (j * m + i) ++ (stF X Y n by_ m (j * m + i)).toList) = _
  rw [tryL_app, e]
set_option maxRecDepth 1000000 in
set_option maxHeartbeats 16000000 in
theorem searchWhole_walk (co ro ki a b c sd : Int) (p : Option Addr) (n m : Nat) (sl : Nat → Int) (co' ro' ki' a' b' c' sd' : Int) (p' : Option Addr) (n' m' : Nat) (sl' : Nat → Int) (mb far limit : Int) (d : Bool) (w : World)
    (hw : SmallW co ro ki a b c sd n sl) (hn : n ≤ maxLen) (hS : SL w p n (u8v sl)) (hw' : SmallW co' ro' ki' a' b' c' sd' n' sl') (hn' : n' ≤ maxLen) (hS' : SL w p' n' (u8v sl'))
    (hmb : 0 ≤ mb ∧ mb ≤ 255) (hfar : 0 ≤ far ∧ far ≤ 255) (hlim : 0 ≤ limit ∧ limit ≤ 255) :
    Calls Try.prog 8 #[smV co ro ki a b c sd p n m, smV co' ro' ki' a' b' c' sd' p' n' m', .int .u8 mb, .int .u8 far, .int .u8 limit, .bool d] w fun e w' => e = .returned (.bool true) ∧ Below w.heap.size w w' := by
  replace hw := Lib.hid hw; replace hS := Lib.hid hS; replace hw' := Lib.hid hw'; replace hS' := Lib.hid hS'
  obtain ⟨hmb0, hmb1⟩ := hmb
  obtain ⟨hf0, hf1⟩ := hfar; obtain ⟨hl0, hl1⟩ := hlim
  unfold smV
  go_enter Try.func8, Try.ntmps8
  go_wp2_with fail
  have HB : Ob (((w.alloc (.cells (smC co ro ki a b c sd p n m) SMT)).alloc (.cells (smC co' ro' ki' a' b' c' sd' p' n' m') SMT)).alloc (.cells #[.bool d] 4)) w.heap.size SMT (smC co ro ki a b c sd p n m) := ((Ob.new_at _ _ rfl).alloc _).alloc _
  have HT : Ob (((w.alloc (.cells (smC co ro ki a b c sd p n m) SMT)).alloc (.cells (smC co' ro' ki' a' b' c' sd' p' n' m') SMT)).alloc (.cells #[.bool d] 4)) (w.heap.size + 1) SMT (smC co' ro' ki' a' b' c' sd' p' n' m') := (Ob.new_at _ _ (by simp)).alloc _
  have HD : Ob (((w.alloc (.cells (smC co ro ki a b c sd p n m) SMT)).alloc (.cells (smC co' ro' ki' a' b' c' sd' p' n' m') SMT)).alloc (.cells #[.bool d] 4)) (w.heap.size + 1 + 1) 4 #[.bool d] := Ob.new_at _ _ (by simp)
  have HW : Below w.heap.size w (((w.alloc (.cells (smC co ro ki a b c sd p n m) SMT)).alloc (.cells (smC co' ro' ki' a' b' c' sd' p' n' m') SMT)).alloc (.cells #[.bool d] 4)) := by ((repeat (first | exact Below.refl _ _ | assumption | refine Below.setCell ?_ (by first | omega | (simp; done) | (simp; omega)) _ | refine Below.alloc ?_ (by first | omega | (simp; done) | (simp; omega)) _ | refine below_drewN ?_ _ | refine Below.drew ?_ | refine below_setRow ?_ (by first | omega | (simp; done) | (simp; omega)) _)))
  unfold smC at *
  generalize ((w.alloc (.cells #[.int .u8 co, .int .u8 ro, .int .u8 ki, .int .u8 a, .int .u8 b, .int .u8 c, .int .u32 sd, .slice p n m] SMT)).alloc (.cells #[.int .u8 co', .int .u8 ro', .int .u8 ki', .int .u8 a', .int .u8 b', .int .u8 c', .int .u32 sd', .slice p' n' m'] SMT)).alloc (.cells #[.bool d] 4) = w0 at *
  have gd : w.heap.size ≤ w.heap.size + 1 + 1 := by omega
  refine (awake28 _).mono ?_
  rintro e w1 ⟨rfl, hb⟩
  replace HB := HB.later hb; replace HT := HT.later hb; replace HD := HD.later hb; replace HW := below_step HW hb
  clear hb
  go_wp2_with (refine wpList_load_ob_g HB rfl 38 _ rfl rfl Try.underlying38 (by kernel_rfl) ?_)
  refine (light_any co ro ki a b c sd p n m _ hn).mono ?_
  rintro e w2 ⟨rfl, hb⟩
  replace HB := HB.later hb; replace HT := HT.later hb; replace HD := HD.later hb; replace HW := below_step HW hb
  clear hb
  by_cases hn2 : n ≤ 2000
  case neg =>
    have hd : decide (n ≤ 2000) = false := by simpa using hn2
    go_wp2_with fail
    go_ret
    exact ⟨rfl, HW⟩
  have hd : decide (n ≤ 2000) = true := by simpa using hn2
  go_wp2_with (refine wpList_load_ob_g HT rfl 38 _ rfl rfl Try.underlying38 (by kernel_rfl) ?_)
  refine (light_any co' ro' ki' a' b' c' sd' p' n' m' _ hn').mono ?_
  rintro e w3 ⟨rfl, hb⟩
  replace HB := HB.later hb; replace HT := HT.later hb; replace HD := HD.later hb; replace HW := below_step HW hb
  clear hb
  by_cases hn3 : n' ≤ 2000
  case neg =>
    have hd2 : decide (n' ≤ 2000) = false := by simpa using hn3
    go_wp2_with fail
    go_ret
    exact ⟨rfl, HW⟩
  have hd2 : decide (n' ≤ 2000) = true := by simpa using hn3
  go_wp2_with (refine wpList_load_ob_g HB rfl 38 _ rfl rfl Try.underlying38 (by kernel_rfl) ?_)
  clear hd hd2
  refine (smallW_any hw.out hn2 (sl_later hS.out HW)).mono ?_
  rintro e w4 ⟨f, rfl, f1, f2, f3, f4, hM, -, hb⟩
  replace HT := HT.later hb; replace HD := HD.later hb; replace HW := below_step HW hb
  clear hb
  clear HB
  have hc8 := hM.hc; have hr8 := hM.hr
  unfold Fr.val
  go_wp2_with (refine wpList_store_stop (Ob.new_at (w := w4) FRT frZ rfl) rfl _ _ _ rfl rfl f.cells rfl (by kernel_rfl) rfl rfl ?_)
  intro w5 hw5
  have HF := cell_ob hw5.out
  replace HT := cell_keep hw5.out HT; replace HD := cell_keep hw5.out HD
  replace hM := cell_mem hw5.out hM
  replace HW := cell_below hw5.out HW HW.size
  clear hw5
  generalize w4.heap.size = q at *
  have g0 := HF.fC; have g1 := HF.fR
  go_wp2_with (refine wpList_load_ob_g HT rfl 38 _ rfl rfl Try.underlying38 (by kernel_rfl) ?_)
  clear g0 g1
  refine (sized_any co' ro' ki' a' b' c' sd' p' n' m' sl' f.c f.r _ hw'.out.ki hw'.out.a hw'.out.b hw'.out.c hw'.out.sd hn3 (sl_later hS'.out HW) hw'.out.sl (by omega) (by omega)).mono ?_
  rintro e w6 ⟨g, rfl, hgc, hgr, hG, gF, hb⟩
  clear gF
  replace HF := HF.later hb; replace hM := hM.later hb; replace HD := HD.later hb; replace HW := below_step HW hb
  clear hb
  clear HT
  unfold Fr.val
  go_wp2_with (refine wpList_store_stop (Ob.new_at (w := w6) FRT frZ rfl) rfl _ _ _ rfl rfl g.cells rfl (by kernel_rfl) rfl rfl ?_)
  intro w7 hw7
  have HG := cell_ob hw7.out
  replace HF := cell_keep hw7.out HF; replace HD := cell_keep hw7.out HD
  replace hM := cell_mem hw7.out hM; replace hG := cell_mem hw7.out hG
  replace HW := cell_below hw7.out HW HW.size
  clear hw7
  generalize w6.heap.size = z at *
  obtain ⟨M, hMe⟩ : ∃ M, f.c * f.r = M := ⟨_, rfl⟩
  have hM0 : 0 < M := by rw [← hMe]; exact Nat.mul_pos (by omega) (by omega)
  have hM9 : M ≤ 9 := by rw [← hMe]; exact Nat.mul_le_mul f2 f4
  obtain ⟨N, hN1, hN2⟩ := fmb_of mb hM0 hmb0
  have hMi : (f.c : Int) * (f.r : Int) = (M : Int) := by rw [← Int.natCast_mul, hMe]
  have hN3 : mb.tmod ((f.c : Int) * (f.r : Int)) = (N : Int) := by rw [hMi]; exact hN1
  have hz0 : ((f.c : Int) * (f.r : Int) == 0) = false := by rw [hMi]; simp; omega
  have hp0 : 0 < (f.c : Int) * (f.r : Int) := by rw [hMi]; omega
  have hp1 : (f.c : Int) * (f.r : Int) ≤ 9 := by rw [hMi]; omega
  replace hMe := Lib.hid hMe; replace hMi := Lib.hid hMi; replace hN1 := Lib.hid hN1
  have g0 := HF.fC; have g1 := HF.fR
  obtain ⟨W, hWf, hW2⟩ : ∃ W : Nat, far % 3 = (W : Int) ∧ W ≤ 2 := ⟨(far % 3).toNat, by omega, by omega⟩
  obtain ⟨l, hl⟩ : ∃ l, limit % 5 * 12 = l := ⟨_, rfl⟩
  have hl5 : 0 ≤ limit % 5 * 12 ∧ limit % 5 * 12 ≤ 48 := by omega
  obtain ⟨l0, l1⟩ := hl5
  have hm : N ≤ 1000000 := by omega
  have h1 : 0 < f.c := by omega
  have gc0 : 0 < g.c := by omega
  have gr0 : 0 < g.r := by omega
  replace hgc := Lib.hid hgc; replace hgr := Lib.hid hgr
  go_upto_region 11 with fail
  clear g0 g1 hN3 hz0 hp0 hp1
  generalize hwA : ((((w7.alloc (.cells #[.int .i64 (N : Int)] 3)).alloc (.cells #[.int .i64 l] 3)).alloc (.cells #[.complex .f64 0 0] CXT)).alloc (.cells #[.int .i64 0] 3)).alloc (.cells #[.bool false] 4) = wA
  have hbA : Below w7.heap.size w7 wA := by rw [← hwA]; ((repeat (first | exact Below.refl _ _ | assumption | refine Below.setCell ?_ (by first | omega | (simp; done) | (simp; omega)) _ | refine Below.alloc ?_ (by first | omega | (simp; done) | (simp; omega)) _ | refine below_drewN ?_ _ | refine Below.drew ?_ | refine below_setRow ?_ (by first | omega | (simp; done) | (simp; omega)) _)))
  have us := HW.size; have ud := HD.lt
  have hC : CapL q (w7.heap.size + 1) w7.heap.size z (w.heap.size + 1 + 1) l f g N d wA := by
    refine ⟨HF.later hbA, ?_, ?_, HG.later hbA, HD.later hbA, hM.later hbA, hG.later hbA⟩
    · rw [← hwA]; exact ((((Ob.new_at _ _ (by simp)).alloc _).alloc _).alloc _)
    · rw [← hwA]; exact (((((Ob.new_at _ _ rfl).alloc _).alloc _).alloc _).alloc _)
  have hS : StM (w7.heap.size + 1 + 1 + 1 + 1) (w7.heap.size + 1 + 1 + 1) (w7.heap.size + 1 + 1) ⟨0, 0, 0, false⟩ wA := by
    refine ⟨?_, ?_, ?_⟩
    · rw [← hwA]; exact Ob.new_at _ _ (by simp)
    · rw [← hwA]; exact (Ob.new_at _ _ (by simp)).alloc _
    · rw [← hwA]; exact ((Ob.new_at _ _ (by simp)).alloc _).alloc _
  replace HW := below_step HW hbA
  clear hwA hbA HF HG HD hM hG
  have n1 : w.heap.size + 1 + 1 ≠ w7.heap.size + 1 + 1 + 1 + 1 := by omega
  have n2 : w7.heap.size ≠ w7.heap.size + 1 + 1 + 1 := by omega
  have n3 : w7.heap.size + 1 ≠ w7.heap.size + 1 + 1 + 1 := by omega
  have q1 : w.heap.size ≤ w7.heap.size + 1 + 1 + 1 + 1 := by omega
  have q2 : w.heap.size ≤ w7.heap.size + 1 + 1 + 1 := by omega
  have q3 : w.heap.size ≤ w7.heap.size + 1 + 1 := by omega
  clear us ud
  generalize w7.heap.size + 1 + 1 + 1 + 1 = bk at *
  generalize w7.heap.size + 1 + 1 + 1 = bl at *
  generalize w7.heap.size + 1 + 1 = bb at *
  generalize w7.heap.size + 1 = bL at *
  generalize w7.heap.size = bn at *
  have gd2 : w.heap.size + 1 + 1 = w.heap.size + 1 + 1 := rfl
  clear gd2
  obtain ⟨bd, hbd⟩ : ∃ bd, w.heap.size + 1 + 1 = bd := ⟨_, rfl⟩
  rw [hbd] at hC n1 ⊢
  replace hbd := Lib.hid hbd
  have htry : ∀ (s : St) (x y : Int) (W1 : World), CapL q bL bn z bd l f g N d W1 → StM bk bl bb s W1 → V64 x y → Calls Try.prog 54 #[vcV x y, ptr q, ptr bL, ptr bn, ptr z, ptr bd, ptr bk, ptr bl, ptr bb] W1 fun e w' => e = .returned (.tuple #[]) ∧ StM bk bl bb (tryL (alwA l f N) (whoA f g N d) s (rightL x y).toList) w' ∧ WrF bk bl bb W1 w' := fun s x y W1 a1 a2 a3 => by
    rw [← may_step]
    exact lawTry_any q bL bn z bd bk bl bb l f g N d s x y W1 a1 a2 a3 h1 gc0 gr0 hm
  have hwh := fun W1 => wholeS_any (W : Int) l W f g N d W1 (by rw [imin_eq, imax_eq]; omega)
  obtain ⟨A, hA⟩ : ∃ A, alwA l f N = A := ⟨_, rfl⟩
  obtain ⟨F, hF⟩ : ∃ F, whoA f g N d = F := ⟨_, rfl⟩
  rw [hA, hF] at htry hwh
  unfold ptr at htry
  replace htry := Lib.hid htry; replace hwh := Lib.hid hwh; replace hA := Lib.hid hA; replace hF := Lib.hid hF
  go_wp2_with fail
  refine (htry.out ⟨0, 0, 0, false⟩ 0 0 _ hC hS ⟨⟨by omega, by omega⟩, by omega, by omega⟩).mono ?_
  rintro e w9 ⟨rfl, hS2, hwf⟩
  replace hC := hC.wrf hS n1 n2 n3 hwf
  replace HW := hwf.below HW HW.size q1 q2 q3
  replace hS : StM bk bl bb (who1 A F) w9 := hS2
  clear hS2 hwf
  obtain ⟨T, hT⟩ : ∃ T : Nat → St, (fun q => tryL A F (who1 A F) (stepsTo 0 0 (2 * (W : Int)) 2 (2 * W + 1) q)) = T := ⟨_, rfl⟩
  have hT0 : T 0 = who1 A F := by rw [← hT]; rfl
  have hTe : T ((2 * W + 1) * (2 * W + 1)) = who2 A F W := by rw [← hT]; rfl
  have hTs : ∀ j i : Nat, i < 2 * W + 1 → T (j * (2 * W + 1) + (i + 1)) = tryL A F (T (j * (2 * W + 1) + i)) (rightL (2 * ((i : Int) - W)) (2 * ((j : Int) - W))).toList := fun j i hi => by
    rw [← hT]
    show tryL A F (who1 A F) (stepsTo 0 0 (2 * (W : Int)) 2 (2 * W + 1) (j * (2 * W + 1) + (i + 1))) = _
    rw [grid_step 0 0 (2 * (W : Int)) 2 (2 * W + 1) j i hi, show (0 : Int) + (-(2 * (W : Int)) + 2 * (i : Int)) = 2 * ((i : Int) - W) by omega, show (0 : Int) + (-(2 * (W : Int)) + 2 * (j : Int)) = 2 * ((j : Int) - W) by omega]
  rw [← hT0] at hS
  replace hT := Lib.hid hT; replace hT0 := Lib.hid hT0; replace hTe := Lib.hid hTe; replace hTs := Lib.hid hTs
  have w0 : (0 : Int) ≤ (W : Int) := by omega
  have w2 : (W : Int) ≤ 2 := by omega
  go_wp2_with fail
  go_loopw [22] (fun y wr => ∃ j : Nat, j ≤ 2 * W + 1 ∧ y = .int .i64 ((j : Int) - W) ∧ StM bk bl bb (T (j * (2 * W + 1))) wr ∧ CapL q bL bn z bd l f g N d wr ∧ Below w.heap.size w wr) (fun y _ => ((W : Int) + 1 - intOf y).toNat)
  case atStart => exact ⟨0, by omega, by rw [show ((0 : Nat) : Int) - (W : Int) = -(W : Int) by omega], by rw [Nat.zero_mul]; exact hS, hC, HW⟩
  case round =>
    clear hS hC HW
    obtain ⟨j, hj, rfl, hS, hC, HW⟩ := hrel
    by_cases hjm : j < 2 * W + 1
    · have hd : decide ((j : Int) - (W : Int) ≤ (W : Int)) = true := by simp; omega
      have j0 : -2 ≤ (j : Int) - (W : Int) := by omega
      have j1 : (j : Int) - (W : Int) ≤ 2 := by omega
      go_wp2_with fail
      clear hd
      go_loopw [23] (fun x wx => ∃ i : Nat, i ≤ 2 * W + 1 ∧ x = .int .i64 ((i : Int) - W) ∧ StM bk bl bb (T (j * (2 * W + 1) + i)) wx ∧ CapL q bL bn z bd l f g N d wx ∧ Below w.heap.size w wx) (fun x _ => ((W : Int) + 1 - intOf x).toNat)
      case atStart => exact ⟨0, by omega, by rw [show ((0 : Nat) : Int) - (W : Int) = -(W : Int) by omega], by rw [Nat.add_zero]; exact hS, hC, HW⟩
      case round =>
        clear hS hC HW
        obtain ⟨i, hi, rfl, hS, hC, HW⟩ := hrel
        by_cases him : i < 2 * W + 1
        · have hd : decide ((i : Int) - (W : Int) ≤ (W : Int)) = true := by simp; omega
          have i0 : -2 ≤ (i : Int) - (W : Int) := by omega
          have i1 : (i : Int) - (W : Int) ≤ 2 := by omega
          have hst := hTs.out j i him
          have hof := fun W1 => of_any (2 * ((i : Int) - (W : Int))) (2 * ((j : Int) - (W : Int))) W1
          have ht2 := fun W1 a1 a2 => htry.out (T (j * (2 * W + 1) + i)) (2 * ((i : Int) - (W : Int))) (2 * ((j : Int) - (W : Int))) W1 a1 a2 ⟨⟨by omega, by omega⟩, by omega, by omega⟩
          rw [← hst] at ht2
          replace hst := Lib.hid hst; replace hof := Lib.hid hof; replace ht2 := Lib.hid ht2
          go_wp2_with fail
          refine (hof.out _).mono ?_
          rintro e wy ⟨rfl, rfl⟩
          go_wp2_with fail
          refine (ht2.out _ hC hS).mono ?_
          rintro e w10 ⟨rfl, hS2, hwf⟩
          replace hC := hC.wrf hS n1 n2 n3 hwf
          replace HW := hwf.below HW HW.size q1 q2 q3
          replace hS := hS2
          clear hS2 hwf hof ht2 hst
          go_wp2_with fail
          exact ⟨⟨i + 1, by omega, by rw [show (((i + 1 : Nat) : Int)) - (W : Int) = (i : Int) - W + 1 by omega], hS, hC, HW⟩, by simp [intOf]; omega⟩
        · obtain rfl : i = 2 * W + 1 := by omega
          have hd : decide (((2 * W + 1 : Nat) : Int) - (W : Int) ≤ (W : Int)) = false := by simp; omega
          have e3 : j * (2 * W + 1) + (2 * W + 1) = (j + 1) * (2 * W + 1) := by rw [Nat.add_mul, Nat.one_mul]
          rw [e3] at hS
          replace e3 := Lib.hid e3
          go_wp2_with fail
          exact ⟨⟨j + 1, by omega, by rw [show (((j + 1 : Nat) : Int)) - (W : Int) = (j : Int) - W + 1 by omega], hS, hC, HW⟩, by simp [intOf]; omega⟩
    · obtain rfl : j = 2 * W + 1 := by omega
      have hd : decide (((2 * W + 1 : Nat) : Int) - (W : Int) ≤ (W : Int)) = false := by simp; omega
      rw [hTe.out] at hS
      have hb2 := who2_b A F W
      obtain ⟨⟨x0, x1⟩, y0, y1⟩ := hb2
      have hb3 := who3_b A F W
      obtain ⟨⟨x2, x3⟩, y2, y3⟩ := hb3
      have h3 : who3 A F W = if (who2 A F W).ok = true then tryL A F (who2 A F W) (stepsTo (who2 A F W).x (who2 A F W).y 1 1 3 (3 * 3)) else who2 A F W := rfl
      obtain ⟨S2, hS2e⟩ : ∃ S, who2 A F W = S := ⟨_, rfl⟩
      rw [hS2e] at hS x0 x1 y0 y1 h3
      have ck := hS.k.cell 0 rfl
      have cb := hS.b.cell 0 rfl
      clear hTs hT0 hT hTe
      replace hS2e := Lib.hid hS2e
      cases hok : S2.ok
      · rw [hok] at ck
        rw [if_neg (by rw [hok]; simp)] at h3
        rw [← h3] at hS
        replace h3 := Lib.hid h3; replace hok := Lib.hid hok
        clear cb
        clear hd
        go_upto_region 29 with fail
        clear ck
        have m0 := hC.om.cell 0 (v := .int .i64 (N : Int)) rfl; have m1 := hC.od.cell 0 (v := .bool d) rfl; have m2 := hC.ol.cell 0 (v := .int .i64 l) rfl
        have HF := hC.of; have HG := hC.og
        go_wp2_with (first | (refine wpList_load_ob_g HF rfl 43 _ rfl rfl Try.underlying43 (by kernel_rfl) ?_) | (refine wpList_load_ob_g HG rfl 43 _ rfl rfl Try.underlying43 (by kernel_rfl) ?_))
        clear m0 m1 m2 HF HG
        refine (hwh.out _ hC.hf hC.hg h1 gc0 hm).mono ?_
        rintro e w20 ⟨rfl, hb⟩
        have o1 := ord_self (n := (who3 A F W).x) (by omega)
        have o2 := ord_self (n := (who3 A F W).y) (by omega)
        replace hS := hS.later hb; replace HW := below_step HW hb
        clear hb
        obtain ⟨S3, hS3⟩ : ∃ S, who3 A F W = S := ⟨_, rfl⟩
        rw [hS3] at hS o1 o2 ⊢
        have cb := hS.b.cell 0 rfl; have cl := hS.l.cell 0 rfl; have ck := hS.k.cell 0 rfl
        clear hwh htry
        replace hS3 := Lib.hid hS3
        unfold vcV at cb ⊢
        go_wp2_with fail
        go_ret
        exact ⟨rfl, HW⟩
      · rw [hok] at ck
        rw [if_pos hok] at h3
        obtain ⟨U, hU⟩ : ∃ U : Nat → St, (fun q => tryL A F S2 (stepsTo S2.x S2.y 1 1 3 q)) = U := ⟨_, rfl⟩
        have hU0 : U 0 = S2 := by rw [← hU]; rfl
        have hUe : U (3 * 3) = who3 A F W := by rw [h3, ← hU]
        have hUs : ∀ j i : Nat, i < 3 → U (j * 3 + (i + 1)) = tryL A F (U (j * 3 + i)) (rightL (S2.x + ((i : Int) - 1)) (S2.y + ((j : Int) - 1))).toList := fun j i hi => by
          rw [← hU]
          show tryL A F S2 (stepsTo S2.x S2.y 1 1 3 (j * 3 + (i + 1))) = _
          rw [grid_step S2.x S2.y 1 1 3 j i hi, show (-1 + 1 * (i : Int)) = (i : Int) - 1 by omega, show (-1 + 1 * (j : Int)) = (j : Int) - 1 by omega]
        rw [← hU0] at hS
        have hpa := fun W1 => parts_any S2.x S2.y W1 ⟨by omega, by omega⟩ ⟨by omega, by omega⟩
        replace h3 := Lib.hid h3; replace hok := Lib.hid hok; replace hU := Lib.hid hU; replace hU0 := Lib.hid hU0; replace hUe := Lib.hid hUe; replace hUs := Lib.hid hUs; replace hpa := Lib.hid hpa
        generalize S2.x = cx at *
        generalize S2.y = cy at *
        clear hd
        go_wp2_with fail
        clear ck cb
        refine (hpa.out _).mono ?_
        rintro e wz ⟨rfl, rfl⟩
        go_wp2_with fail
        go_loopw [26] (fun y wr => ∃ j : Nat, j ≤ 3 ∧ y = .int .i64 ((j : Int) - 1) ∧ StM bk bl bb (U (j * 3)) wr ∧ CapL q bL bn z bd l f g N d wr ∧ Below w.heap.size w wr) (fun y _ => (2 - intOf y).toNat)
        case atStart => exact ⟨0, by omega, rfl, by rw [Nat.zero_mul]; exact hS, hC, HW⟩
        case round =>
          clear hS hC HW
          obtain ⟨j, hj, rfl, hS, hC, HW⟩ := hrel
          by_cases hjm : j < 3
          · have hd : decide ((j : Int) - 1 ≤ 1) = true := by simp; omega
            have j0 : -1 ≤ (j : Int) - 1 := by omega
            have j1 : (j : Int) - 1 ≤ 1 := by omega
            go_wp2_with fail
            clear hd
            go_loopw [27] (fun x wx => ∃ i : Nat, i ≤ 3 ∧ x = .int .i64 ((i : Int) - 1) ∧ StM bk bl bb (U (j * 3 + i)) wx ∧ CapL q bL bn z bd l f g N d wx ∧ Below w.heap.size w wx) (fun x _ => (2 - intOf x).toNat)
            case atStart => exact ⟨0, by omega, rfl, by rw [Nat.add_zero]; exact hS, hC, HW⟩
            case round =>
              clear hS hC HW
              obtain ⟨i, hi, rfl, hS, hC, HW⟩ := hrel
              by_cases him : i < 3
              · have hd : decide ((i : Int) - 1 ≤ 1) = true := by simp; omega
                have i0 : -1 ≤ (i : Int) - 1 := by omega
                have i1 : (i : Int) - 1 ≤ 1 := by omega
                have hst := hUs.out j i him
                have hof := fun W1 => of_any (cx + ((i : Int) - 1)) (cy + ((j : Int) - 1)) W1
                have ht2 := fun W1 a1 a2 => htry.out (U (j * 3 + i)) (cx + ((i : Int) - 1)) (cy + ((j : Int) - 1)) W1 a1 a2 ⟨⟨by omega, by omega⟩, by omega, by omega⟩
                rw [← hst] at ht2
                replace hst := Lib.hid hst; replace hof := Lib.hid hof; replace ht2 := Lib.hid ht2
                go_wp2_with fail
                refine (hof.out _).mono ?_
                rintro e wy ⟨rfl, rfl⟩
                go_wp2_with fail
                refine (ht2.out _ hC hS).mono ?_
                rintro e w10 ⟨rfl, hS2, hwf⟩
                replace hC := hC.wrf hS n1 n2 n3 hwf
                replace HW := hwf.below HW HW.size q1 q2 q3
                replace hS := hS2
                clear hS2 hwf hof ht2 hst
                go_wp2_with fail
                exact ⟨⟨i + 1, by omega, by rw [show (((i + 1 : Nat) : Int)) - 1 = (i : Int) by omega], hS, hC, HW⟩, by simp [intOf]; omega⟩
              · obtain rfl : i = 3 := by omega
                have hd : decide (((3 : Nat) : Int) - 1 ≤ 1) = false := by decide
                have e3 : j * 3 + 3 = (j + 1) * 3 := by rw [Nat.add_mul, Nat.one_mul]
                rw [e3] at hS
                replace e3 := Lib.hid e3
                go_wp2_with fail
                exact ⟨⟨j + 1, by omega, by rw [show (((j + 1 : Nat) : Int)) - 1 = (j : Int) by omega], hS, hC, HW⟩, by simp [intOf]; omega⟩
          · obtain rfl : j = 3 := by omega
            have hd : decide (((3 : Nat) : Int) - 1 ≤ 1) = false := by decide
            rw [hUe.out] at hS
            go_upto_region 29 with fail
            clear hd
            have m0 := hC.om.cell 0 (v := .int .i64 (N : Int)) rfl; have m1 := hC.od.cell 0 (v := .bool d) rfl; have m2 := hC.ol.cell 0 (v := .int .i64 l) rfl
            have HF := hC.of; have HG := hC.og
            go_wp2_with (first | (refine wpList_load_ob_g HF rfl 43 _ rfl rfl Try.underlying43 (by kernel_rfl) ?_) | (refine wpList_load_ob_g HG rfl 43 _ rfl rfl Try.underlying43 (by kernel_rfl) ?_))
            clear m0 m1 m2 HF HG
            refine (hwh.out _ hC.hf hC.hg h1 gc0 hm).mono ?_
            rintro e w20 ⟨rfl, hb⟩
            have o1 := ord_self (n := (who3 A F W).x) (by omega)
            have o2 := ord_self (n := (who3 A F W).y) (by omega)
            replace hS := hS.later hb; replace HW := below_step HW hb
            clear hb
            obtain ⟨S3, hS3⟩ : ∃ S, who3 A F W = S := ⟨_, rfl⟩
            rw [hS3] at hS o1 o2 ⊢
            have cb := hS.b.cell 0 rfl; have cl := hS.l.cell 0 rfl; have ck := hS.k.cell 0 rfl
            clear hwh htry
            replace hS3 := Lib.hid hS3
            unfold vcV at cb ⊢
            go_wp2_with fail
            go_ret
            exact ⟨rfl, HW⟩
end Go.Proofs.Ytbldgpemocnboaa

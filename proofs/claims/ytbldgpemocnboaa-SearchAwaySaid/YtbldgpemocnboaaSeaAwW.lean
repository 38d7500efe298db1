/- The walk of the law SearchAway: true at every input. -/
import Derived.Test.YtbldgpemocnboaaSeaK
import Derived.Test.YtbldgpemocnboaaFrRe
import Derived.Test.YtbldgpemocnboaaCompWholeW
import Derived.Test.YtbldgpemocnboaaConM
namespace Go.Proofs.Ytbldgpemocnboaa
open Go.RowKit Go.Sort
attribute [local go_sem ↓] run_imax run_imin

set_option maxRecDepth 1000000 in
set_option maxHeartbeats 16000000 in
theorem searchAway_walk (co ro ki a b c sd : Int) (p : Option Addr) (n m : Nat) (sl : Nat → Int) (co' ro' ki' a' b' c' sd' : Int) (p' : Option Addr) (n' m' : Nat) (sl' : Nat → Int) (mb kk x y : Int) (bad : Bool) (w : World)
    (hw : SmallW co ro ki a b c sd n sl) (hn : n ≤ maxLen) (hS : SL w p n (u8v sl)) (hw' : SmallW co' ro' ki' a' b' c' sd' n' sl') (hn' : n' ≤ maxLen) (hS' : SL w p' n' (u8v sl'))
    (hmb : 0 ≤ mb ∧ mb ≤ 255) (hkk : 0 ≤ kk ∧ kk ≤ 255) (hx : -128 ≤ x ∧ x ≤ 127) (hy : -128 ≤ y ∧ y ≤ 127) :
    Calls Try.prog 9 #[smV co ro ki a b c sd p n m, smV co' ro' ki' a' b' c' sd' p' n' m', .int .u8 mb, .int .u8 kk, .int .i8 x, .int .i8 y, .bool bad] w fun e w' => e = .returned (.bool true) ∧ Below w.heap.size w w' := by
  replace hw := Lib.hid hw; replace hS := Lib.hid hS; replace hw' := Lib.hid hw'; replace hS' := Lib.hid hS'
  obtain ⟨hmb0, hmb1⟩ := hmb
  replace hx := Lib.hid hx; replace hy := Lib.hid hy; obtain ⟨hk0, hk1⟩ := hkk
  unfold smV
  go_enter Try.func9, Try.ntmps9
  go_wp2_with fail
  have HB : Ob ((w.alloc (.cells (smC co ro ki a b c sd p n m) SMT)).alloc (.cells (smC co' ro' ki' a' b' c' sd' p' n' m') SMT)) w.heap.size SMT (smC co ro ki a b c sd p n m) := (Ob.new_at _ _ rfl).alloc _
  have HT : Ob ((w.alloc (.cells (smC co ro ki a b c sd p n m) SMT)).alloc (.cells (smC co' ro' ki' a' b' c' sd' p' n' m') SMT)) (w.heap.size + 1) SMT (smC co' ro' ki' a' b' c' sd' p' n' m') := Ob.new_at _ _ (by simp)
  have HW : Below w.heap.size w ((w.alloc (.cells (smC co ro ki a b c sd p n m) SMT)).alloc (.cells (smC co' ro' ki' a' b' c' sd' p' n' m') SMT)) := by ((repeat (first | exact Below.refl _ _ | assumption | refine Below.setCell ?_ (by first | omega | (simp; done) | (simp; omega)) _ | refine Below.alloc ?_ (by first | omega | (simp; done) | (simp; omega)) _ | refine below_drewN ?_ _ | refine Below.drew ?_ | refine below_setRow ?_ (by first | omega | (simp; done) | (simp; omega)) _)))
  unfold smC at *
  generalize (w.alloc (.cells #[.int .u8 co, .int .u8 ro, .int .u8 ki, .int .u8 a, .int .u8 b, .int .u8 c, .int .u32 sd, .slice p n m] SMT)).alloc (.cells #[.int .u8 co', .int .u8 ro', .int .u8 ki', .int .u8 a', .int .u8 b', .int .u8 c', .int .u32 sd', .slice p' n' m'] SMT) = w0 at *
  refine (awake28 _).mono ?_
  rintro e w1 ⟨rfl, hb⟩
  replace HB := HB.later hb; replace HT := HT.later hb; replace HW := below_step HW hb
  clear hb
  go_wp2_with (refine wpList_load_ob_g HB rfl 38 _ rfl rfl Try.underlying38 (by kernel_rfl) ?_)
  refine (light_any co ro ki a b c sd p n m _ hn).mono ?_
  rintro e w2 ⟨rfl, hb⟩
  replace HB := HB.later hb; replace HT := HT.later hb; replace HW := below_step HW hb
  clear hb
  by_cases hn2 : n ≤ 2000
  case neg =>
    have hd : decide (n ≤ 2000) = false := by simpa using hn2
    go_wp2_with fail
    go_ret
    exact ⟨rfl, HW⟩
  have hd : decide (n ≤ 2000) = true := by simpa using hn2
  go_wp2_with (refine wpList_load_ob_g HT rfl 38 _ rfl rfl Try.underlying38 (by kernel_rfl) ?_)
  refine (light_any co' ro' ki' a' b' c' sd' p' n' m' _ hn').mono ?_
  rintro e w3 ⟨rfl, hb⟩
  replace HB := HB.later hb; replace HT := HT.later hb; replace HW := below_step HW hb
  clear hb
  by_cases hn3 : n' ≤ 2000
  case neg =>
    have hd2 : decide (n' ≤ 2000) = false := by simpa using hn3
    go_wp2_with fail
    go_ret
    exact ⟨rfl, HW⟩
  have hd2 : decide (n' ≤ 2000) = true := by simpa using hn3
  go_wp2_with (refine wpList_load_ob_g HB rfl 38 _ rfl rfl Try.underlying38 (by kernel_rfl) ?_)
  clear hd hd2
  refine (smallW_any hw.out hn2 (sl_later hS.out HW)).mono ?_
  rintro e w4 ⟨f, rfl, f1, f2, f3, f4, hM, -, hb⟩
  replace HT := HT.later hb; replace HW := below_step HW hb
  clear hb
  clear HB
  have hc8 := hM.hc; have hr8 := hM.hr
  unfold Fr.val
  go_wp2_with (refine wpList_store_stop (Ob.new_at (w := w4) FRT frZ rfl) rfl _ _ _ rfl rfl f.cells rfl (by kernel_rfl) rfl rfl ?_)
  intro w5 hw5
  have HF := cell_ob hw5.out
  replace HT := cell_keep hw5.out HT
  replace hM := cell_mem hw5.out hM
  replace HW := cell_below hw5.out HW HW.size
  clear hw5
  generalize w4.heap.size = q at *
  have g0 := HF.fC; have g1 := HF.fR
  go_wp2_with (refine wpList_load_ob_g HT rfl 38 _ rfl rfl Try.underlying38 (by kernel_rfl) ?_)
  clear g0 g1
  refine (sized_any co' ro' ki' a' b' c' sd' p' n' m' sl' f.c f.r _ hw'.out.ki hw'.out.a hw'.out.b hw'.out.c hw'.out.sd hn3 (sl_later hS'.out HW) hw'.out.sl (by omega) (by omega)).mono ?_
  rintro e w6 ⟨g, rfl, hgc, hgr, hG, gF, hb⟩
  clear gF
  replace HF := HF.later hb; replace hM := hM.later hb; replace HW := below_step HW hb
  clear hb
  clear HT
  unfold Fr.val
  go_wp2_with (refine wpList_store_stop (Ob.new_at (w := w6) FRT frZ rfl) rfl _ _ _ rfl rfl g.cells rfl (by kernel_rfl) rfl rfl ?_)
  intro w7 hw7
  have HG := cell_ob hw7.out
  replace HF := cell_keep hw7.out HF
  replace hM := cell_mem hw7.out hM; replace hG := cell_mem hw7.out hG
  replace HW := cell_below hw7.out HW HW.size
  clear hw7
  generalize w6.heap.size = z at *
  obtain ⟨M, hMe⟩ : ∃ M, f.c * f.r = M := ⟨_, rfl⟩
  have hM0 : 0 < M := by rw [← hMe]; exact Nat.mul_pos (by omega) (by omega)
  have hM9 : M ≤ 9 := by rw [← hMe]; exact Nat.mul_le_mul f2 f4
  obtain ⟨N, hN1, hN2⟩ := fmb_of mb hM0 hmb0
  have hMi : (f.c : Int) * (f.r : Int) = (M : Int) := by rw [← Int.natCast_mul, hMe]
  have hN3 : mb.tmod ((f.c : Int) * (f.r : Int)) = (N : Int) := by rw [hMi]; exact hN1
  have hz0 : ((f.c : Int) * (f.r : Int) == 0) = false := by rw [hMi]; simp; omega
  have hp0 : 0 < (f.c : Int) * (f.r : Int) := by rw [hMi]; omega
  have hp1 : (f.c : Int) * (f.r : Int) ≤ 9 := by rw [hMi]; omega
  replace hMe := Lib.hid hMe; replace hMi := Lib.hid hMi; replace hN1 := Lib.hid hN1
  have g0 := HF.fC; have g1 := HF.fR
  go_wp2_with fail
  clear g0 g1 hN3 hz0
  refine (vsmall_any x y _ hx.out hy.out).mono ?_
  rintro e w10 ⟨rfl, rfl⟩
  obtain ⟨bx, bx2⟩ := sm32_bd x; obtain ⟨by_, by2⟩ := sm32_bd y
  obtain ⟨X, hX⟩ : ∃ X, sm32 x = X := ⟨_, rfl⟩
  obtain ⟨Y, hY⟩ : ∃ Y, sm32 y = Y := ⟨_, rfl⟩
  rw [hX] at bx bx2 ⊢; rw [hY] at by_ by2 ⊢
  replace hX := Lib.hid hX; replace hY := Lib.hid hY
  have hm : N ≤ 1000000 := by omega
  have h1 : 0 < f.c := by omega
  have bA := fun k i => mbF_bd hM N k i
  have bM := fun k => midK_bd hM N k
  have bT := fun k i => busT_bd hM N k i
  have bK := fun k => busK_bd hM N k
  replace bA := Lib.hid bA; replace bM := Lib.hid bM; replace bT := Lib.hid bT; replace bK := Lib.hid bK
  go_wp2_with fail
  go_loopw [19, 57] (fun t i wr => ∃ k : Nat, k ≤ 4 ∧ i = .int .i64 (k : Int) ∧ t = .int .i64 (sumTo (busK f N) k) ∧ f.Mem wr ∧ g.Mem wr ∧ Ob wr q FRT f.cells ∧ Ob wr z FRT g.cells ∧ Below w.heap.size w wr) (fun _ i _ => 4 - (intOf i).toNat)
  case atStart => exact ⟨0, by omega, rfl, rfl, hM, hG, HF, HG, HW⟩
  case round =>
    clear hM hG HF HG HW
    obtain ⟨k, hk, rfl, rfl, hM, hG, HF, HG, HW⟩ := hrel
    by_cases hk4 : k < 4
    · have hd : decide ((k : Int) < 4) = true := by simp; omega
      have hs := sumTo_bd bK.out k
      obtain ⟨s1, s2⟩ := hs
      have s3 : sumTo (busK f N) k ≤ 100000 := by omega
      clear s2
      obtain ⟨k1, k2⟩ := bK.out k
      have hnx : Hid (sumTo (busK f N) (k + 1) = sumTo (busK f N) k + busK f N k) := Lib.hid rfl
      have hbKe : Hid (busK f N k = sumTo (busT f N k) 64) := Lib.hid rfl
      have bA2 := bA.out k; have bT2 := bT.out k
      obtain ⟨m1, m2⟩ := bM.out k
      have hTe : ∀ i, busT f N k i = imax (mbF f N k i - midK f N k) (midK f N k - mbF f N k i) := fun i => rfl
      have hMe2 : midK f N k = sumTo (mbF f N k) 64 / 64 := rfl
      have hat : ∀ i : Nat, i < 64 → ∀ W, f.Mem W → Calls Try.prog 35 #[.agg #[.int .i64 (f.pw k : Int), .int .i64 (f.ph k : Int), .slice (some ⟨f.pb k, 0, none⟩) (f.pw k * f.ph k) (f.pc k)], .int .i64 (f.px N k + (i : Int) % 8), .int .i64 (f.py N k + (i : Int) / 8)] W fun e w' => e = .returned (.int .u8 (mbF f N k i)) ∧ Below W.heap.size W w' := fun i hi W h => by
        have hb := h.plb k
        have := at_any (f.pw k) (f.ph k) (f.pb k) (f.pc k) (f.ps k) (f.px N k + (i : Int) % 8) (f.py N k + (i : Int) / 8) W (by omega) (by omega) (h.pl k)
        rw [at_mbF] at this; exact this
      obtain ⟨S, hS2⟩ : ∃ S, sumTo (busK f N) k = S := ⟨_, rfl⟩
      obtain ⟨A, hA⟩ : ∃ A, mbF f N k = A := ⟨_, rfl⟩
      obtain ⟨T, hT⟩ : ∃ T, busT f N k = T := ⟨_, rfl⟩
      obtain ⟨md, hm2⟩ : ∃ m, midK f N k = m := ⟨_, rfl⟩
      rw [hS2] at hnx s1 s3 ⊢
      rw [hA] at bA2 hTe hMe2 hat; rw [hT] at bT2 hTe hbKe; rw [hm2] at m1 m2 hTe hMe2
      replace hS2 := Lib.hid hS2; replace hA := Lib.hid hA; replace hT := Lib.hid hT; replace hm2 := Lib.hid hm2; replace bA2 := Lib.hid bA2; replace bT2 := Lib.hid bT2; replace hTe := Lib.hid hTe; replace hMe2 := Lib.hid hMe2; replace hat := Lib.hid hat
      obtain ⟨p1, p2, p3, p4⟩ := f.pxy_bd hm (show k < 6 by omega)
      go_wp2_with (refine wpList_load_ob_g HF rfl 43 _ rfl rfl Try.underlying43 (by kernel_rfl) ?_)
      refine (frBlock_any f N k _ h1 hc8 hm (by omega)).mono ?_
      rintro e w3 ⟨rfl, hb⟩
      replace HF := HF.later hb; replace HG := HG.later hb; replace hM := hM.later hb; replace hG := hG.later hb; replace HW := below_step HW hb
      clear hb
      unfold Fr.blkV
      have us := HW.size
      go_upto_region 14 with fail
      have HP : Ob (w3.alloc (.cells #[.int .i64 (f.pw k : Int), .int .i64 (f.ph k : Int), .slice (some ⟨f.pb k, 0, none⟩) (f.pw k * f.ph k) (f.pc k)] PLT)) w3.heap.size PLT #[.int .i64 (f.pw k : Int), .int .i64 (f.ph k : Int), .slice (some ⟨f.pb k, 0, none⟩) (f.pw k * f.ph k) (f.pc k)] := Ob.new_at _ _ rfl
      replace HF := HF.alloc (.cells #[.int .i64 (f.pw k : Int), .int .i64 (f.ph k : Int), .slice (some ⟨f.pb k, 0, none⟩) (f.pw k * f.ph k) (f.pc k)] PLT); replace HG := HG.alloc (.cells #[.int .i64 (f.pw k : Int), .int .i64 (f.ph k : Int), .slice (some ⟨f.pb k, 0, none⟩) (f.pw k * f.ph k) (f.pc k)] PLT); replace hM := hM.alloc (.cells #[.int .i64 (f.pw k : Int), .int .i64 (f.ph k : Int), .slice (some ⟨f.pb k, 0, none⟩) (f.pw k * f.ph k) (f.pc k)] PLT); replace hG := hG.alloc (.cells #[.int .i64 (f.pw k : Int), .int .i64 (f.ph k : Int), .slice (some ⟨f.pb k, 0, none⟩) (f.pw k * f.ph k) (f.pc k)] PLT); replace HW := HW.alloc us (.cells #[.int .i64 (f.pw k : Int), .int .i64 (f.ph k : Int), .slice (some ⟨f.pb k, 0, none⟩) (f.pw k * f.ph k) (f.pc k)] PLT)
      generalize w3.alloc (.cells #[.int .i64 (f.pw k : Int), .int .i64 (f.ph k : Int), .slice (some ⟨f.pb k, 0, none⟩) (f.pw k * f.ph k) (f.pc k)] PLT) = w4 at *
      generalize w3.heap.size = pp at *
      obtain ⟨PX, hPX⟩ : ∃ z, f.px N k = z := ⟨_, rfl⟩
      obtain ⟨PY, hPY⟩ : ∃ z, f.py N k = z := ⟨_, rfl⟩
      rw [hPX, hPY]
      rw [hPX] at p1 p2 hat; rw [hPY] at p3 p4 hat
      replace hPX := Lib.hid hPX; replace hPY := Lib.hid hPY
      go_wp2_with fail
      go_loopw [24, 68] (fun t i wx => ∃ j : Nat, j ≤ 64 ∧ i = .int .i64 (j : Int) ∧ t = .int .i64 (sumTo A j) ∧ f.Mem wx ∧ g.Mem wx ∧ Ob wx pp PLT #[.int .i64 (f.pw k : Int), .int .i64 (f.ph k : Int), .slice (some ⟨f.pb k, 0, none⟩) (f.pw k * f.ph k) (f.pc k)] ∧ Ob wx q FRT f.cells ∧ Ob wx z FRT g.cells ∧ Below w.heap.size w wx) (fun _ i _ => 64 - (intOf i).toNat)
      case atStart => exact ⟨0, by omega, rfl, rfl, hM, hG, HP, HF, HG, HW⟩
      case round =>
        clear hM hG HP HF HG HW
        obtain ⟨j, hj, rfl, rfl, hM, hG, HP, HF, HG, HW⟩ := hrel
        by_cases hj64 : j < 64
        · have hd : decide ((j : Int) < 64) = true := by simp; omega
          have i0 : (0 : Int) ≤ j := by omega
          have i1 : (j : Int) < 64 := by omega
          obtain ⟨a1, a2⟩ := bA2.out j
          have hs := sumTo_bd bA2.out j
          obtain ⟨q1, q2⟩ := hs
          have q3 : sumTo A j ≤ 16320 := by omega
          clear q2
          have hnA : Hid (sumTo A (j + 1) = sumTo A j + A j) := Lib.hid rfl
          have hat2 := hat.out j hj64
          replace hat2 := Lib.hid hat2
          generalize sumTo A j = Z at *
          go_wp2_with (refine wpList_load_ob_g HP rfl 41 _ rfl rfl Try.underlying41 (by kernel_rfl) ?_)
          refine (hat2.out _ hM).mono ?_
          rintro e w5 ⟨rfl, hb⟩
          replace HP := HP.later hb; replace HF := HF.later hb; replace HG := HG.later hb; replace hM := hM.later hb; replace hG := hG.later hb; replace HW := below_step HW hb
          clear hb
          go_wp2_with fail
          exact ⟨⟨j + 1, by omega, by go_num, by rw [hnA.out], hM, hG, HP, HF, HG, HW⟩, by simp [intOf]; omega⟩
        · obtain rfl : j = 64 := by omega
          have hd : decide (((64 : Nat) : Int) < 64) = false := by simp
          have hs := sumTo_bd bA2.out 64
          obtain ⟨q1, q2⟩ := hs
          have q3 : sumTo A 64 ≤ 16320 := by omega
          clear q2
          generalize sumTo A 64 = Z at *
          have hM2 := hMe2.out
          subst hM2
          clear hMe2
          go_wp2_with fail
          clear hd
          go_loopw [19, 85] (fun t i wy => ∃ j : Nat, j ≤ 64 ∧ i = .int .i64 (j : Int) ∧ t = .int .i64 (S + sumTo T j) ∧ f.Mem wy ∧ g.Mem wy ∧ Ob wy pp PLT #[.int .i64 (f.pw k : Int), .int .i64 (f.ph k : Int), .slice (some ⟨f.pb k, 0, none⟩) (f.pw k * f.ph k) (f.pc k)] ∧ Ob wy q FRT f.cells ∧ Ob wy z FRT g.cells ∧ Below w.heap.size w wy) (fun _ i _ => 64 - (intOf i).toNat)
          case atStart => exact ⟨0, by omega, rfl, by rw [show sumTo T 0 = 0 from rfl, Int.add_zero], hM, hG, HP, HF, HG, HW⟩
          case round =>
            clear hM hG HP HF HG HW
            obtain ⟨j, hj, rfl, rfl, hM, hG, HP, HF, HG, HW⟩ := hrel
            by_cases hj64 : j < 64
            · have hd : decide ((j : Int) < 64) = true := by simp; omega
              have i0 : (0 : Int) ≤ j := by omega
              have i1 : (j : Int) < 64 := by omega
              obtain ⟨a1, a2⟩ := bA2.out j
              have hs := sumTo_bd bT2.out j
              obtain ⟨z1, z2⟩ := hs
              have z3 : sumTo T j ≤ 16320 := by omega
              clear z2
              obtain ⟨t1, t2⟩ := bT2.out j
              have hTj := hTe.out j
              rw [hTj, show Z / 64 - A j = -(A j - Z / 64) by omega] at t1 t2
              have hnT : Hid (S + sumTo T (j + 1) = S + sumTo T j + imax (A j - Z / 64) (-(A j - Z / 64))) := Lib.hid (by rw [show -(A j - Z / 64) = Z / 64 - A j by omega, ← hTj, show sumTo T (j + 1) = sumTo T j + T j from rfl]; omega)
              clear hTj
              have hat2 := hat.out j hj64
              replace hat2 := Lib.hid hat2
              generalize sumTo T j = U at *
              go_wp2_with (refine wpList_load_ob_g HP rfl 41 _ rfl rfl Try.underlying41 (by kernel_rfl) ?_)
              refine (hat2.out _ hM).mono ?_
              rintro e w5 ⟨rfl, hb⟩
              replace HP := HP.later hb; replace HF := HF.later hb; replace HG := HG.later hb; replace hM := hM.later hb; replace hG := hG.later hb; replace HW := below_step HW hb
              clear hb
              go_wp2_with fail
              exact ⟨⟨_, _, _, _, _, _, _, _, _, _, _, _, _, _, _, _, _, _, _, _, _, _, _, _, _, _, _, ⟨j + 1, by omega, by go_num, by rw [hnT.out], hM, hG, HP, HF, HG, HW⟩, rfl⟩, by simp [intOf]; omega⟩
            · obtain rfl : j = 64 := by omega
              have hd : decide (((64 : Nat) : Int) < 64) = false := by simp
              have hnx2 := hnx.out
              rw [hbKe.out] at hnx2
              replace hnx2 := Lib.hid hnx2
              go_wp2_with fail
              exact ⟨⟨k + 1, by omega, by go_num, by rw [hnx2.out], hM, hG, HF, HG, HW⟩, by simp [intOf]; omega⟩
    · obtain rfl : k = 4 := by omega
      have hd : decide (((4 : Nat) : Int) < 4) = false := by simp
      obtain ⟨K, hK, hK4⟩ : ∃ K : Nat, kk % 4 = (K : Int) ∧ K < 4 := ⟨(kk % 4).toNat, by omega, by omega⟩
      have hV : V64 X Y := ⟨⟨by omega, by omega⟩, by omega, by omega⟩
      have haw : ∀ W, f.Mem W → g.Mem W → Calls Try.prog 61 #[f.val, g.val, .int .i64 (N : Int), .int .i64 (kk % 4), vcV X Y, .bool bad] W fun e w' => e = .returned (.int .i64 (awayF f g N K X Y bad)) ∧ Below W.heap.size W w' := fun W h2 h3 => by
        rw [hK]; exact away_any f g N K X Y bad W h1 h2 h3 (by omega) hK4 hm hV
      have hla : ∀ W, f.Mem W → g.Mem W → Calls Try.prog 56 #[f.val, g.val, .int .i64 (N : Int), .int .i64 (kk % 4), vcV X Y, .bool bad] W fun e w' => e = .returned (.int .i64 (awayF f g N K X Y bad)) ∧ Below W.heap.size W w' := fun W h2 h3 => by
        rw [hK]; exact lawAway_any f g N K X Y bad W h1 h2 h3 (by omega) (by omega) hK4 hm hV
      have hbu : ∀ W, f.Mem W → Calls Try.prog 62 #[f.val, .int .i64 (N : Int)] W fun e w' => e = .returned (.int .i64 (sumTo (busK f N) 4)) ∧ Below W.heap.size W w' := fun W h2 => busy_any f N W h1 h2 hm
      obtain ⟨U, hU⟩ : ∃ U, awayF f g N K X Y bad = U := ⟨_, rfl⟩
      obtain ⟨V, hV2⟩ : ∃ V, sumTo (busK f N) 4 = V := ⟨_, rfl⟩
      rw [hU] at haw hla; rw [hV2] at hbu ⊢
      unfold vcV at haw hla ⊢; unfold Fr.val Fr.cells at haw hla hbu
      replace hU := Lib.hid hU; replace hV2 := Lib.hid hV2; replace haw := Lib.hid haw; replace hla := Lib.hid hla; replace hbu := Lib.hid hbu; replace hV := Lib.hid hV
      clear hK hK4
      replace hgc := Lib.hid hgc; replace hgr := Lib.hid hgr
      have c0 := fun p => (HF.re p).fC
      have c1 := fun p => (HF.re p).fR
      have c2 := fun p => (HF.re p).fYW
      have c3 := fun p => (HF.re p).fYH
      have c4 := fun p => (HF.re p).fYS
      have c5 := fun p => (HF.re p).fUW
      have c6 := fun p => (HF.re p).fUH
      have c7 := fun p => (HF.re p).fUS
      have c8 := fun p => (HF.re p).fVW
      have c9 := fun p => (HF.re p).fVH
      have c10 := fun p => (HF.re p).fVS
      have d0 := fun p => (HG.re p).fC
      have d1 := fun p => (HG.re p).fR
      have d2 := fun p => (HG.re p).fYW
      have d3 := fun p => (HG.re p).fYH
      have d4 := fun p => (HG.re p).fYS
      have d5 := fun p => (HG.re p).fUW
      have d6 := fun p => (HG.re p).fUH
      have d7 := fun p => (HG.re p).fUS
      have d8 := fun p => (HG.re p).fVW
      have d9 := fun p => (HG.re p).fVH
      have d10 := fun p => (HG.re p).fVS
      go_wp2_with fail
      refine wp_region_quiet_below (by kernel_rfl) (by kernel_rfl) ?_
      repeat (go_big_quiet_step (first | (go_at_call 61; with_reducible exact Calls.regrown_of (haw.out _ (hM.later (below_regrown _ _ _)) (hG.later (below_regrown _ _ _)))) | (go_at_call 56; with_reducible exact Calls.regrown_of (hla.out _ (hM.later (below_regrown _ _ _)) (hG.later (below_regrown _ _ _)))) | (go_at_call 62; with_reducible exact Calls.regrown_of (hbu.out _ (hM.later (below_regrown _ _ _))))))
      refine wpQuiet_nil ?_
      intro wq hwq
      replace hwq := Cls.below hwq
      replace HW := below_step HW hwq
      go_wp2_with fail
      go_ret
      exact ⟨rfl, HW⟩
end Go.Proofs.Ytbldgpemocnboaa

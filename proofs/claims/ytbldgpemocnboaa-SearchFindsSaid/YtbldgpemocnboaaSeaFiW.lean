/- The walk of the law SearchFinds: true at every input. -/
import Derived.Test.YtbldgpemocnboaaSeaFP
import Derived.Test.YtbldgpemocnboaaFrRe
import Derived.Test.YtbldgpemocnboaaCompWholeW
import Derived.Test.YtbldgpemocnboaaConM
namespace Go.Proofs.Ytbldgpemocnboaa
open Go.RowKit Go.Sort
attribute [local go_sem ↓] run_imax run_imin

set_option maxRecDepth 1000000 in
set_option maxHeartbeats 16000000 in
theorem searchFinds_walk (co ro ki a b c sd : Int) (p : Option Addr) (n m : Nat) (sl : Nat → Int) (mb x y : Int) (w : World)
    (hw : SmallW co ro ki a b c sd n sl) (hn : n ≤ maxLen) (hS : SL w p n (u8v sl))
    (hmb : 0 ≤ mb ∧ mb ≤ 255) (hx : -128 ≤ x ∧ x ≤ 127) (hy : -128 ≤ y ∧ y ≤ 127) :
    Calls Try.prog 11 #[smV co ro ki a b c sd p n m, .int .u8 mb, .int .i8 x, .int .i8 y] w fun e w' => e = .returned (.bool true) ∧ Below w.heap.size w w' := by
  replace hw := Lib.hid hw; replace hS := Lib.hid hS
  obtain ⟨hmb0, hmb1⟩ := hmb
  obtain ⟨hx0, hx1⟩ := hx; obtain ⟨hy0, hy1⟩ := hy
  unfold smV
  go_enter Try.func11, Try.ntmps11
  go_wp2_with fail
  have HB : Ob (w.alloc (.cells (smC co ro ki a b c sd p n m) SMT)) w.heap.size SMT (smC co ro ki a b c sd p n m) := Ob.new_at _ _ rfl
  have HW : Below w.heap.size w (w.alloc (.cells (smC co ro ki a b c sd p n m) SMT)) := by ((repeat (first | exact Below.refl _ _ | assumption | refine Below.setCell ?_ (by first | omega | (simp; done) | (simp; omega)) _ | refine Below.alloc ?_ (by first | omega | (simp; done) | (simp; omega)) _ | refine below_drewN ?_ _ | refine Below.drew ?_ | refine below_setRow ?_ (by first | omega | (simp; done) | (simp; omega)) _)))
  unfold smC at *
  generalize w.alloc (.cells #[.int .u8 co, .int .u8 ro, .int .u8 ki, .int .u8 a, .int .u8 b, .int .u8 c, .int .u32 sd, .slice p n m] SMT) = w0 at *
  refine (awake28 _).mono ?_
  rintro e w1 ⟨rfl, hb⟩
  replace HB := HB.later hb; replace HW := below_step HW hb
  clear hb
  go_wp2_with (refine wpList_load_ob_g HB rfl 38 _ rfl rfl Try.underlying38 (by kernel_rfl) ?_)
  refine (light_any co ro ki a b c sd p n m _ hn).mono ?_
  rintro e w2 ⟨rfl, hb⟩
  replace HB := HB.later hb; replace HW := below_step HW hb
  clear hb
  by_cases hn2 : n ≤ 2000
  case neg =>
    have hd : decide (n ≤ 2000) = false := by simpa using hn2
    go_wp2_with fail
    go_ret
    exact ⟨rfl, HW⟩
  have hd : decide (n ≤ 2000) = true := by simpa using hn2
  go_wp2_with (refine wpList_load_ob_g HB rfl 38 _ rfl rfl Try.underlying38 (by kernel_rfl) ?_)
  clear hd
  refine (smallW_any hw.out hn2 (sl_later hS.out HW)).mono ?_
  rintro e w4 ⟨f, rfl, f1, f2, f3, f4, hM, -, hb⟩
  replace HW := below_step HW hb
  clear HB hb
  have hc8 := hM.hc; have hr8 := hM.hr
  unfold Fr.val
  go_wp2_with (refine wpList_store_stop (Ob.new_at (w := w4) FRT frZ rfl) rfl _ _ _ rfl rfl f.cells rfl (by kernel_rfl) rfl rfl ?_)
  intro w5 hw5
  have HF := cell_ob hw5.out
  replace hM := cell_mem hw5.out hM
  replace HW := cell_below hw5.out HW HW.size
  clear hw5
  generalize w4.heap.size = q at *
  obtain ⟨M, hMe⟩ : ∃ M, f.c * f.r = M := ⟨_, rfl⟩
  have hM0 : 0 < M := by rw [← hMe]; exact Nat.mul_pos (by omega) (by omega)
  have hM9 : M ≤ 9 := by rw [← hMe]; exact Nat.mul_le_mul f2 f4
  obtain ⟨N, hN1, hN2⟩ := fmb_of mb hM0 hmb0
  have hMi : (f.c : Int) * (f.r : Int) = (M : Int) := by rw [← Int.natCast_mul, hMe]
  have hN3 : mb.tmod ((f.c : Int) * (f.r : Int)) = (N : Int) := by rw [hMi]; exact hN1
  have hz0 : ((f.c : Int) * (f.r : Int) == 0) = false := by rw [hMi]; simp; omega
  have hp0 : 0 < (f.c : Int) * (f.r : Int) := by rw [hMi]; omega
  have hp1 : (f.c : Int) * (f.r : Int) ≤ 9 := by rw [hMi]; omega
  replace hMe := Lib.hid hMe; replace hMi := Lib.hid hMi; replace hN1 := Lib.hid hN1
  have g0 := HF.fC; have g1 := HF.fR
  obtain ⟨u, hu⟩ : ∃ u, x.tmod 3 = u := ⟨_, rfl⟩
  obtain ⟨v, hv⟩ : ∃ v, y.tmod 3 = v := ⟨_, rfl⟩
  have hu0 : -2 ≤ u ∧ u ≤ 2 := by
    have h1 := Int.lt_tmod_of_pos x (show (0 : Int) < 3 by omega)
    have h2 := Int.tmod_lt_of_pos x (show (0 : Int) < 3 by omega)
    omega
  have hv0 : -2 ≤ v ∧ v ≤ 2 := by
    have h1 := Int.lt_tmod_of_pos y (show (0 : Int) < 3 by omega)
    have h2 := Int.tmod_lt_of_pos y (show (0 : Int) < 3 by omega)
    omega
  obtain ⟨u0, u1⟩ := hu0; obtain ⟨v0, v1⟩ := hv0
  go_upto_region 8 with fail
  clear g0 g1 hN3 hz0
  replace hu := Lib.hid hu; replace hv := Lib.hid hv
  go_wp2_with (refine wpList_load_ob_g HF rfl 43 _ rfl rfl Try.underlying43 (by kernel_rfl) ?_)
  refine (moved_any f u v _ hM (by omega) (by omega)).mono ?_
  rintro e w6 ⟨g, rfl, hgf, hG, gF, hb⟩
  have gc0 : 0 < g.c := by rw [hgf.c]; omega
  replace hgf := Lib.hid hgf
  clear gF
  replace HF := HF.later hb; replace hM := hM.later hb; replace HW := below_step HW hb
  clear hb
  unfold Fr.val
  go_wp2_with (refine wpList_store_stop (Ob.new_at (w := w6) FRT frZ rfl) rfl _ _ _ rfl rfl g.cells rfl (by kernel_rfl) rfl rfl ?_)
  intro w7 hw7
  have HG := cell_ob hw7.out
  replace HF := cell_keep hw7.out HF
  replace hM := cell_mem hw7.out hM; replace hG := cell_mem hw7.out hG
  replace HW := cell_below hw7.out HW HW.size
  clear hw7
  generalize w6.heap.size = z at *
  have hm : N ≤ 1000000 := by omega
  have h1 : 0 < f.c := by omega
  have hwh := fun W => wholeS_any 2 0 2 f g N false W (by decide)
  have hlaw := finds_law (A := alwA 0 f N) (F := whoA f g N false) (fun x y => by unfold alwA alwB; simp) ⟨u0, u1⟩ ⟨v0, v1⟩
  have hri := who3_right (A := alwA 0 f N) (F := whoA f g N false) 2
  have hbd := who3_b (alwA 0 f N) (whoA f g N false) 2
  obtain ⟨s, hs⟩ : ∃ s, who3 (alwA 0 f N) (whoA f g N false) 2 = s := ⟨_, rfl⟩
  rw [hs] at hwh hlaw hri hbd
  obtain ⟨⟨hok, hsn⟩, hle⟩ := hlaw
  obtain ⟨⟨x0, x1⟩, y0, y1⟩ := hbd
  rw [hok] at hwh
  have hrg := fun W => right_any s.x s.y W ⟨by omega, by omega⟩ ⟨by omega, by omega⟩
  rw [hri] at hrg
  replace hs := Lib.hid hs; replace hwh := Lib.hid hwh; replace hok := Lib.hid hok; replace hri := Lib.hid hri
  have hsb : 0 ≤ s.n ∧ s.n ≤ 65280 := by rw [hsn]; exact wholeF_bd hM hG
  obtain ⟨n0, n1⟩ := hsb
  replace hsn := Lib.hid hsn; replace hle := Lib.hid hle; replace hrg := Lib.hid hrg
  go_wp2_with (first | (refine wpList_load_ob_g HF rfl 43 _ rfl rfl Try.underlying43 (by kernel_rfl) ?_) | (refine wpList_load_ob_g HG rfl 43 _ rfl rfl Try.underlying43 (by kernel_rfl) ?_))
  refine (hwh.out _ hM hG h1 gc0 hm).mono ?_
  rintro e w8 ⟨rfl, hb⟩
  replace HF := HF.later hb; replace HG := HG.later hb; replace hM := hM.later hb; replace hG := hG.later hb; replace HW := below_step HW hb
  clear hb
  go_wp2_with fail
  refine (hrg.out _).mono ?_
  rintro e w9 ⟨rfl, rfl⟩
  go_wp2_with fail
  have hVs : V64 s.x s.y := ⟨⟨by omega, by omega⟩, by omega, by omega⟩
  have hVu : V64 (2 * u) (2 * v) := ⟨⟨by omega, by omega⟩, by omega, by omega⟩
  have hsA : s.n = sumTo (fun k => awayF f g N k s.x s.y false) 4 := hsn.out
  have hsB : s.n ≤ sumTo (fun k => awayF f g N k (2 * u) (2 * v) false) 4 := hle.out
  have bA : ∀ k, 0 ≤ awayF f g N k s.x s.y false ∧ awayF f g N k s.x s.y false ≤ 16320 := fun k => awayF_bd hM hG
  have bB : ∀ k, 0 ≤ awayF f g N k (2 * u) (2 * v) false ∧ awayF f g N k (2 * u) (2 * v) false ≤ 16320 := fun k => awayF_bd hM hG
  have hawA : ∀ k : Nat, k < 4 → ∀ W, f.Mem W → g.Mem W → Calls Try.prog 61 #[f.val, g.val, .int .i64 (N : Int), .int .i64 (k : Int), vcV s.x s.y, .bool false] W fun e w' => e = .returned (.int .i64 (awayF f g N k s.x s.y false)) ∧ Below W.heap.size W w' := fun k hk W h2 h3 => away_any f g N k s.x s.y false W h1 h2 h3 gc0 hk hm hVs
  have hawB : ∀ k : Nat, k < 4 → ∀ W, f.Mem W → g.Mem W → Calls Try.prog 61 #[f.val, g.val, .int .i64 (N : Int), .int .i64 (k : Int), vcV (2 * u) (2 * v), .bool false] W fun e w' => e = .returned (.int .i64 (awayF f g N k (2 * u) (2 * v) false)) ∧ Below W.heap.size W w' := fun k hk W h2 h3 => away_any f g N k (2 * u) (2 * v) false W h1 h2 h3 gc0 hk hm hVu
  have hof : ∀ W, Calls Try.prog 57 #[.int .i64 (2 * u), .int .i64 (2 * v)] W fun e w' => e = .returned (vcV (2 * u) (2 * v)) ∧ Below W.heap.size W w' := fun W => (of_any (2 * u) (2 * v) W).mono fun e w' h => ⟨h.1, h.2 ▸ Below.refl _ _⟩
  unfold vcV at hawA hawB hof
  unfold vcV
  unfold Fr.val Fr.cells at hawA hawB
  obtain ⟨A, hA⟩ : ∃ A : Nat → Int, (fun k => awayF f g N k s.x s.y false) = A := ⟨_, rfl⟩
  obtain ⟨B, hB⟩ : ∃ B : Nat → Int, (fun k => awayF f g N k (2 * u) (2 * v) false) = B := ⟨_, rfl⟩
  have hA2 : ∀ k, awayF f g N k s.x s.y false = A k := fun k => by rw [← hA]
  have hB2 : ∀ k, awayF f g N k (2 * u) (2 * v) false = B k := fun k => by rw [← hB]
  simp only [hA2] at bA hawA hsA; simp only [hB2] at bB hawB hsB
  replace hA := Lib.hid hA; replace hB := Lib.hid hB; replace hA2 := Lib.hid hA2; replace hB2 := Lib.hid hB2; replace hsA := Lib.hid hsA; replace hsB := Lib.hid hsB
  replace bA := Lib.hid bA; replace bB := Lib.hid bB; replace hawA := Lib.hid hawA; replace hawB := Lib.hid hawB; replace hof := Lib.hid hof; replace hVs := Lib.hid hVs; replace hVu := Lib.hid hVu
  go_loopw [17, 18, 61] (fun t r i wr => ∃ k : Nat, k ≤ 4 ∧ i = .int .i64 (k : Int) ∧ t = .int .i64 (sumTo A k) ∧ r = .int .i64 (sumTo B k) ∧ f.Mem wr ∧ g.Mem wr ∧ Ob wr q FRT f.cells ∧ Ob wr z FRT g.cells ∧ Below w.heap.size w wr) (fun _ _ i _ => 4 - (intOf i).toNat)
  case atStart => exact ⟨0, by omega, rfl, rfl, rfl, hM, hG, HF, HG, HW⟩
  case round =>
    clear hM hG HF HG HW
    obtain ⟨k, hk, rfl, rfl, rfl, hM, hG, HF, HG, HW⟩ := hrel
    obtain ⟨sa1, sa2⟩ := sumTo_bd bA.out k
    obtain ⟨sb1, sb2⟩ := sumTo_bd bB.out k
    have sa3 : sumTo A k ≤ 100000 := by omega
    have sb3 : sumTo B k ≤ 100000 := by omega
    clear sa2 sb2
    by_cases hk4 : k < 4
    · have hd : decide ((k : Int) < 4) = true := by simp; omega
      obtain ⟨a1, a2⟩ := bA.out k; obtain ⟨b1, b2⟩ := bB.out k
      have haw1 := hawA.out k hk4; have haw2 := hawB.out k hk4
      replace haw1 := Lib.hid haw1; replace haw2 := Lib.hid haw2
      have hnA : Hid (sumTo A (k + 1) = sumTo A k + A k) := Lib.hid rfl
      have hnB : Hid (sumTo B (k + 1) = sumTo B k + B k) := Lib.hid rfl
      generalize sumTo A k = S at *
      generalize sumTo B k = T at *
      go_wp2_with (first | (refine wpList_load_ob_g HF rfl 43 _ rfl rfl Try.underlying43 (by kernel_rfl) ?_) | (refine wpList_load_ob_g HG rfl 43 _ rfl rfl Try.underlying43 (by kernel_rfl) ?_))
      refine (haw1.out _ hM hG).mono ?_
      rintro e w10 ⟨rfl, hb⟩
      replace HF := HF.later hb; replace HG := HG.later hb; replace hM := hM.later hb; replace hG := hG.later hb; replace HW := below_step HW hb
      clear hb
      have c0 := fun p => (HF.re p).fC
      have c1 := fun p => (HF.re p).fR
      have c2 := fun p => (HF.re p).fYW
      have c3 := fun p => (HF.re p).fYH
      have c4 := fun p => (HF.re p).fYS
      have c5 := fun p => (HF.re p).fUW
      have c6 := fun p => (HF.re p).fUH
      have c7 := fun p => (HF.re p).fUS
      have c8 := fun p => (HF.re p).fVW
      have c9 := fun p => (HF.re p).fVH
      have c10 := fun p => (HF.re p).fVS
      have d0 := fun p => (HG.re p).fC
      have d1 := fun p => (HG.re p).fR
      have d2 := fun p => (HG.re p).fYW
      have d3 := fun p => (HG.re p).fYH
      have d4 := fun p => (HG.re p).fYS
      have d5 := fun p => (HG.re p).fUW
      have d6 := fun p => (HG.re p).fUH
      have d7 := fun p => (HG.re p).fUS
      have d8 := fun p => (HG.re p).fVW
      have d9 := fun p => (HG.re p).fVH
      have d10 := fun p => (HG.re p).fVS
      go_wp2_with fail
      refine wp_region_quiet_below (by kernel_rfl) (by kernel_rfl) ?_
      repeat (go_big_quiet_step (first | (go_at_call 61; with_reducible exact Calls.regrown_of (haw2.out _ (hM.later (below_regrown _ _ _)) (hG.later (below_regrown _ _ _)))) | (go_at_call 57; with_reducible exact Calls.regrown_of (hof.out _))))
      refine wpQuiet_nil ?_
      intro wq hwq
      replace hwq := Cls.below hwq
      clear c0 c1 c2 c3 c4 c5 c6 c7 c8 c9 c10 d0 d1 d2 d3 d4 d5 d6 d7 d8 d9 d10
      replace HF := HF.later hwq; replace HG := HG.later hwq; replace hM := hM.later hwq; replace hG := hG.later hwq; replace HW := below_step HW hwq
      clear hwq
      go_wp2_with fail
      exact ⟨⟨k + 1, by omega, by go_num, by rw [hnA.out], by rw [hnB.out], hM, hG, HF, HG, HW⟩, by simp [intOf]; omega⟩
    · obtain rfl : k = 4 := by omega
      have hd : decide (((4 : Nat) : Int) < 4) = false := by simp
      rw [← hsA.out]
      have hd2 : decide (s.n ≤ sumTo B 4) = true := decide_eq_true hsB.out
      go_wp2_with fail
      go_ret
      exact ⟨rfl, HW⟩
end Go.Proofs.Ytbldgpemocnboaa

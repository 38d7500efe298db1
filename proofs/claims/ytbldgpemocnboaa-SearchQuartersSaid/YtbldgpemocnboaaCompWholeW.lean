/- The walk of the law CompWhole: true at every input. -/
import Derived.Test.YtbldgpemocnboaaRea
import Derived.Test.YtbldgpemocnboaaQld
import Derived.Test.YtbldgpemocnboaaSm
import Derived.Test.YtbldgpemocnboaaSameAt
import Derived.Test.YtbldgpemocnboaaRel
namespace Go.Proofs.Ytbldgpemocnboaa
open Go.RowKit Go.Sort
attribute [local go_sem ↓] run_imax run_imin

abbrev A102 : TypeId := 102
theorem tmod7_bd (x : Int) : -6 ≤ x.tmod 7 ∧ x.tmod 7 ≤ 6 := by
  have h1 := Int.tmod_lt_of_pos x (show (0 : Int) < 7 by omega)
  have h2 := Int.lt_tmod_of_pos x (show (0 : Int) < 7 by omega)
  omega
theorem fmb_of (mb : Int) {M : Nat} (hM : 0 < M) (h : 0 ≤ mb) : ∃ N : Nat, mb.tmod (M : Int) = (N : Int) ∧ N < M := by
  have e1 := Int.tmod_nonneg (M : Int) h
  have e2 := Int.tmod_lt_of_pos mb (show (0 : Int) < (M : Int) by omega)
  exact ⟨(mb.tmod (M : Int)).toNat, by omega, by omega⟩
set_option maxRecDepth 1000000 in
set_option maxHeartbeats 16000000 in
theorem compWhole_walk (co ro ki a b c sd : Int) (p : Option Addr) (n m : Nat) (sl : Nat → Int) (mb x y : Int) (d : Bool) (w : World)
    (hw : SmallW co ro ki a b c sd n sl) (hn : n ≤ maxLen) (hS : SL w p n (u8v sl)) (hmb : 0 ≤ mb ∧ mb ≤ 255) (hx : -128 ≤ x ∧ x ≤ 127) (hy : -128 ≤ y ∧ y ≤ 127) :
    Calls Try.prog 19 #[smV co ro ki a b c sd p n m, .int .u8 mb, .int .i8 x, .int .i8 y, .bool d] w fun e w' => e = .returned (.bool true) ∧ Below w.heap.size w w' := by
  replace hw := Lib.hid hw; replace hS := Lib.hid hS
  obtain ⟨hmb0, hmb1⟩ := hmb; obtain ⟨hx0, hx1⟩ := hx; obtain ⟨hy0, hy1⟩ := hy
  have HB0 : Ob (w.alloc (.cells (smC co ro ki a b c sd p n m) SMT)) w.heap.size SMT (smC co ro ki a b c sd p n m) := Ob.new_at _ _ rfl
  unfold smV
  unfold smC at *
  go_enter Try.func19, Try.ntmps19
  go_wp2_with fail
  have HW : Below w.heap.size w (w.alloc (.cells (smC co ro ki a b c sd p n m) SMT)) := by ((repeat (first | exact Below.refl _ _ | assumption | refine Below.setCell ?_ (by first | omega | (simp; done) | (simp; omega)) _ | refine Below.alloc ?_ (by first | omega | (simp; done) | (simp; omega)) _ | refine below_drewN ?_ _ | refine Below.drew ?_ | refine below_setRow ?_ (by first | omega | (simp; done) | (simp; omega)) _)))
  unfold smC at HW
  refine (awake14 _).mono ?_
  rintro e w1 ⟨rfl, hb⟩
  have HB := HB0.later hb
  clear HB0
  replace HW := below_step HW hb
  clear hb
  go_wp2_with (refine wpList_load_ob_g HB rfl 38 _ rfl rfl Try.underlying38 (by kernel_rfl) ?_)
  refine (light_any co ro ki a b c sd p n m _ hn).mono ?_
  rintro e w2 ⟨rfl, hb⟩
  replace HB := HB.later hb; replace HW := below_step HW hb
  clear hb
  by_cases hn2 : n ≤ 2000
  case neg =>
    have hd : decide (n ≤ 2000) = false := by simpa using hn2
    go_wp2_with fail
    go_ret
    exact ⟨rfl, HW⟩
  have hd : decide (n ≤ 2000) = true := by simpa using hn2
  go_wp2_with (refine wpList_load_ob_g HB rfl 38 _ rfl rfl Try.underlying38 (by kernel_rfl) ?_)
  clear hd
  refine (smallW_any hw.out hn2 (sl_later hS.out HW)).mono ?_
  rintro e w3 ⟨f, rfl, f1, f2, f3, f4, hM, -, hb⟩
  replace HW := below_step HW hb
  clear hb HB
  have hc8 := hM.hc; have hr8 := hM.hr
  unfold Fr.val
  go_wp2_with (refine wpList_store_stop (Ob.new_at (w := w3) FRT frZ rfl) rfl _ _ _ rfl rfl f.cells rfl (by kernel_rfl) rfl rfl ?_)
  intro w5 hw5
  have HF := cell_ob hw5.out
  replace hM := cell_mem hw5.out hM
  replace HW := cell_below hw5.out HW HW.size
  clear hw5
  generalize w3.heap.size = q at *
  obtain ⟨M, hMe⟩ : ∃ M, f.c * f.r = M := ⟨_, rfl⟩
  have hM0 : 0 < M := by rw [← hMe]; exact Nat.mul_pos (by omega) (by omega)
  have hM9 : M ≤ 9 := by rw [← hMe]; exact Nat.mul_le_mul f2 f4
  obtain ⟨N, hN1, hN2⟩ := fmb_of mb hM0 hmb0
  have hMi : (f.c : Int) * (f.r : Int) = (M : Int) := by rw [← Int.natCast_mul, hMe]
  have hNf : N < f.c * f.r := by rw [hMe]; exact hN2
  have hN3 : mb.tmod ((f.c : Int) * (f.r : Int)) = (N : Int) := by rw [hMi]; exact hN1
  have hz0 : ((f.c : Int) * (f.r : Int) == 0) = false := by rw [hMi]; simp; omega
  have hp0 : 0 < (f.c : Int) * (f.r : Int) := by rw [hMi]; omega
  have hp1 : (f.c : Int) * (f.r : Int) ≤ 9 := by rw [hMi]; omega
  replace hMe := Lib.hid hMe; replace hMi := Lib.hid hMi; replace hN1 := Lib.hid hN1
  obtain ⟨u1, u2⟩ := tmod7_bd x
  obtain ⟨v1, v2⟩ := tmod7_bd y
  obtain ⟨U, hU⟩ : ∃ U, x.tmod 7 = U := ⟨_, rfl⟩
  obtain ⟨V, hV⟩ : ∃ V, y.tmod 7 = V := ⟨_, rfl⟩
  rw [hU] at u1 u2; rw [hV] at v1 v2
  have g0 := HF.fC; have g1 := HF.fR
  go_wp2_with fail
  clear g0 g1 hN3 hz0 hp0 hp1 hU hV
  have hW4 : V4b (fun _ => 4 * U) (fun _ => 4 * V) := fun k _ => ⟨⟨by show -32 ≤ 4 * U; omega, by show 4 * U ≤ 32; omega⟩, by show -32 ≤ 4 * V; omega, by show 4 * V ≤ 32; omega⟩
  have hW0 : V4b (fun _ => 0) (fun _ => 0) := fun k _ => ⟨⟨by show (-32 : Int) ≤ 0; omega, by show (0 : Int) ≤ 32; omega⟩, by show (-32 : Int) ≤ 0; omega, by show (0 : Int) ≤ 32; omega⟩
  obtain ⟨P1, hP1⟩ : ∃ P1, predF f N (fun _ => 4 * U) (fun _ => 4 * V) d = P1 := ⟨_, rfl⟩
  obtain ⟨P0, hP0⟩ : ∃ P0, predF f N (fun _ => 0) (fun _ => 0) d = P0 := ⟨_, rfl⟩
  have hof : ∀ W, Calls Try.prog 57 #[.int .i64 (4 * U), .int .i64 (4 * V)] W fun e w' => e = .returned (.complex .f64 (fbits (4 * U)) (fbits (4 * V))) ∧ Below W.heap.size W w' := fun W => (of_any (4 * U) (4 * V) W).mono fun e w' h => ⟨h.1, h.2 ▸ Below.refl _ _⟩
  have hal : ∀ W, Calls Try.prog 45 #[.complex .f64 (fbits (4 * U)) (fbits (4 * V))] W fun e w' => e = .returned (.agg (fcells 4 (vc4 (fun _ => 4 * U) (fun _ => 4 * V)))) ∧ Below W.heap.size W w' := fun W => all_any (4 * U) (4 * V) W
  have hal0 : ∀ W, Calls Try.prog 45 #[.complex .f64 0 0] W fun e w' => e = .returned (.agg (fcells 4 (vc4 (fun _ => 0) (fun _ => 0)))) ∧ Below W.heap.size W w' := fun W => all_any 0 0 W
  have hpr : ∀ W, f.Mem W → Calls Try.prog 82 #[.agg f.cells, .int .i64 (N : Int), .agg (fcells 4 (vc4 (fun _ => 4 * U) (fun _ => 4 * V))), .bool d] W fun e w' => e = .returned (.agg (fcells 384 (ival P1))) ∧ Below W.heap.size W w' := fun W hW => by
    rw [← hP1]; exact predict_any f N _ _ d W (by omega) hW (by omega) hW4
  have hpr0 : ∀ W, f.Mem W → Calls Try.prog 82 #[.agg f.cells, .int .i64 (N : Int), .agg (fcells 4 (vc4 (fun _ => 0) (fun _ => 0))), .bool d] W fun e w' => e = .returned (.agg (fcells 384 (ival P0))) ∧ Below W.heap.size W w' := fun W hW => by
    rw [← hP0]; exact predict_any f N _ _ d W (by omega) hW (by omega) hW0
  unfold Fr.cells at hpr hpr0
  replace hof := Lib.hid hof; replace hal := Lib.hid hal; replace hal0 := Lib.hid hal0; replace hpr := Lib.hid hpr; replace hpr0 := Lib.hid hpr0; replace hP1 := Lib.hid hP1; replace hP0 := Lib.hid hP0
  replace hW4 := Lib.hid hW4; replace hW0 := Lib.hid hW0
  have uq := HF.lt; have uY := hM.y.lt; have uU := hM.u.lt; have uV := hM.v.lt; have us := HW.size
  apply wp_region_grow1 11 [] 10 15 A102 (fcells 384 (ival fun _ => 0))
  case hm => kernel_rfl
  case hB => kernel_rfl
  case hp => kernel_rfl
  case hlo => kernel_rfl
  case hop => kernel_rfl
  case hz => exact alloc102
  case hF =>
    intro wx hwx
    have c0 := fun p => ((HF.later hwx).re p).fC
    have c1 := fun p => ((HF.later hwx).re p).fR
    have c2 := fun p => ((HF.later hwx).re p).fYW
    have c3 := fun p => ((HF.later hwx).re p).fYH
    have c4 := fun p => ((HF.later hwx).re p).fYS
    have c5 := fun p => ((HF.later hwx).re p).fUW
    have c6 := fun p => ((HF.later hwx).re p).fUH
    have c7 := fun p => ((HF.later hwx).re p).fUS
    have c8 := fun p => ((HF.later hwx).re p).fVW
    have c9 := fun p => ((HF.later hwx).re p).fVH
    have c10 := fun p => ((HF.later hwx).re p).fVS
    have hM2 := hM.later hwx
    simp only [List.take_succ_cons, List.take_zero, muteG, mute, isAlloc, List.contains_nil, Nat.reduceAdd, Nat.zero_add, ↓reduceIte, Bool.false_eq_true]
    repeat (go_big_quiet_step (first | (go_at_call 57; with_reducible exact Calls.regrown_of (hof.out _)) | (go_at_call 45; with_reducible exact Calls.regrown_of (hal.out _)) | (go_at_call 82; with_reducible exact Calls.regrown_of (hpr.out _ (hM2.later (below_regrown _ _ _))))))
    exact wpQuiet_nil rfl
  case hG =>
    simp only [List.filterMap_nil]
    intro w7 hw7 b1 hb1 HX
    have HX1 : Blk w7 b1 A102 384 (ival fun _ => 0) := HX
    replace HF := HF.later hw7; replace hM := hM.later hw7; replace HW := below_step HW hw7
    clear hw7
    simp only [ptrAt, Act.put, List.setIfInBounds_toArray, List.set_cons_succ, List.set_cons_zero]
    refine wpList_store_blk HX1 rfl _ _ _ rfl rfl rfl (by kernel_rfl) (fun j _ => rfl) ?_
    go_wp2_with fail
    generalize hw8 : w7.setRow b1 (fcells 384 (ival P1)) = w8
    have HG1 : Blk w8 b1 A102 384 (ival P1) := by rw [← hw8]; exact HX1.setRow_same rfl
    replace HF : Ob w8 q FRT f.cells := by rw [← hw8]; exact HF.setRow (by omega) _
    replace hM : f.Mem w8 := by rw [← hw8]; exact hM.setRow (by omega) (by omega) (by omega) _
    replace HW : Below w.heap.size w w8 := by rw [← hw8]; exact below_setRow HW (by omega) _
    clear hw8 HX HX1 uq uY uU uV us hb1
    have uq := HF.lt; have uY := hM.y.lt; have uU := hM.u.lt; have uV := hM.v.lt; have us := HW.size; have u1 := HG1.lt
    apply wp_region_grow1 6 [] 5 16 A102 (fcells 384 (ival fun _ => 0))
    case hm => kernel_rfl
    case hB => kernel_rfl
    case hp => kernel_rfl
    case hlo => kernel_rfl
    case hop => kernel_rfl
    case hz => exact alloc102
    case hF =>
      intro wx hwx
      have c0 := fun p => ((HF.later hwx).re p).fC
      have c1 := fun p => ((HF.later hwx).re p).fR
      have c2 := fun p => ((HF.later hwx).re p).fYW
      have c3 := fun p => ((HF.later hwx).re p).fYH
      have c4 := fun p => ((HF.later hwx).re p).fYS
      have c5 := fun p => ((HF.later hwx).re p).fUW
      have c6 := fun p => ((HF.later hwx).re p).fUH
      have c7 := fun p => ((HF.later hwx).re p).fUS
      have c8 := fun p => ((HF.later hwx).re p).fVW
      have c9 := fun p => ((HF.later hwx).re p).fVH
      have c10 := fun p => ((HF.later hwx).re p).fVS
      have hM2 := hM.later hwx
      simp only [List.take_succ_cons, List.take_zero, muteG, mute, isAlloc, List.contains_nil, Nat.reduceAdd, Nat.zero_add, ↓reduceIte, Bool.false_eq_true]
      repeat (go_big_quiet_step (first | (go_at_call 45; with_reducible exact Calls.regrown_of (hal0.out _)) | (go_at_call 82; with_reducible exact Calls.regrown_of (hpr0.out _ (hM2.later (below_regrown _ _ _))))))
      exact wpQuiet_nil rfl
    case hG =>
      simp only [List.filterMap_nil]
      intro w9 hw9 b2 hb2 HX
      have HX1 : Blk w9 b2 A102 384 (ival fun _ => 0) := HX
      have n12 : b2 ≠ b1 := by omega
      replace HF := HF.later hw9; replace hM := hM.later hw9; replace HG1 := HG1.later hw9; replace HW := below_step HW hw9
      clear hw9
      simp only [ptrAt, Act.put, List.setIfInBounds_toArray, List.set_cons_succ, List.set_cons_zero]
      refine wpList_store_blk HX1 rfl _ _ _ rfl rfl rfl (by kernel_rfl) (fun j _ => rfl) ?_
      go_wp2_with fail
      generalize hw10 : w9.setRow b2 (fcells 384 (ival P0)) = w10
      have HG0 : Blk w10 b2 A102 384 (ival P0) := by rw [← hw10]; exact HX1.setRow_same rfl
      replace HF : Ob w10 q FRT f.cells := by rw [← hw10]; exact HF.setRow (by omega) _
      replace HG1 : Blk w10 b1 A102 384 (ival P1) := by rw [← hw10]; exact HG1.setRow n12 _
      replace hM : f.Mem w10 := by rw [← hw10]; exact hM.setRow (by omega) (by omega) (by omega) _
      replace HW : Below w.heap.size w w10 := by rw [← hw10]; exact below_setRow HW (by omega) _
      clear hw10 HX HX1 uq uY uU uV us hb2 u1 n12
      go_loopw [59] (fun t wr => ∃ (k : Nat), k ≤ 6 ∧ t = .int .i64 (k : Int) ∧ Ob wr q FRT f.cells ∧ Blk wr b1 A102 384 (ival P1) ∧ Blk wr b2 A102 384 (ival P0) ∧ f.Mem wr ∧ Below w.heap.size w wr) (fun t _ => 6 - (intOf t).toNat)
      case atStart => exact ⟨0, by omega, rfl, HF, HG1, HG0, hM, HW⟩
      case round =>
        clear HF HG1 HG0 hM HW
        obtain ⟨k, hk, rfl, HF, HG1, HG0, hM, HW⟩ := hrel
        by_cases hk6 : k < 6
        · have hd : decide ((k : Int) < 6) = true := by simp; omega
          go_wp2_with (refine wpList_load_ob_g HF rfl 43 _ rfl rfl Try.underlying43 (by kernel_rfl) ?_)
          refine (frBlock_any f N k _ (by omega) hc8 (by omega) hk6).mono ?_
          rintro e w14 ⟨rfl, hb⟩
          replace HF := HF.later hb; replace HG1 := HG1.later hb; replace HG0 := HG0.later hb; replace hM := hM.later hb; replace HW := below_step HW hb
          clear hb
          unfold Fr.blkV
          go_upto_if 75 with fail
          have HP : Ob (w14.alloc (.cells #[.int .i64 (f.pw k : Int), .int .i64 (f.ph k : Int), .slice (some ⟨f.pb k, 0, none⟩) (f.pw k * f.ph k) (f.pc k)] PLT)) w14.heap.size PLT #[.int .i64 (f.pw k : Int), .int .i64 (f.ph k : Int), .slice (some ⟨f.pb k, 0, none⟩) (f.pw k * f.ph k) (f.pc k)] := Ob.new_at _ _ rfl
          replace HF := HF.alloc (.cells #[.int .i64 (f.pw k : Int), .int .i64 (f.ph k : Int), .slice (some ⟨f.pb k, 0, none⟩) (f.pw k * f.ph k) (f.pc k)] PLT); replace HG1 := HG1.alloc (.cells #[.int .i64 (f.pw k : Int), .int .i64 (f.ph k : Int), .slice (some ⟨f.pb k, 0, none⟩) (f.pw k * f.ph k) (f.pc k)] PLT); replace HG0 := HG0.alloc (.cells #[.int .i64 (f.pw k : Int), .int .i64 (f.ph k : Int), .slice (some ⟨f.pb k, 0, none⟩) (f.pw k * f.ph k) (f.pc k)] PLT); replace hM := hM.alloc (.cells #[.int .i64 (f.pw k : Int), .int .i64 (f.ph k : Int), .slice (some ⟨f.pb k, 0, none⟩) (f.pw k * f.ph k) (f.pc k)] PLT); replace HW := HW.alloc HW.size (.cells #[.int .i64 (f.pw k : Int), .int .i64 (f.ph k : Int), .slice (some ⟨f.pb k, 0, none⟩) (f.pw k * f.ph k) (f.pc k)] PLT)
          generalize w14.alloc (.cells #[.int .i64 (f.pw k : Int), .int .i64 (f.ph k : Int), .slice (some ⟨f.pb k, 0, none⟩) (f.pw k * f.ph k) (f.pc k)] PLT) = w15 at *
          generalize w14.heap.size = pp at *
          go_cut [21, 22] (fun t u wx => t = .int .i64 (if k < 4 then 2 * U else U) ∧ u = .int .i64 (if k < 4 then 2 * V else V) ∧ wx = w15)
          case first =>
            by_cases h4 : k < 4
            · have d4 : ¬ ((3 : Int) < (k : Int)) := by omega
              replace h4 := Lib.hid h4
              go_wp2_with fail
              go_meet
              exact ⟨by rw [if_pos h4.out], by rw [if_pos h4.out], rfl⟩
            · have d4 : (3 : Int) < (k : Int) := by omega
              replace h4 := Lib.hid h4
              go_wp2_with fail
              go_meet
              exact ⟨by rw [if_neg h4.out], by rw [if_neg h4.out], rfl⟩
          case rest =>
            obtain ⟨rfl, rfl, rfl⟩ := hcut
            obtain ⟨y1, y2, y3, y4⟩ := f.pxy_bd (show N ≤ 1000000 by omega) hk6
            have hb1 : (fcells 64 fun j => ival P1 (k * 64 + j)) = fcells 64 (ival (blockF (f.pw k) (f.ph k) (f.ps k) (f.px N k + (if k < 4 then 2 * U else U)) (f.py N k + (if k < 4 then 2 * V else V)))) := by
              rw [← hP1.out, pred_at, pred_whole]
            have hb0 : (fcells 64 fun j => ival P0 (k * 64 + j)) = fcells 64 (ival (mbF f N k)) := by
              rw [← hP0.out, pred_at, pred_none]
            have hua : -12 ≤ (if k < 4 then 2 * U else U) ∧ (if k < 4 then 2 * U else U) ≤ 12 := by split <;> omega
            have hva : -12 ≤ (if k < 4 then 2 * V else V) ∧ (if k < 4 then 2 * V else V) ≤ 12 := by split <;> omega
            generalize (if k < 4 then 2 * U else U) = UA at *
            generalize (if k < 4 then 2 * V else V) = VA at *
            obtain ⟨ua1, ua2⟩ := hua; obtain ⟨va1, va2⟩ := hva
            have hbl1 : ∀ W, f.Mem W → Calls Try.prog 67 #[.agg #[.int .i64 (f.pw k : Int), .int .i64 (f.ph k : Int), .slice (some ⟨f.pb k, 0, none⟩) (f.pw k * f.ph k) (f.pc k)], .int .i64 (f.px N k + UA), .int .i64 (f.py N k + VA)] W fun e w' => e = .returned (.agg (fcells 64 (ival (blockF (f.pw k) (f.ph k) (f.ps k) (f.px N k + UA) (f.py N k + VA))))) ∧ Below W.heap.size W w' := fun W hW => by
              have hbp := hW.plb k
              exact block_any (f.pw k) (f.ph k) (f.pb k) (f.pc k) (f.ps k) _ _ W (by omega) (by omega) (hW.pl k) (by omega) (by omega) (by omega) (by omega)
            have hbl0 : ∀ W, f.Mem W → Calls Try.prog 67 #[.agg #[.int .i64 (f.pw k : Int), .int .i64 (f.ph k : Int), .slice (some ⟨f.pb k, 0, none⟩) (f.pw k * f.ph k) (f.pc k)], .int .i64 (f.px N k), .int .i64 (f.py N k)] W fun e w' => e = .returned (.agg (fcells 64 (ival (mbF f N k)))) ∧ Below W.heap.size W w' := fun W hW => plBlock_any f N k W hW (by omega) hk6
            generalize blockF (f.pw k) (f.ph k) (f.ps k) (f.px N k + UA) (f.py N k + VA) = Q1 at *
            generalize mbF f N k = Q0 at *
            have hne1 := fun W => neq28 Q1 Q1 true (by simp) W
            have hne0 := fun W => neq28 Q0 Q0 true (by simp) W
            replace hbl1 := Lib.hid hbl1; replace hbl0 := Lib.hid hbl0; replace hb1 := Lib.hid hb1; replace hb0 := Lib.hid hb0
            have k0 : (0 : Int) ≤ (k : Int) := by omega
            have k1 : (k : Int) < 6 := by omega
            clear hd
            go_wp2_with fail
            have e0 := fun p => (HP.re p).plW
            have e1 := fun p => (HP.re p).plH
            have e2 := fun p => (HP.re p).plS
            refine wp_region_quiet_below (by kernel_rfl) (by kernel_rfl) ?_
            repeat (first | (go_big_quiet_want; refine quiet_load_part HG1 27 _ rfl rfl und28 (by kernel_rfl) (by omega) _ hb1.out ?_; go_big_quiet_on; simp only [Act.put, List.setIfInBounds_toArray, List.set_cons_succ, List.set_cons_zero]) | (go_big_quiet_want; refine quiet_load_part HG0 27 _ rfl rfl und28 (by kernel_rfl) (by omega) _ hb0.out ?_; go_big_quiet_on; simp only [Act.put, List.setIfInBounds_toArray, List.set_cons_succ, List.set_cons_zero]) | (go_big_quiet_step (first | (go_at_call 67; with_reducible exact Calls.regrown_of (hbl1.out _ (hM.later (below_regrown _ _ _)))) | (go_at_call 67; with_reducible exact Calls.regrown_of (hbl0.out _ (hM.later (below_regrown _ _ _)))))))
            refine wpQuiet_nil ?_
            intro wq hwq
            replace hwq := Cls.below hwq
            replace HF := HF.later hwq; replace HG1 := HG1.later hwq; replace HG0 := HG0.later hwq; replace hM := hM.later hwq; replace HW := below_step HW hwq
            clear hwq
            clear e0 e1 e2 hne1 hne0
            go_wp2_with fail
            exact ⟨⟨k + 1, by omega, by go_num, HF, HG1, HG0, hM, HW⟩, by simp [intOf]; omega⟩
        · have hd : decide ((k : Int) < 6) = false := by simp; omega
          go_wp2_with fail
          go_ret
          exact ⟨rfl, HW⟩
end Go.Proofs.Ytbldgpemocnboaa

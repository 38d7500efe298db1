/- The walk of the law ConcealCopies: true at every input. -/
import Derived.Test.YtbldgpemocnboaaWant
import Derived.Test.YtbldgpemocnboaaCopyE
namespace Go.Proofs.Ytbldgpemocnboaa
open Go.RowKit Go.Sort
attribute [local go_sem ↓] run_imax run_imin

theorem quiet_buildP {P : Program} {o : Oper} {a : Act} {C : World → Prop} {K : Act → Prop} (T : TypeId) (fs : Array (Nat × Operand)) (ho : o.op = .build T fs) (vs : Array (Nat × Value)) (hvs : (fs.map fun (i, x) => (i, a.eval x)) = vs) (v : Value) (hz : ∀ w : World, (Instr.build T vs).run P w = .ok v w) (h : K (a.put o.dst v)) : o.quiet P a C K := by
  refine ⟨v, ?_, h⟩
  intro w _
  unfold Oper.quietAt execOp
  simp only [ho, hvs, hz, Sem.run_bind, Sem.run_pure, Result.andThen_ok]
  exact ⟨rfl, rfl⟩
def tb0 (j : Nat) : Value := if j = 0 then .bool false else .int .u8 0
theorem tb0_one (j : Nat) : (tb0 j).oneCell' = true := by unfold tb0; split <;> rfl
theorem build24 (w : World) : (Instr.build TAB24 #[]).run Try.prog w = .ok (.agg (fcells 129 tb0)) w := by kernel_rfl
theorem build106 (X Y : Int) (w : World) : (Instr.build M106 #[(0, .int .u8 0), (2, .agg (fcells 4 (vc4 (fun _ => X) (fun _ => Y))))]).run Try.prog w = .ok (.agg (fcells 391 (mmC 0 0 (fun _ => X) (fun _ => Y) false (fun _ => 0)))) w := by kernel_rfl
theorem sat_eq2 (z : Int) : imin (imax z 0) 255 = sat z := by unfold sat; simp only [imin_eq, imax_eq]; omega
theorem PutR.blk {f g x : Fr} {N : Nat} {X Y : Int} {w : World} (H : PutR g N (fun k => predB f N (fun _ => X) (fun _ => Y) false k) 6 x) (hc : 0 < g.c) (hm : N < g.c * g.r) (hM : f.Mem w) {k : Nat} (hk : k < 6) :
    fcells 64 (ival (mbF x N k)) = fcells 64 (ival (predB f N (fun _ => X) (fun _ => Y) false k)) := fcells_congr fun j hj => by
  unfold ival
  rw [H.here hc hm hk hj]
  have := ipAt_bd (hM.pl k) (2 * (f.px N k + ((j % 8 : Nat) : Int)) + vk (fun _ => X) k) (2 * (f.py N k + ((j / 8 : Nat) : Int)) + vk (fun _ => Y) k) false
  rw [show sat (predB f N (fun _ => X) (fun _ => Y) false k j) = predB f N (fun _ => X) (fun _ => Y) false k j by
    rw [← sat_eq2]; unfold predB ipBlockF; rw [imin_eq, imax_eq]; omega]
set_option maxRecDepth 1000000 in
set_option maxHeartbeats 16000000 in
theorem conCopies_walk (co ro ki a b c sd : Int) (p : Option Addr) (n m : Nat) (sl : Nat → Int) (co' ro' ki' a' b' c' sd' : Int) (p' : Option Addr) (n' m' : Nat) (sl' : Nat → Int) (mb x y : Int) (bad : Bool) (w : World)
    (hw : SmallW co ro ki a b c sd n sl) (hn : n ≤ maxLen) (hS : SL w p n (u8v sl)) (hw' : SmallW co' ro' ki' a' b' c' sd' n' sl') (hn' : n' ≤ maxLen) (hS' : SL w p' n' (u8v sl'))
    (hmb : 0 ≤ mb ∧ mb ≤ 255) (hx : -128 ≤ x ∧ x ≤ 127) (hy : -128 ≤ y ∧ y ≤ 127) :
    Calls Try.prog 13 #[smV co ro ki a b c sd p n m, smV co' ro' ki' a' b' c' sd' p' n' m', .int .u8 mb, .int .i8 x, .int .i8 y, .bool bad] w fun e w' => e = .returned (.bool true) ∧ Below w.heap.size w w' := by
  replace hw := Lib.hid hw; replace hS := Lib.hid hS; replace hw' := Lib.hid hw'; replace hS' := Lib.hid hS'
  obtain ⟨hmb0, hmb1⟩ := hmb
  replace hx := Lib.hid hx; replace hy := Lib.hid hy
  unfold smV
  go_enter Try.func13, Try.ntmps13
  go_wp2_with fail
  have HB : Ob ((w.alloc (.cells (smC co ro ki a b c sd p n m) SMT)).alloc (.cells (smC co' ro' ki' a' b' c' sd' p' n' m') SMT)) w.heap.size SMT (smC co ro ki a b c sd p n m) := (Ob.new_at _ _ rfl).alloc _
  have HT : Ob ((w.alloc (.cells (smC co ro ki a b c sd p n m) SMT)).alloc (.cells (smC co' ro' ki' a' b' c' sd' p' n' m') SMT)) (w.heap.size + 1) SMT (smC co' ro' ki' a' b' c' sd' p' n' m') := Ob.new_at _ _ (by simp)
  have HW : Below w.heap.size w ((w.alloc (.cells (smC co ro ki a b c sd p n m) SMT)).alloc (.cells (smC co' ro' ki' a' b' c' sd' p' n' m') SMT)) := by ((repeat (first | exact Below.refl _ _ | assumption | refine Below.setCell ?_ (by first | omega | (simp; done) | (simp; omega)) _ | refine Below.alloc ?_ (by first | omega | (simp; done) | (simp; omega)) _ | refine below_drewN ?_ _ | refine Below.drew ?_ | refine below_setRow ?_ (by first | omega | (simp; done) | (simp; omega)) _)))
  unfold smC at *
  generalize (w.alloc (.cells #[.int .u8 co, .int .u8 ro, .int .u8 ki, .int .u8 a, .int .u8 b, .int .u8 c, .int .u32 sd, .slice p n m] SMT)).alloc (.cells #[.int .u8 co', .int .u8 ro', .int .u8 ki', .int .u8 a', .int .u8 b', .int .u8 c', .int .u32 sd', .slice p' n' m'] SMT) = w0 at *
  refine (awake26 _).mono ?_
  rintro e w1 ⟨rfl, hb⟩
  replace HB := HB.later hb; replace HT := HT.later hb; replace HW := below_step HW hb
  clear hb
  go_wp2_with (refine wpList_load_ob_g HB rfl 38 _ rfl rfl Try.underlying38 (by kernel_rfl) ?_)
  refine (light_any co ro ki a b c sd p n m _ hn).mono ?_
  rintro e w2 ⟨rfl, hb⟩
  replace HB := HB.later hb; replace HT := HT.later hb; replace HW := below_step HW hb
  clear hb
  by_cases hn2 : n ≤ 2000
  case neg =>
    have hd : decide (n ≤ 2000) = false := by simpa using hn2
    go_wp2_with fail
    go_ret
    exact ⟨rfl, HW⟩
  have hd : decide (n ≤ 2000) = true := by simpa using hn2
  go_wp2_with (refine wpList_load_ob_g HT rfl 38 _ rfl rfl Try.underlying38 (by kernel_rfl) ?_)
  refine (light_any co' ro' ki' a' b' c' sd' p' n' m' _ hn').mono ?_
  rintro e w3 ⟨rfl, hb⟩
  replace HB := HB.later hb; replace HT := HT.later hb; replace HW := below_step HW hb
  clear hb
  by_cases hn3 : n' ≤ 2000
  case neg =>
    have hd2 : decide (n' ≤ 2000) = false := by simpa using hn3
    go_wp2_with fail
    go_ret
    exact ⟨rfl, HW⟩
  have hd2 : decide (n' ≤ 2000) = true := by simpa using hn3
  go_wp2_with (refine wpList_load_ob_g HB rfl 38 _ rfl rfl Try.underlying38 (by kernel_rfl) ?_)
  clear hd hd2
  refine (smallW_any hw.out hn2 (sl_later hS.out HW)).mono ?_
  rintro e w4 ⟨f, rfl, f1, f2, f3, f4, hM, -, hb⟩
  replace HT := HT.later hb; replace HW := below_step HW hb
  clear hb
  clear HB
  have hc8 := hM.hc; have hr8 := hM.hr
  unfold Fr.val
  go_wp2_with (refine wpList_store_stop (Ob.new_at (w := w4) FRT frZ rfl) rfl _ _ _ rfl rfl f.cells rfl (by kernel_rfl) rfl rfl ?_)
  intro w5 hw5
  have HF := cell_ob hw5.out
  replace HT := cell_keep hw5.out HT
  replace hM := cell_mem hw5.out hM
  replace HW := cell_below hw5.out HW HW.size
  clear hw5
  generalize w4.heap.size = q at *
  have g0 := HF.fC; have g1 := HF.fR
  go_wp2_with (refine wpList_load_ob_g HT rfl 38 _ rfl rfl Try.underlying38 (by kernel_rfl) ?_)
  clear g0 g1
  refine (sized_any co' ro' ki' a' b' c' sd' p' n' m' sl' f.c f.r _ hw'.out.ki hw'.out.a hw'.out.b hw'.out.c hw'.out.sd hn3 (sl_later hS'.out HW) hw'.out.sl (by omega) (by omega)).mono ?_
  rintro e w6 ⟨g, rfl, hgc, hgr, hG, gF, hb⟩
  have sFG : f.Sep g := Fr.Sep.of hM gF
  replace gF : g.From w.heap.size := gF.mono HW.size
  replace HF := HF.later hb; replace hM := hM.later hb; replace HW := below_step HW hb
  clear hb
  clear HT
  unfold Fr.val
  go_wp2_with (refine wpList_store_stop (Ob.new_at (w := w6) FRT frZ rfl) rfl _ _ _ rfl rfl g.cells rfl (by kernel_rfl) rfl rfl ?_)
  intro w7 hw7
  have HG := cell_ob hw7.out
  replace HF := cell_keep hw7.out HF
  replace hM := cell_mem hw7.out hM; replace hG := cell_mem hw7.out hG
  replace HW := cell_below hw7.out HW HW.size
  clear hw7
  generalize w6.heap.size = z at *
  go_wp2_with (refine wpList_load_ob_g HG rfl 43 _ rfl rfl Try.underlying43 (by kernel_rfl) ?_)
  refine (clone_any g _ hG).mono ?_
  rintro e w8 ⟨o, rfl, ho, hO, oF, hb⟩
  have sGO : g.Sep o := Fr.Sep.of hG oF
  replace HF := HF.later hb; replace HG := HG.later hb; replace hM := hM.later hb; replace hG := hG.later hb; replace HW := below_step HW hb
  clear hb
  unfold Fr.val
  go_wp2_with (refine wpList_store_stop (Ob.new_at (w := w8) FRT frZ rfl) rfl _ _ _ rfl rfl o.cells rfl (by kernel_rfl) rfl rfl ?_)
  intro w9 hw9
  have HO := cell_ob hw9.out
  replace HF := cell_keep hw9.out HF; replace HG := cell_keep hw9.out HG
  replace hM := cell_mem hw9.out hM; replace hG := cell_mem hw9.out hG; replace hO := cell_mem hw9.out hO
  replace HW := cell_below hw9.out HW HW.size
  clear hw9 oF
  generalize w8.heap.size = oo at *
  obtain ⟨M, hMe⟩ : ∃ M, f.c * f.r = M := ⟨_, rfl⟩
  have hM0 : 0 < M := by rw [← hMe]; exact Nat.mul_pos (by omega) (by omega)
  have hM9 : M ≤ 9 := by rw [← hMe]; exact Nat.mul_le_mul f2 f4
  obtain ⟨N, hN1, hN2⟩ := fmb_of mb hM0 hmb0
  have hMi : (f.c : Int) * (f.r : Int) = (M : Int) := by rw [← Int.natCast_mul, hMe]
  have hN3 : mb.tmod ((f.c : Int) * (f.r : Int)) = (N : Int) := by rw [hMi]; exact hN1
  have hz0 : ((f.c : Int) * (f.r : Int) == 0) = false := by rw [hMi]; simp; omega
  have hp0 : 0 < (f.c : Int) * (f.r : Int) := by rw [hMi]; omega
  have hp1 : (f.c : Int) * (f.r : Int) ≤ 9 := by rw [hMi]; omega
  replace hMe := Lib.hid hMe; replace hMi := Lib.hid hMi; replace hN1 := Lib.hid hN1
  have g0 := HF.fC; have g1 := HF.fR
  go_wp2_with fail
  clear g0 g1 hN3 hz0
  refine (vsmall_any x y _ hx.out hy.out).mono ?_
  rintro e w10 ⟨rfl, rfl⟩
  have bx := sm32_bd x; have by_ := sm32_bd y
  go_upto_if 57 with fail
  go_cut [17, 18] (fun t u wx => wx = w10 ∧ ∃ X Y : Int, ∃ re im : Nat, ∃ r : Bool, t = vcV X Y ∧ u = .complex .f64 re im ∧ (-31 ≤ X ∧ X ≤ 31) ∧ (-31 ≤ Y ∧ Y ≤ 31) ∧ (∀ W, Calls Try.prog 64 #[.complex .f64 re im] W fun e w' => e = .returned (.bool r) ∧ w' = W) ∧ (r = true → Value.complex .f64 re im = vcV X Y) ∧ (r = false → X = 0 ∧ Y = 0))
  case first =>
    cases bad
    · go_wp2_with fail
      go_meet
      exact ⟨rfl, sm32 x, sm32 y, fbits (sm32 x), fbits (sm32 y), true, rfl, rfl, bx, by_, fun W => by
        have h9 := right_any (sm32 x) (sm32 y) W (by omega) (by omega)
        rw [show rightB (sm32 x) (sm32 y) = true by unfold rightB; simp; omega] at h9
        exact h9, fun _ => rfl, fun h => by cases h⟩
    · go_wp2_with fail
      go_meet
      exact ⟨rfl, 0, 0, 4630826316843712512, 4602678819172646912, false, rfl, rfl, by omega, by omega, fun W => right_half W, (fun h => by cases h), fun _ => ⟨rfl, rfl⟩⟩
  case rest =>
    obtain ⟨rfl, X, Y, re, im, r, rfl, rfl, hX, hY, hr, hv, hv0⟩ := hcut
    clear bx by_
    have hN64 : N ≤ 1000000 := by omega
    have hNg : N < g.c * g.r := by rw [hgc, hgr, hMe.out]; exact hN2
    have hV := v4_all hX hY
    go_wp2_with (first | (refine wpList_load_ob_g HF rfl 43 _ rfl rfl Try.underlying43 (by kernel_rfl) ?_) | (refine wpList_load_ob_g HG rfl 43 _ rfl rfl Try.underlying43 (by kernel_rfl) ?_))
    refine (copy_of f g N re im r X Y _ (by omega) (by omega) (by omega) (by omega) hNg hM hG hr hX hY hv hv0).mono ?_
    rintro e w11 ⟨rfl, h, hh, hH, hWF⟩
    have uG := HG.lt
    replace HF := HF.wrfT hG hWF (by decide); replace HG := HG.wrfT hG hWF (by decide); replace HO := HO.wrfT hG hWF (by decide)
    replace hM := hM.wrfS sFG hWF; replace hO := hO.wrfS sGO.symm hWF
    replace HW := hWF.belowF HW HW.size gF
    clear hr hv hv0 hWF uG hG
    obtain ⟨-, -, -, -, hce, hhc, hhr⟩ := hh.pw 0
    rw [← hce] at HG
    have hhc2 : h.c = f.c := by rw [hhc, hgc]
    have hhr2 : h.r = f.r := by rw [hhr, hgr]
    replace hh := Lib.hid hh; replace ho := Lib.hid ho; replace hNg := Lib.hid hNg; replace hV := Lib.hid hV
    replace hhc := Lib.hid hhc; replace hhr := Lib.hid hhr; replace hhc2 := Lib.hid hhc2; replace hhr2 := Lib.hid hhr2; replace hgc := Lib.hid hgc; replace hgr := Lib.hid hgr
    clear hce
    unfold vcV
    go_wp2_with fail
    obtain ⟨P0, hP0⟩ : ∃ P0, predF f N (fun _ => X) (fun _ => Y) false = P0 := ⟨_, rfl⟩
    have hal : ∀ W, Calls Try.prog 45 #[.complex .f64 (fbits X) (fbits Y)] W fun e w' => e = .returned (.agg (fcells 4 (vc4 (fun _ => X) (fun _ => Y)))) ∧ Below W.heap.size W w' := fun W => all_any X Y W
    have hwa : ∀ W, f.Mem W → Calls Try.prog 66 #[.agg (fcells 129 tb0), .bool false, .agg f.cells, .int .i64 (N : Int), .agg (fcells 391 (mmC 0 0 (fun _ => X) (fun _ => Y) false (fun _ => 0)))] W fun e w' => e = .returned (.agg (fcells 384 (ival P0))) ∧ Below W.heap.size W w' := fun W hW => by
      rw [← hP0]; exact want_any f N (fun _ => X) (fun _ => Y) false (fun _ => 0) false tb0 W tb0_one (by omega) (by omega) hW hN64 hV.out
    unfold Fr.cells at hwa
    replace hal := Lib.hid hal; replace hwa := Lib.hid hwa; replace hP0 := Lib.hid hP0
    have uq := HF.lt; have uz := HG.lt; have uo := HO.lt; have uY := hM.y.lt; have uU := hM.u.lt; have uV := hM.v.lt; have us := HW.size
    have vY := hH.y.lt; have vU := hH.u.lt; have vV := hH.v.lt; have oY := hO.y.lt; have oU := hO.u.lt; have oV := hO.v.lt
    apply wp_region_grow1 8 [] 7 19 A102 (fcells 384 (ival fun _ => 0))
    case hm => kernel_rfl
    case hB => kernel_rfl
    case hp => kernel_rfl
    case hlo => kernel_rfl
    case hop => kernel_rfl
    case hz => exact alloc102
    case hF =>
      intro wx hwx
      have c0 := fun p => ((HF.later hwx).re p).fC
      have c1 := fun p => ((HF.later hwx).re p).fR
      have c2 := fun p => ((HF.later hwx).re p).fYW
      have c3 := fun p => ((HF.later hwx).re p).fYH
      have c4 := fun p => ((HF.later hwx).re p).fYS
      have c5 := fun p => ((HF.later hwx).re p).fUW
      have c6 := fun p => ((HF.later hwx).re p).fUH
      have c7 := fun p => ((HF.later hwx).re p).fUS
      have c8 := fun p => ((HF.later hwx).re p).fVW
      have c9 := fun p => ((HF.later hwx).re p).fVH
      have c10 := fun p => ((HF.later hwx).re p).fVS
      have hM2 := hM.later hwx
      simp only [List.take_succ_cons, List.take_zero, muteG, mute, isAlloc, List.contains_nil, Nat.reduceAdd, Nat.zero_add, ↓reduceIte, Bool.false_eq_true]
      repeat (first | (go_big_quiet_want; refine quiet_build TAB24 rfl _ build24 ?_; go_big_quiet_on; simp only [Act.put, List.setIfInBounds_toArray, List.set_cons_succ, List.set_cons_zero]) | (go_big_quiet_want; refine quiet_buildP M106 _ rfl #[(0, .int .u8 0), (2, .agg (fcells 4 (vc4 (fun _ => X) (fun _ => Y))))] (by simp only [List.map_toArray, List.map_cons, List.map_nil]; rfl) _ (build106 X Y) ?_; go_big_quiet_on; simp only [Act.put, List.setIfInBounds_toArray, List.set_cons_succ, List.set_cons_zero]) | (go_big_quiet_step (first | (go_at_call 45; with_reducible exact Calls.regrown_of (hal.out _)) | (go_at_call 66; with_reducible exact Calls.regrown_of (hwa.out _ (hM2.later (below_regrown _ _ _)))))))
      exact wpQuiet_nil rfl
    case hG =>
      simp only [List.filterMap_nil]
      intro w12 hw12 b1 hb1 HX
      have HX1 : Blk w12 b1 A102 384 (ival fun _ => 0) := HX
      replace HF := HF.later hw12; replace HG := HG.later hw12; replace HO := HO.later hw12; replace hM := hM.later hw12; replace hH := hH.later hw12; replace hO := hO.later hw12; replace HW := below_step HW hw12
      clear hw12
      simp only [ptrAt, Act.put, List.setIfInBounds_toArray, List.set_cons_succ, List.set_cons_zero]
      refine wpList_store_blk HX1 rfl _ _ _ rfl rfl rfl (by kernel_rfl) (fun j _ => rfl) ?_
      generalize hw13 : w12.setRow b1 (fcells 384 (ival P0)) = w13
      have HD : Blk w13 b1 A102 384 (ival P0) := by rw [← hw13]; exact HX1.setRow_same rfl
      replace HF : Ob w13 q FRT f.cells := by rw [← hw13]; exact HF.setRow (by omega) _
      replace HG : Ob w13 z FRT h.cells := by rw [← hw13]; exact HG.setRow (by omega) _
      replace HO : Ob w13 oo FRT o.cells := by rw [← hw13]; exact HO.setRow (by omega) _
      replace hM : f.Mem w13 := by rw [← hw13]; exact hM.setRow (by omega) (by omega) (by omega) _
      replace hH : h.Mem w13 := by rw [← hw13]; exact hH.setRow (by omega) (by omega) (by omega) _
      replace hO : o.Mem w13 := by rw [← hw13]; exact hO.setRow (by omega) (by omega) (by omega) _
      replace HW : Below w.heap.size w w13 := by rw [← hw13]; exact below_setRow HW (by omega) _
      clear hw13 HX HX1 uq uz uo uY uU uV us vY vU vV oY oU oV hb1
      have g0 := HF.fC; have g1 := HF.fR
      go_wp2_with fail
      clear g0 g1
      go_loopw [75] (fun t wr => ∃ (j : Nat), j ≤ M ∧ t = .int .i64 (j : Int) ∧ Ob wr q FRT f.cells ∧ Ob wr z FRT h.cells ∧ Ob wr oo FRT o.cells ∧ Blk wr b1 A102 384 (ival P0) ∧ f.Mem wr ∧ h.Mem wr ∧ o.Mem wr ∧ Below w.heap.size w wr) (fun t _ => M - (intOf t).toNat)
      case atStart => exact ⟨0, by omega, rfl, HF, HG, HO, HD, hM, hH, hO, HW⟩
      case round =>
        clear HF HG HO HD hM hH hO HW
        obtain ⟨j, hj, rfl, HF, HG, HO, HD, hM, hH, hO, HW⟩ := hrel
        by_cases hjM : j < M
        · have hd : decide ((j : Int) < (f.c : Int) * (f.r : Int)) = true := by rw [hMi.out]; simp; omega
          by_cases hjN : j = N
          · have hne : ((j : Int) != (N : Int)) = false := by simp; omega
            replace hjN := Lib.hid hjN
            go_wp2_with fail
            exact ⟨⟨j + 1, by omega, by go_num, HF, HG, HO, HD, hM, hH, hO, HW⟩, by simp [intOf]; omega⟩
          · have hne : ((j : Int) != (N : Int)) = true := by simp; omega
            have hsa : sameAtB o h j = true := hh.out.else ho.out (by rw [hgc.out]; omega) (by rw [hgc.out, hgr.out, hMe.out]; exact hjM) hjN
            have hoc : 0 < o.c := by rw [ho.out.c, hgc.out]; omega
            have hhc0 : 0 < h.c := by rw [hhc2.out]; omega
            have hsm : ∀ W, o.Mem W → h.Mem W → Calls Try.prog 51 #[o.val, h.val, .int .i64 (j : Int)] W fun e w' => e = .returned (.bool true) ∧ Below W.heap.size W w' := fun W h1 h2 => by have := sameAt_any o h j W h1 h2 hoc hhc0 (by omega); rw [hsa] at this; exact this
            replace hsm := Lib.hid hsm; clear hsa
            go_wp2_with (first | (refine wpList_load_ob_g HO rfl 43 _ rfl rfl Try.underlying43 (by kernel_rfl) ?_) | (refine wpList_load_ob_g HG rfl 43 _ rfl rfl Try.underlying43 (by kernel_rfl) ?_))
            refine (hsm.out _ hO hH).mono ?_
            rintro e w14 ⟨rfl, hb⟩
            replace HF := HF.later hb; replace HG := HG.later hb; replace HO := HO.later hb; replace HD := HD.later hb; replace hM := hM.later hb; replace hH := hH.later hb; replace hO := hO.later hb; replace HW := below_step HW hb
            clear hb
            go_wp2_with fail
            exact ⟨⟨j + 1, by omega, by go_num, HF, HG, HO, HD, hM, hH, hO, HW⟩, by simp [intOf]; omega⟩
        · have hd : decide ((j : Int) < (f.c : Int) * (f.r : Int)) = false := by rw [hMi.out]; simp; omega
          clear HO hO
          go_wp2_with fail
          go_loopw [89] (fun t wr => ∃ (k : Nat), k ≤ 6 ∧ t = .int .i64 (k : Int) ∧ Ob wr q FRT f.cells ∧ Ob wr z FRT h.cells ∧ Blk wr b1 A102 384 (ival P0) ∧ f.Mem wr ∧ h.Mem wr ∧ Below w.heap.size w wr) (fun t _ => 6 - (intOf t).toNat)
          case atStart => exact ⟨0, by omega, rfl, HF, HG, HD, hM, hH, HW⟩
          case round =>
            clear HF HG HD hM hH HW hd
            obtain ⟨k, hk, rfl, HF, HG, HD, hM, hH, HW⟩ := hrel
            have hhc0 : 0 < h.c ∧ h.c ≤ 8 ∧ 0 < h.r ∧ h.r ≤ 8 := by rw [hhc2.out, hhr2.out]; omega
            by_cases hk6 : k < 6
            · have hd : decide ((k : Int) < 6) = true := by simp; omega
              have k0 : (0 : Int) ≤ k := by omega
              have k1 : (k : Int) < 6 := by omega
              obtain ⟨B1, hB1⟩ : ∃ B1, predB f N (fun _ => X) (fun _ => Y) false k = B1 := ⟨_, rfl⟩
              have hrow : (fcells 64 fun j => ival P0 (k * 64 + j)) = fcells 64 (ival B1) := by rw [← hP0.out, ← hB1, pred_at]
              have hpb : ∀ W, h.Mem W → Calls Try.prog 67 #[.agg #[.int .i64 (h.pw k : Int), .int .i64 (h.ph k : Int), .slice (some ⟨h.pb k, 0, none⟩) (h.pw k * h.ph k) (h.pc k)], .int .i64 (h.px N k), .int .i64 (h.py N k)] W fun e w' => e = .returned (.agg (fcells 64 (ival B1))) ∧ Below W.heap.size W w' := fun W hW => by
                have h9 := plBlock_any h N k W hW hN64 hk6
                rw [hh.out.blk (by rw [hgc.out]; omega) hNg.out hM hk6, hB1] at h9
                exact h9
              have hne := fun W => neq28 B1 B1 true (by simp) W
              replace hrow := Lib.hid hrow; replace hpb := Lib.hid hpb
              clear hB1
              go_wp2_with (refine wpList_load_ob_g HG rfl 43 _ rfl rfl Try.underlying43 (by kernel_rfl) ?_)
              refine (frBlock_any h N k _ hhc0.1 hhc0.2.1 hN64 hk6).mono ?_
              rintro e w14 ⟨rfl, hb⟩
              replace HF := HF.later hb; replace HG := HG.later hb; replace HD := HD.later hb; replace hM := hM.later hb; replace hH := hH.later hb; replace HW := below_step HW hb
              clear hb
              unfold Fr.blkV
              go_upto_region 25 with fail
              have HP : Ob (w14.alloc (.cells #[.int .i64 (h.pw k : Int), .int .i64 (h.ph k : Int), .slice (some ⟨h.pb k, 0, none⟩) (h.pw k * h.ph k) (h.pc k)] PLT)) w14.heap.size PLT #[.int .i64 (h.pw k : Int), .int .i64 (h.ph k : Int), .slice (some ⟨h.pb k, 0, none⟩) (h.pw k * h.ph k) (h.pc k)] := Ob.new_at _ _ rfl
              replace HF := HF.alloc (.cells #[.int .i64 (h.pw k : Int), .int .i64 (h.ph k : Int), .slice (some ⟨h.pb k, 0, none⟩) (h.pw k * h.ph k) (h.pc k)] PLT); replace HG := HG.alloc (.cells #[.int .i64 (h.pw k : Int), .int .i64 (h.ph k : Int), .slice (some ⟨h.pb k, 0, none⟩) (h.pw k * h.ph k) (h.pc k)] PLT); replace HD := HD.alloc (.cells #[.int .i64 (h.pw k : Int), .int .i64 (h.ph k : Int), .slice (some ⟨h.pb k, 0, none⟩) (h.pw k * h.ph k) (h.pc k)] PLT); replace hM := hM.alloc (.cells #[.int .i64 (h.pw k : Int), .int .i64 (h.ph k : Int), .slice (some ⟨h.pb k, 0, none⟩) (h.pw k * h.ph k) (h.pc k)] PLT); replace hH := hH.alloc (.cells #[.int .i64 (h.pw k : Int), .int .i64 (h.ph k : Int), .slice (some ⟨h.pb k, 0, none⟩) (h.pw k * h.ph k) (h.pc k)] PLT); replace HW := HW.alloc HW.size (.cells #[.int .i64 (h.pw k : Int), .int .i64 (h.ph k : Int), .slice (some ⟨h.pb k, 0, none⟩) (h.pw k * h.ph k) (h.pc k)] PLT)
              generalize w14.alloc (.cells #[.int .i64 (h.pw k : Int), .int .i64 (h.ph k : Int), .slice (some ⟨h.pb k, 0, none⟩) (h.pw k * h.ph k) (h.pc k)] PLT) = w15 at *
              generalize w14.heap.size = pp at *
              have e0 := fun p => (HP.re p).plW
              have e1 := fun p => (HP.re p).plH
              have e2 := fun p => (HP.re p).plS
              go_wp2_with fail
              refine wp_region_quiet_below (by kernel_rfl) (by kernel_rfl) ?_
              repeat (first | (go_big_quiet_want; refine quiet_load_row (m := 64) (q := k * 64) HD 27 _ rfl rfl _ und28 rfl (by kernel_rfl) (by omega) _ hrow.out ?_; go_big_quiet_on; simp only [Act.put, List.setIfInBounds_toArray, List.set_cons_succ, List.set_cons_zero]) | (go_big_quiet_step (first | (go_at_call 67; with_reducible exact Calls.regrown_of (hpb.out _ (hH.later (below_regrown _ _ _)))))))
              refine wpQuiet_nil ?_
              intro wq hwq
              replace hwq := Cls.below hwq
              clear e0 e1 e2
              replace HF := HF.later hwq; replace HG := HG.later hwq; replace HD := HD.later hwq; replace hM := hM.later hwq; replace hH := hH.later hwq; replace HW := below_step HW hwq
              clear hwq
              go_wp2_with fail
              exact ⟨⟨k + 1, by omega, by go_num, HF, HG, HD, hM, hH, HW⟩, by simp [intOf]; omega⟩
            · have hd : decide ((k : Int) < 6) = false := by simp; omega
              go_wp2_with (first | (refine wpList_load_ob_g HF rfl 43 _ rfl rfl Try.underlying43 (by kernel_rfl) ?_) | (refine wpList_load_ob_g HG rfl 43 _ rfl rfl Try.underlying43 (by kernel_rfl) ?_))
              refine (copy_neg f h _ (by omega) hhc0 hhc2.out.symm hhr2.out.symm _).mono ?_
              rintro e w16 ⟨rfl, hb⟩
              replace HF := HF.later hb; replace HG := HG.later hb; replace hM := hM.later hb; replace hH := hH.later hb; replace HW := below_step HW hb
              clear hb
              go_wp2_with (first | (refine wpList_load_ob_g HF rfl 43 _ rfl rfl Try.underlying43 (by kernel_rfl) ?_) | (refine wpList_load_ob_g HG rfl 43 _ rfl rfl Try.underlying43 (by kernel_rfl) ?_))
              refine (copy_zero h _ _).mono ?_
              rintro e w17 ⟨rfl, hb⟩
              replace HF := HF.later hb; replace HG := HG.later hb; replace hM := hM.later hb; replace hH := hH.later hb; replace HW := below_step HW hb
              clear hb
              go_wp2_with (first | (refine wpList_load_ob_g HF rfl 43 _ rfl rfl Try.underlying43 (by kernel_rfl) ?_) | (refine wpList_load_ob_g HG rfl 43 _ rfl rfl Try.underlying43 (by kernel_rfl) ?_))
              refine (check_ok h _ hhc0.1 hhc0.2.1 hhc0.2.2.1 hhc0.2.2.2).mono ?_
              rintro e w18 ⟨rfl, hb⟩
              replace HF := HF.later hb; replace HW := below_step HW hb
              clear hb
              go_wp2_with fail
              go_ret
              exact ⟨rfl, HW⟩
end Go.Proofs.Ytbldgpemocnboaa

/- The walk of the law CompPredicts: true at every input. -/
import Derived.Test.YtbldgpemocnboaaCompWholeW
import Derived.Test.YtbldgpemocnboaaRefB
namespace Go.Proofs.Ytbldgpemocnboaa
open Go.RowKit Go.Sort
attribute [local go_sem ↓] run_imax run_imin

abbrev T48 : TypeId := 48
def pl9Z : Array Value := #[.int .i64 0, .int .i64 0, .slice none 0 0, .int .i64 0, .int .i64 0, .slice none 0 0, .int .i64 0, .int .i64 0, .slice none 0 0]
theorem build22 (w : World) : (Instr.build 22 #[]).run Try.prog w = .ok (.agg (fcells 64 (fun _ => .int .u8 0))) w := by kernel_rfl
theorem mcC_skip (al sk s2 : Bool) (qp : Int) (X Y L : Nat → Int) (j : Nat) : (if j = 1 then Value.bool s2 else mcC al sk qp X Y L j) = mcC al s2 qp X Y L j := by
  unfold mcC
  by_cases e : j = 1
  · subst e; rfl
  · rw [if_neg e]
    by_cases e0 : j = 0
    · rw [if_pos e0, if_pos e0]
    · rw [if_neg e0, if_neg e0, if_neg e, if_neg e]
theorem pwh_posR {f : Fr} (hc : 0 < f.c) (hr : 0 < f.r) (k : Nat) : 0 < f.pw k ∧ 0 < f.ph k := by unfold Fr.pw Fr.ph; split <;> omega
theorem eq61 (x y : Int) (hx : -64 ≤ x ∧ x ≤ 64) (hy : -64 ≤ y ∧ y ≤ 64) (W : World) : (Op.equalIn 9999 61 (vcV x y) (vcV x y)).run Try.prog W = .ok true W := by
  have o1 := ord_self hx
  have o2 := ord_self hy
  unfold vcV Op.equalIn
  simp only [Sem.run_bind, run_underlying Try.underlying61 W, Result.andThen_ok]
  simp [Op.floatEq, o1, o2]
theorem eq63 (x y : Int) (hx : -64 ≤ x ∧ x ≤ 64) (hy : -64 ≤ y ∧ y ≤ 64) (W : World) : (Op.equalIn 10000 V63T (.agg (fcells 4 (vc4 (fun _ => x) (fun _ => y)))) (.agg #[vcV x y, vcV x y, vcV x y, vcV x y])).run Try.prog W = .ok true W := by
  have h := run_equalIn_arr (P := Try.prog) W 9999 V63T 61 4 (vc4 (fun _ => x) (fun _ => y)) (fun _ => vcV x y) (fun _ => true) und63 (by kernel_rfl) (by kernel_rfl) (fun i _ => eq61 x y hx hy W)
  exact h
set_option maxRecDepth 1000000 in
set_option maxHeartbeats 16000000 in
theorem compPredicts_walk (co ro ki a b c sd : Int) (p : Option Addr) (n m : Nat) (sl : Nat → Int) (mb : Int) (X0 Y0 : Nat → Int) (same : Bool) (d : Bool) (w : World)
    (hw : SmallW co ro ki a b c sd n sl) (hn : n ≤ maxLen) (hS : SL w p n (u8v sl)) (hmb : 0 ≤ mb ∧ mb ≤ 255) (hB : WyB X0 Y0) :
    Calls Try.prog 17 #[smV co ro ki a b c sd p n m, .int .u8 mb, .agg (fcells 9 (wyC X0 Y0 same)), .bool d] w fun e w' => e = .returned (.bool true) ∧ Below w.heap.size w w' := by
  replace hw := Lib.hid hw; replace hS := Lib.hid hS; replace hB := Lib.hid hB
  obtain ⟨hmb0, hmb1⟩ := hmb
  have hV := wyV_b same X0 Y0
  obtain ⟨X, hXe⟩ : ∃ X, wyV same X0 = X := ⟨_, rfl⟩
  obtain ⟨Y, hYe⟩ : ∃ Y, wyV same Y0 = Y := ⟨_, rfl⟩
  have hws := fun W => ways_any X0 Y0 same W hB.out
  rw [hXe, hYe] at hV hws
  clear hXe hYe
  replace hV := Lib.hid hV; replace hws := Lib.hid hws
  unfold smV
  unfold smC at *
  go_enter Try.func17, Try.ntmps17
  go_wp2_with fail
  generalize hw0 : (w.alloc (.cells #[.int .u8 co, .int .u8 ro, .int .u8 ki, .int .u8 a, .int .u8 b, .int .u8 c, .int .u32 sd, .slice p n m] SMT)).alloc (.cells (fcells 9 (wyC X0 Y0 same)) WYT) = w0
  have HB : Ob w0 w.heap.size SMT #[.int .u8 co, .int .u8 ro, .int .u8 ki, .int .u8 a, .int .u8 b, .int .u8 c, .int .u32 sd, .slice p n m] := by rw [← hw0]; exact (Ob.new_at _ _ rfl).alloc _
  have HI : Blk w0 (w.heap.size + 1) WYT 9 (wyC X0 Y0 same) := by rw [← hw0]; exact Blk.new_at _ _ _ (by simp)
  have HW : Below w.heap.size w w0 := by rw [← hw0]; ((repeat (first | exact Below.refl _ _ | assumption | refine Below.setCell ?_ (by first | omega | (simp; done) | (simp; omega)) _ | refine Below.alloc ?_ (by first | omega | (simp; done) | (simp; omega)) _ | refine below_drewN ?_ _ | refine Below.drew ?_ | refine below_setRow ?_ (by first | omega | (simp; done) | (simp; omega)) _)))
  clear hw0
  refine (awake14 _).mono ?_
  rintro e w1 ⟨rfl, hb⟩
  replace HB := HB.later hb; replace HI := HI.later hb; replace HW := below_step HW hb
  clear hb
  go_wp2_with (refine wpList_load_ob_g HB rfl 38 _ rfl rfl Try.underlying38 (by kernel_rfl) ?_)
  refine (light_any co ro ki a b c sd p n m _ hn).mono ?_
  rintro e w2 ⟨rfl, hb⟩
  replace HB := HB.later hb; replace HI := HI.later hb; replace HW := below_step HW hb
  clear hb
  by_cases hn2 : n ≤ 2000
  case neg =>
    have hd : decide (n ≤ 2000) = false := by simpa using hn2
    go_wp2_with fail
    go_ret
    exact ⟨rfl, HW⟩
  have hd : decide (n ≤ 2000) = true := by simpa using hn2
  go_wp2_with (refine wpList_load_ob_g HB rfl 38 _ rfl rfl Try.underlying38 (by kernel_rfl) ?_)
  clear hd
  refine (smallW_any hw.out hn2 (sl_later hS.out HW)).mono ?_
  rintro e w3 ⟨f, rfl, f1, f2, f3, f4, hM, -, hb⟩
  replace HI := HI.later hb; replace HW := below_step HW hb
  clear hb
  clear HB
  have hc8 := hM.hc; have hr8 := hM.hr
  unfold Fr.val
  go_wp2_with (refine wpList_store_stop (Ob.new_at (w := w3) FRT frZ rfl) rfl _ _ _ rfl rfl f.cells rfl (by kernel_rfl) rfl rfl ?_)
  intro w5 hw5
  have HF := cell_ob hw5.out
  replace hM := cell_mem hw5.out hM
  replace HI : Blk w5 (w.heap.size + 1) WYT 9 (wyC X0 Y0 same) := by rw [← hw5.out]; have := HI.lt; exact (HI.alloc _).setRow (by omega) _
  replace HW := cell_below hw5.out HW HW.size
  clear hw5
  generalize w3.heap.size = q at *
  obtain ⟨M, hMe⟩ : ∃ M, f.c * f.r = M := ⟨_, rfl⟩
  have hM0 : 0 < M := by rw [← hMe]; exact Nat.mul_pos (by omega) (by omega)
  have hM9 : M ≤ 9 := by rw [← hMe]; exact Nat.mul_le_mul f2 f4
  obtain ⟨N, hN1, hN2⟩ := fmb_of mb hM0 hmb0
  have hMi : (f.c : Int) * (f.r : Int) = (M : Int) := by rw [← Int.natCast_mul, hMe]
  have hN3 : mb.tmod ((f.c : Int) * (f.r : Int)) = (N : Int) := by rw [hMi]; exact hN1
  have hz0 : ((f.c : Int) * (f.r : Int) == 0) = false := by rw [hMi]; simp; omega
  have hp0 : 0 < (f.c : Int) * (f.r : Int) := by rw [hMi]; omega
  have hp1 : (f.c : Int) * (f.r : Int) ≤ 9 := by rw [hMi]; omega
  replace hMe := Lib.hid hMe; replace hMi := Lib.hid hMi; replace hN1 := Lib.hid hN1
  have g0 := HF.fC; have g1 := HF.fR
  go_wp2_with (refine wpList_load_blkM HI rfl WYT _ rfl rfl Try.underlying66 (by kernel_rfl) ?_)
  clear g0 g1 hN3 hz0 hp0 hp1
  refine (hws.out _).mono ?_
  rintro e w6 ⟨rfl, hb⟩
  replace HF := HF.later hb; replace hM := hM.later hb; replace HW := below_step HW hb
  clear hb
  clear HI
  have HZ : Blk (w6.alloc (.cells (fcells 4 fun _ => .complex .f64 0 0) V63T)) w6.heap.size V63T 4 (fun _ => .complex .f64 0 0) := Blk.new_at _ _ _ rfl
  go_upto_region 8 with (first | (refine wpList_alloc_blk rfl V63T rfl _ _ alloc63 ?_) | (refine wpList_store_blk HZ rfl _ _ _ rfl rfl rfl (by kernel_rfl) (fun j _ => rfl) ?_))
  have uq := HF.lt; have uY := hM.y.lt; have uU := hM.u.lt; have uV := hM.v.lt
  generalize hw7 : (w6.alloc (.cells (fcells 4 fun _ => .complex .f64 0 0) V63T)).setRow w6.heap.size (fcells 4 (vc4 X Y)) = w7
  have HV : Blk w7 w6.heap.size V63T 4 (vc4 X Y) := by rw [← hw7]; exact HZ.setRow_same rfl
  replace HF : Ob w7 q FRT f.cells := by rw [← hw7]; exact (HF.alloc _).setRow (by omega) _
  replace hM : f.Mem w7 := by rw [← hw7]; exact (hM.alloc _).setRow (by omega) (by omega) (by omega) _
  replace HW : Below w.heap.size w w7 := by rw [← hw7]; exact below_setRow (HW.alloc HW.size _) HW.size _
  clear hw7 HZ uq uY uU uV
  generalize w6.heap.size = vq at *
  go_wp2_with (refine wpList_load_blk HV rfl V63T _ rfl rfl und63 (by kernel_rfl) ?_)
  refine (ref14_any X Y _ hV.out).mono ?_
  rintro e w8 ⟨rfl, hb⟩
  replace HF := HF.later hb; replace hM := hM.later hb; replace HV := HV.later hb; replace HW := below_step HW hb
  clear hb
  have HZ : Blk (w8.alloc (.cells (fcells 395 (mcC false false 0 (fun _ => 0) (fun _ => 0) (fun _ => 0))) M115)) w8.heap.size M115 395 (mcC false false 0 (fun _ => 0) (fun _ => 0) (fun _ => 0)) := Blk.new_at _ _ _ rfl
  go_upto_region 9 with (first | (refine wpList_alloc_blk rfl M115 rfl _ _ alloc115 ?_) | (refine wpList_store_blk HZ rfl _ _ _ rfl rfl rfl (by kernel_rfl) (fun j _ => mcC_one _ _ _ _ _ _ j) ?_))
  have uq := HF.lt; have uY := hM.y.lt; have uU := hM.u.lt; have uV := hM.v.lt; have uv := HV.lt
  generalize hw9 : (w8.alloc (.cells (fcells 395 (mcC false false 0 (fun _ => 0) (fun _ => 0) (fun _ => 0))) M115)).setRow w8.heap.size (fcells 395 (mcC false false 0 X Y (fun _ => 0))) = w9
  have HC : Blk w9 w8.heap.size M115 395 (mcC false false 0 X Y (fun _ => 0)) := by rw [← hw9]; exact HZ.setRow_same rfl
  replace HF : Ob w9 q FRT f.cells := by rw [← hw9]; exact (HF.alloc _).setRow (by omega) _
  replace HV : Blk w9 vq V63T 4 (vc4 X Y) := by rw [← hw9]; exact (HV.alloc _).setRow (by omega) _
  replace hM : f.Mem w9 := by rw [← hw9]; exact (hM.alloc _).setRow (by omega) (by omega) (by omega) _
  have hcw : w.heap.size ≤ w8.heap.size := HW.size
  replace HW : Below w.heap.size w w9 := by rw [← hw9]; exact below_setRow (HW.alloc HW.size _) HW.size _
  clear hw9 HZ
  have n1 : w8.heap.size ≠ q := by omega
  have n2 : w8.heap.size ≠ vq := by omega
  have n3 : w8.heap.size ≠ f.bY ∧ w8.heap.size ≠ f.bU ∧ w8.heap.size ≠ f.bV := by omega
  clear uq uY uU uV uv
  generalize w8.heap.size = cq at *
  have c1 := HC.cell (k := 1) (by omega)
  have e1 : mcC false false 0 X Y (fun _ => 0) 1 = .bool false := rfl
  rw [e1] at c1
  have fz1 := HC.free 1
  clear e1
  go_upto_region 10 with fail
  generalize hw10 : w9.setCell ⟨cq, 1, none⟩ (.bool true) = w10
  replace HC : Blk w10 cq M115 395 (mcC false true 0 X Y (fun _ => 0)) := by rw [← hw10]; exact (HC.set 1 _).congr fun j _ => mcC_skip _ _ _ _ _ _ _ j
  replace HF : Ob w10 q FRT f.cells := by rw [← hw10]; exact HF.other n1 _ _
  replace HV : Blk w10 vq V63T 4 (vc4 X Y) := by rw [← hw10]; exact HV.other n2 _ _
  replace hM : f.Mem w10 := by rw [← hw10]; exact hM.other n3.1 n3.2.1 n3.2.2 _ _
  replace HW : Below w.heap.size w w10 := by rw [← hw10]; exact HW.setCell hcw _
  clear hw10 c1 fz1 hcw n1 n2 n3
  go_wp2_with (refine wpList_load_blkM HC rfl M115 _ rfl rfl Try.underlying115 (by kernel_rfl) ?_)
  refine (refColour_any false true 0 X Y _ _ hV.out).mono ?_
  rintro e w11 ⟨rfl, hb⟩
  replace HF := HF.later hb; replace hM := hM.later hb; replace HV := HV.later hb; replace HC := HC.later hb; replace HW := below_step HW hb
  clear hb
  go_wp2_with (refine wpList_load_blk HV rfl V63T _ rfl rfl und63 (by kernel_rfl) ?_)
  refine (colour_any X Y _ hV.out).mono ?_
  rintro e w12 ⟨rfl, hb⟩
  replace HF := HF.later hb; replace hM := hM.later hb; replace HV := HV.later hb; replace HC := HC.later hb; replace HW := below_step HW hb
  clear hb
  have nb1 := nrst_bd (sum4_le (X := X) (fun j hj => (hV.out j hj).1) (Nat.le_refl 4))
  have nb2 := nrst_bd (sum4_le (X := Y) (fun j hj => (hV.out j hj).2) (Nat.le_refl 4))
  have o1 := ord_self (n := nrst (sum4 X 4)) (by omega)
  have o2 := ord_self (n := nrst (sum4 Y 4)) (by omega)
  go_wp2_with fail
  refine (of_any _ _ _).mono ?_
  rintro e w13 ⟨rfl, rfl⟩
  unfold vcV
  go_wp2_with (refine wpList_load_ob_g HF rfl 43 _ rfl rfl Try.underlying43 (by kernel_rfl) ?_)
  clear o1 o2 nb1 nb2
  refine (planes_any f _).mono ?_
  rintro e w14 ⟨rfl, hb⟩
  replace HF := HF.later hb; replace hM := hM.later hb; replace HV := HV.later hb; replace HC := HC.later hb; replace HW := below_step HW hb
  clear hb
  go_wp2_with (refine wpList_store_stop (Ob.new_at (w := w14) T48 pl9Z rfl) rfl _ _ _ rfl rfl f.planes rfl (by kernel_rfl) rfl rfl ?_)
  intro w15 hw15
  have HL : Ob w15 w14.heap.size T48 f.planes := by rw [← hw15.out]; exact (Ob.new_at (w := w14) T48 pl9Z rfl).setRow_same _
  have uq := HF.lt; have uY := hM.y.lt; have uU := hM.u.lt; have uV := hM.v.lt; have uv := HV.lt; have uc := HC.lt
  replace HF : Ob w15 q FRT f.cells := by rw [← hw15.out]; exact (HF.alloc _).setRow (by omega) _
  replace HV : Blk w15 vq V63T 4 (vc4 X Y) := by rw [← hw15.out]; exact (HV.alloc _).setRow (by omega) _
  replace HC : Blk w15 cq M115 395 (mcC false true 0 X Y (fun _ => 0)) := by rw [← hw15.out]; exact (HC.alloc _).setRow (by omega) _
  replace hM : f.Mem w15 := by rw [← hw15.out]; exact (hM.alloc _).setRow (by omega) (by omega) (by omega) _
  replace HW : Below w.heap.size w w15 := by rw [← hw15.out]; exact below_setRow (HW.alloc HW.size _) HW.size _
  clear hw15 uq uY uU uV uv uc
  generalize w14.heap.size = pl at *
  obtain ⟨P, hPe⟩ : ∃ P, predF f N X Y d = P := ⟨_, rfl⟩
  have hpr : ∀ W, f.Mem W → Calls Try.prog 82 #[f.val, .int .i64 (N : Int), .agg (fcells 4 (vc4 X Y)), .bool d] W fun e w' => e = .returned (.agg (fcells 384 (ival P))) ∧ Below W.heap.size W w' := fun W hW => by
    rw [← hPe]; exact predict_any f N X Y d W (by omega) hW (by omega) hV.out
  replace hpr := Lib.hid hpr; replace hPe := Lib.hid hPe
  go_wp2_with (first | (refine wpList_load_ob_g HF rfl 43 _ rfl rfl Try.underlying43 (by kernel_rfl) ?_) | (refine wpList_load_blk HV rfl V63T _ rfl rfl und63 (by kernel_rfl) ?_))
  refine (hpr.out _ hM).mono ?_
  rintro e w16 ⟨rfl, hb⟩
  replace HF := HF.later hb; replace hM := hM.later hb; replace HV := HV.later hb; replace HC := HC.later hb; replace HL := HL.later hb; replace HW := below_step HW hb
  clear hb
  go_wp2_with fail
  go_loopw [57] (fun t wr => ∃ (k : Nat), k ≤ 6 ∧ t = .int .i64 (k : Int) ∧ Ob wr q FRT f.cells ∧ Blk wr vq V63T 4 (vc4 X Y) ∧ Blk wr cq M115 395 (mcC false true 0 X Y (fun _ => 0)) ∧ Ob wr pl T48 f.planes ∧ f.Mem wr ∧ Below w.heap.size w wr) (fun t _ => 6 - (intOf t).toNat)
  case atStart => exact ⟨0, by omega, rfl, HF, HV, HC, HL, hM, HW⟩
  case round =>
    clear HF HV HC HL hM HW
    obtain ⟨k, hk, rfl, HF, HV, HC, HL, hM, HW⟩ := hrel
    by_cases hk6 : k < 6
    · have hd : decide ((k : Int) < 6) = true := by simp; omega
      have k0 : (0 : Int) ≤ k := by omega
      have k1 : (k : Int) < 6 := by omega
      have hix : ∀ W, (Instr.index A102 (.agg (fcells 384 (ival P))) (.int .i64 (k : Int))).run Try.prog W = .ok (.agg (fcells 64 (ival (predB f N X Y d k)))) W := fun W => by
        have h8 := run_index_part (P := Try.prog) W A102 27 6 64 (ival P) k und102 (by kernel_rfl) (by kernel_rfl) hk6
        rw [← hPe.out, pred_at] at h8
        rw [← hPe.out]
        exact h8
      have HZ : Blk (wr.alloc (.cells (fcells 64 (ival fun _ => 0)) 27)) wr.heap.size 27 64 (ival fun _ => 0) := Blk.new_at _ _ _ rfl
      go_upto_region 17 with (first | (refine wpList_alloc_blk rfl 27 rfl _ _ alloc28 ?_) | (refine wpList_store_blk HZ rfl _ _ _ rfl rfl rfl (by kernel_rfl) (fun j _ => rfl) ?_))
      have uq := HF.lt; have uY := hM.y.lt; have uU := hM.u.lt; have uV := hM.v.lt; have uv := HV.lt; have uc := HC.lt; have ul := HL.lt
      generalize hw17 : (wr.alloc (.cells (fcells 64 (ival fun _ => 0)) 27)).setRow wr.heap.size (fcells 64 (ival (predB f N X Y d k))) = w17
      have HBb : Blk w17 wr.heap.size 27 64 (ival (predB f N X Y d k)) := by rw [← hw17]; exact HZ.setRow_same rfl
      replace HF : Ob w17 q FRT f.cells := by rw [← hw17]; exact (HF.alloc _).setRow (by omega) _
      replace HV : Blk w17 vq V63T 4 (vc4 X Y) := by rw [← hw17]; exact (HV.alloc _).setRow (by omega) _
      replace HC : Blk w17 cq M115 395 (mcC false true 0 X Y (fun _ => 0)) := by rw [← hw17]; exact (HC.alloc _).setRow (by omega) _
      replace HL : Ob w17 pl T48 f.planes := by rw [← hw17]; exact (HL.alloc _).setRow (by omega) _
      replace hM : f.Mem w17 := by rw [← hw17]; exact (hM.alloc _).setRow (by omega) (by omega) (by omega) _
      replace HW : Below w.heap.size w w17 := by rw [← hw17]; exact below_setRow (HW.alloc HW.size _) HW.size _
      clear hw17 HZ hix hd uq uY uU uV uv uc ul
      generalize wr.heap.size = bb at *
      go_frame
      go_cut [18] (fun t wx => t = .pointer (some ⟨w17.heap.size, 0, none⟩) ∧ wx = w17.alloc (.cells #[.int .i64 (f.pw k : Int), .int .i64 (f.ph k : Int), .slice (some ⟨f.pb k, 0, none⟩) (f.pw k * f.ph k) (f.pc k)] PLT))
      case first =>
        rcases (show k < 4 ∨ k = 4 ∨ k = 5 by omega) with h4 | rfl | rfl
        · have e0 : imax ((k : Int) - 3) 0 = 0 := by rw [imax_eq]; omega
          have q0 : w17.cell? ⟨pl, 0, none⟩ = some (.int .i64 (f.pw k : Int)) := HL.cell 0 (by unfold Fr.planes Fr.pw; simp [h4])
          have q1 : w17.cell? ⟨pl, 1, none⟩ = some (.int .i64 (f.ph k : Int)) := HL.cell 1 (by unfold Fr.planes Fr.ph; simp [h4])
          have q2 : w17.cell? ⟨pl, 2, none⟩ = some (.slice (some ⟨f.pb k, 0, none⟩) (f.pw k * f.ph k) (f.pc k)) := HL.cell 2 (by unfold Fr.planes Fr.pb Fr.pw Fr.ph Fr.pc; simp [h4])
          go_wp2_with fail
          go_meet
          exact ⟨rfl, rfl⟩
        · have e0 : imax (((4 : Nat) : Int) - 3) 0 = 1 := by rw [imax_eq]; omega
          have e1 : imax 1 0 = 1 := by rw [imax_eq]; omega
          have q0 : w17.cell? ⟨pl, 3, none⟩ = some (.int .i64 (f.pw 4 : Int)) := HL.cell 3 (by unfold Fr.planes Fr.pw; simp)
          have q1 : w17.cell? ⟨pl, 4, none⟩ = some (.int .i64 (f.ph 4 : Int)) := HL.cell 4 (by unfold Fr.planes Fr.ph; simp)
          have q2 : w17.cell? ⟨pl, 5, none⟩ = some (.slice (some ⟨f.pb 4, 0, none⟩) (f.pw 4 * f.ph 4) (f.pc 4)) := HL.cell 5 (by unfold Fr.planes Fr.pb Fr.pw Fr.ph Fr.pc; simp)
          go_wp2_with fail
          go_meet
          exact ⟨rfl, rfl⟩
        · have e0 : imax (((5 : Nat) : Int) - 3) 0 = 2 := by rw [imax_eq]; omega
          have e1 : imax 2 0 = 2 := by rw [imax_eq]; omega
          have q0 : w17.cell? ⟨pl, 6, none⟩ = some (.int .i64 (f.pw 5 : Int)) := HL.cell 6 (by unfold Fr.planes Fr.pw; simp)
          have q1 : w17.cell? ⟨pl, 7, none⟩ = some (.int .i64 (f.ph 5 : Int)) := HL.cell 7 (by unfold Fr.planes Fr.ph; simp)
          have q2 : w17.cell? ⟨pl, 8, none⟩ = some (.slice (some ⟨f.pb 5, 0, none⟩) (f.pw 5 * f.ph 5) (f.pc 5)) := HL.cell 8 (by unfold Fr.planes Fr.pb Fr.pw Fr.ph Fr.pc; simp)
          go_wp2_with fail
          go_meet
          exact ⟨rfl, rfl⟩
      case rest =>
        obtain ⟨rfl, rfl⟩ := hcut
        have HP : Ob (w17.alloc (.cells #[.int .i64 (f.pw k : Int), .int .i64 (f.ph k : Int), .slice (some ⟨f.pb k, 0, none⟩) (f.pw k * f.ph k) (f.pc k)] PLT)) w17.heap.size PLT #[.int .i64 (f.pw k : Int), .int .i64 (f.ph k : Int), .slice (some ⟨f.pb k, 0, none⟩) (f.pw k * f.ph k) (f.pc k)] := Ob.new_at _ _ rfl
        replace HF := HF.alloc (.cells #[.int .i64 (f.pw k : Int), .int .i64 (f.ph k : Int), .slice (some ⟨f.pb k, 0, none⟩) (f.pw k * f.ph k) (f.pc k)] PLT); replace HV := HV.alloc (.cells #[.int .i64 (f.pw k : Int), .int .i64 (f.ph k : Int), .slice (some ⟨f.pb k, 0, none⟩) (f.pw k * f.ph k) (f.pc k)] PLT); replace HC := HC.alloc (.cells #[.int .i64 (f.pw k : Int), .int .i64 (f.ph k : Int), .slice (some ⟨f.pb k, 0, none⟩) (f.pw k * f.ph k) (f.pc k)] PLT); replace HL := HL.alloc (.cells #[.int .i64 (f.pw k : Int), .int .i64 (f.ph k : Int), .slice (some ⟨f.pb k, 0, none⟩) (f.pw k * f.ph k) (f.pc k)] PLT); replace HBb := HBb.alloc (.cells #[.int .i64 (f.pw k : Int), .int .i64 (f.ph k : Int), .slice (some ⟨f.pb k, 0, none⟩) (f.pw k * f.ph k) (f.pc k)] PLT); replace hM := hM.alloc (.cells #[.int .i64 (f.pw k : Int), .int .i64 (f.ph k : Int), .slice (some ⟨f.pb k, 0, none⟩) (f.pw k * f.ph k) (f.pc k)] PLT); replace HW := HW.alloc HW.size (.cells #[.int .i64 (f.pw k : Int), .int .i64 (f.ph k : Int), .slice (some ⟨f.pb k, 0, none⟩) (f.pw k * f.ph k) (f.pc k)] PLT)
        generalize w17.alloc (.cells #[.int .i64 (f.pw k : Int), .int .i64 (f.ph k : Int), .slice (some ⟨f.pb k, 0, none⟩) (f.pw k * f.ph k) (f.pc k)] PLT) = w18 at *
        generalize w17.heap.size = pp at *
        have hne := fun W => neq28 (predB f N X Y d k) (predB f N X Y d k) true (by simp) W
        have hrf : ∀ W, Calls Try.prog 84 #[.agg #[.int .i64 (f.pw k : Int), .int .i64 (f.ph k : Int), .slice (some ⟨f.pb k, 0, none⟩) (f.pw k * f.ph k) (f.pc k)]] W fun e w' => e = .returned (.agg #[.int .i64 (f.pw k : Int), .int .i64 (f.ph k : Int), .slice (some ⟨f.pb k, 0, none⟩) (f.pw k * f.ph k) (f.pc k)]) ∧ Below W.heap.size W w' := fun W => ref_any (f.pw k) (f.ph k) (f.pb k) (f.pw k * f.ph k) (f.pc k) W
        have hbk : ∀ W, f.Mem W → Calls Try.prog 83 #[.agg #[.int .i64 (f.pw k : Int), .int .i64 (f.ph k : Int), .slice (some ⟨f.pb k, 0, none⟩) (f.pw k * f.ph k) (f.pc k)], .int .i64 (f.c : Int), .int .i64 (N : Int), .int .i64 (k : Int), .agg (fcells 395 (mcC false true 0 X Y (fun _ => 0))), .bool d, .agg (fcells 64 (fun _ => .int .u8 0))] W fun e w' => e = .returned (.agg (fcells 64 (ival (predB f N X Y d k)))) ∧ Below W.heap.size W w' := fun W hW => by
          have hbp := hW.plb k
          obtain ⟨w1, w2⟩ := pwh_posR (f := f) (by omega) (by omega) k
          exact refBlock_any (f.pw k) (f.ph k) (f.pb k) (f.pc k) f.c f.r N k (f.ps k) 0 X Y (fun _ => 0) d (fun _ => .int .u8 0) W w1 w2 (by omega) (by omega) (hW.pl k) (by omega) hc8 (by omega) hk6 hV.out
        replace hrf := Lib.hid hrf; replace hbk := Lib.hid hbk
        generalize predB f N X Y d k = B1 at *
        go_wp2_with fail
        have e0 := fun p => (HP.re p).plW
        have e1 := fun p => (HP.re p).plH
        have e2 := fun p => (HP.re p).plS
        have e3 := fun p => (HF.re p).fC
        refine wp_region_quiet_below (by kernel_rfl) (by kernel_rfl) ?_
        repeat (first | (go_big_quiet_want; refine quiet_load_row (m := 64) HBb 27 _ rfl rfl _ und28 rfl (by kernel_rfl) (by omega) _ (fcells_from _ _) ?_; go_big_quiet_on; simp only [Act.put, List.setIfInBounds_toArray, List.set_cons_succ, List.set_cons_zero]) | (go_big_quiet_want; refine quiet_load_row (m := 395) HC M115 _ rfl rfl _ Try.underlying115 rfl (by kernel_rfl) (by omega) _ (fcells_from _ _) ?_; go_big_quiet_on; simp only [Act.put, List.setIfInBounds_toArray, List.set_cons_succ, List.set_cons_zero]) | (go_big_quiet_want; refine quiet_build 22 rfl _ build22 ?_; go_big_quiet_on; simp only [Act.put, List.setIfInBounds_toArray, List.set_cons_succ, List.set_cons_zero]) | (go_big_quiet_step (first | (go_at_call 84; with_reducible exact Calls.regrown_of (hrf.out _)) | (go_at_call 83; with_reducible exact Calls.regrown_of (hbk.out _ (hM.later (below_regrown _ _ _)))))))
        refine wpQuiet_nil ?_
        intro wq hwq
        replace hwq := Cls.below hwq
        replace HF := HF.later hwq; replace HV := HV.later hwq; replace HC := HC.later hwq; replace HL := HL.later hwq; replace hM := hM.later hwq; replace HW := below_step HW hwq
        clear hwq
        clear e0 e1 e2 e3 hne
        go_wp2_with fail
        exact ⟨⟨k + 1, by omega, by go_num, HF, HV, HC, HL, hM, HW⟩, by simp [intOf]; omega⟩
    · have hd : decide ((k : Int) < 6) = false := by simp; omega
      have c0 : ∀ p : Regrown, (Sort.grow (redrawn wr p.d) p.os).cell? ⟨vq, 0, none⟩ = some (vcV (X 0) (Y 0)) := fun p => (HV.re p).cell (k := 0) (by omega)
      obtain ⟨⟨b1, b2⟩, b3, b4⟩ := hV.out 0 (by omega)
      have heq := fun W => eq63 (X 0) (Y 0) (by omega) (by omega) W
      have hal := fun W => all_any (X 0) (Y 0) W
      unfold vcV at c0 heq hal
      replace hal := Lib.hid hal
      go_wp2_with fail
      refine wp_region_quiet_below (by kernel_rfl) (by kernel_rfl) ?_
      repeat (go_big_quiet_step ((go_at_call 45; with_reducible exact Calls.regrown_of (hal.out _))))
      refine wpQuiet_nil ?_
      intro wq hwq
      replace hwq := Cls.below hwq
      go_wp2_with fail
      go_ret
      exact ⟨rfl, below_step HW hwq⟩
end Go.Proofs.Ytbldgpemocnboaa

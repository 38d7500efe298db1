/- The walk of the law CompLocal: true at every input. -/
import Derived.Test.YtbldgpemocnboaaLocM
import Derived.Test.YtbldgpemocnboaaMapI
import Derived.Test.YtbldgpemocnboaaCompPreW
import Derived.Test.YtbldgpemocnboaaTou
import Derived.Test.YtbldgpemocnboaaConM
import Derived.Test.YtbldgpemocnboaaCell
import Derived.Test.YtbldgpemocnboaaEqA
import Derived.Test.YtbldgpemocnboaaQld
namespace Go.Proofs.Ytbldgpemocnboaa
open Go.RowKit Go.Sort
attribute [local go_sem ↓] run_imax run_imin

theorem eqs102 (V : Nat → Int) (W : World) : (Op.equalIn 10000 102 (.agg (fcells 384 (ival V))) (.agg (fcells 384 (ival V)))).run Try.prog W = .ok true W := by
  have h := run_equalIn_arrP (P := Try.prog) W 9999 102 27 6 64 (ival V) (ival V) (fun _ => true) und102 (by kernel_rfl) (by kernel_rfl) (fun i _ => by
    have h1 := run_equalIn_arr (P := Try.prog) W 9998 27 3 64 (fun j => ival V (i * 64 + j)) (fun j => ival V (i * 64 + j)) (fun _ => true) und28 (by kernel_rfl) (by kernel_rfl) (fun j _ => by
      have h2 : (Op.equalIn 9998 3 (ival V (i * 64 + j)) (ival V (i * 64 + j))).run Try.prog W = .ok (V (i * 64 + j) == V (i * 64 + j)) W := run_equalIn_int (P := Try.prog) W 9997 3 .i64 .i64 (V (i * 64 + j)) (V (i * 64 + j)) (by kernel_rfl)
      rw [h2]; simp)
    rw [h1]; simp)
  rw [show ((List.range 6).all fun _ => true) = true by simp] at h
  exact h
theorem bits_u8 (a b : Int) : 0 ≤ bits BinOp.xor IntKind.u8 a b ∧ bits BinOp.xor IntKind.u8 a b ≤ 255 := by
  unfold bits
  rw [IntKind.wrap_u8]
  omega
/-- What is kept: the first j of a list. -/
def keepM (L : List Int) (j : Nat) (z : Int) : Option Value := if z ∈ L.take j then some (.bool true) else none
theorem keepM_step {L : List Int} {j : Nat} (hj : j < L.length) (z : Int) : updM (keepM L j) (L.getD j 0) (.bool true) z = keepM L (j + 1) z := by
  have e : L.getD j 0 = L[j] := by simp [List.getD, hj]
  unfold updM keepM
  have ht : z ∈ L.take (j + 1) ↔ (z ∈ L.take j ∨ z = L[j]) := by rw [List.take_succ_eq_append_getElem hj]; simp only [List.mem_append, List.mem_singleton]
  rw [e]
  by_cases h : z = L[j]
  · rw [if_pos h, if_pos (ht.2 (Or.inr h))]
  · rw [if_neg h]
    by_cases h2 : z ∈ L.take j
    · rw [if_pos h2, if_pos (ht.2 (Or.inl h2))]
    · rw [if_neg h2, if_neg (fun h3 => (ht.1 h3).elim h2 h)]
set_option maxRecDepth 1000000 in
set_option maxHeartbeats 16000000 in
theorem compLocal_walk (co ro ki a b c sd : Int) (p : Option Addr) (n m : Nat) (sl : Nat → Int) (mb : Int) (X0 Y0 : Nat → Int) (same : Bool) (d : Bool) (by_ : Int) (w : World)
    (hw : SmallW co ro ki a b c sd n sl) (hn : n ≤ maxLen) (hS : SL w p n (u8v sl)) (hmb : 0 ≤ mb ∧ mb ≤ 255) (hB : WyB X0 Y0) (hby : 0 ≤ by_ ∧ by_ ≤ 255) :
    Calls Try.prog 18 #[smV co ro ki a b c sd p n m, .int .u8 mb, .agg (fcells 9 (wyC X0 Y0 same)), .bool d, .int .u8 by_] w fun e w' => e = .returned (.bool true) ∧ Below w.heap.size w w' := by
  have hmm := @run_makeMap Try.prog
  obtain ⟨hby0, hby1⟩ := hby
  replace hw := Lib.hid hw; replace hS := Lib.hid hS; replace hB := Lib.hid hB
  obtain ⟨hmb0, hmb1⟩ := hmb
  have hV := wyV_b same X0 Y0
  obtain ⟨X, hXe⟩ : ∃ X, wyV same X0 = X := ⟨_, rfl⟩
  obtain ⟨Y, hYe⟩ : ∃ Y, wyV same Y0 = Y := ⟨_, rfl⟩
  have hws := fun W => ways_any X0 Y0 same W hB.out
  rw [hXe, hYe] at hV hws
  clear hXe hYe
  replace hV := Lib.hid hV; replace hws := Lib.hid hws
  unfold smV
  unfold smC at *
  go_enter Try.func18, Try.ntmps18
  go_wp2_with fail
  generalize hw0 : (w.alloc (.cells #[.int .u8 co, .int .u8 ro, .int .u8 ki, .int .u8 a, .int .u8 b, .int .u8 c, .int .u32 sd, .slice p n m] SMT)).alloc (.cells (fcells 9 (wyC X0 Y0 same)) WYT) = w0
  have HB : Ob w0 w.heap.size SMT #[.int .u8 co, .int .u8 ro, .int .u8 ki, .int .u8 a, .int .u8 b, .int .u8 c, .int .u32 sd, .slice p n m] := by rw [← hw0]; exact (Ob.new_at _ _ rfl).alloc _
  have HI : Blk w0 (w.heap.size + 1) WYT 9 (wyC X0 Y0 same) := by rw [← hw0]; exact Blk.new_at _ _ _ (by simp)
  have HW : Below w.heap.size w w0 := by rw [← hw0]; ((repeat (first | exact Below.refl _ _ | assumption | refine Below.setCell ?_ (by first | omega | (simp; done) | (simp; omega)) _ | refine Below.alloc ?_ (by first | omega | (simp; done) | (simp; omega)) _ | refine below_drewN ?_ _ | refine Below.drew ?_ | refine below_setRow ?_ (by first | omega | (simp; done) | (simp; omega)) _)))
  clear hw0
  refine (awake14 _).mono ?_
  rintro e w1 ⟨rfl, hb⟩
  replace HB := HB.later hb; replace HI := HI.later hb; replace HW := below_step HW hb
  clear hb
  go_wp2_with (refine wpList_load_ob_g HB rfl 38 _ rfl rfl Try.underlying38 (by kernel_rfl) ?_)
  refine (light_any co ro ki a b c sd p n m _ hn).mono ?_
  rintro e w2 ⟨rfl, hb⟩
  replace HB := HB.later hb; replace HI := HI.later hb; replace HW := below_step HW hb
  clear hb
  by_cases hn2 : n ≤ 2000
  case neg =>
    have hd : decide (n ≤ 2000) = false := by simpa using hn2
    go_wp2_with fail
    go_ret
    exact ⟨rfl, HW⟩
  have hd : decide (n ≤ 2000) = true := by simpa using hn2
  go_wp2_with (refine wpList_load_ob_g HB rfl 38 _ rfl rfl Try.underlying38 (by kernel_rfl) ?_)
  clear hd
  refine (smallW_any hw.out hn2 (sl_later hS.out HW)).mono ?_
  rintro e w3 ⟨f, rfl, f1, f2, f3, f4, hM, -, hb⟩
  replace HI := HI.later hb; replace HW := below_step HW hb
  clear hb
  clear HB
  have hc8 := hM.hc; have hr8 := hM.hr
  unfold Fr.val
  go_wp2_with (refine wpList_store_stop (Ob.new_at (w := w3) FRT frZ rfl) rfl _ _ _ rfl rfl f.cells rfl (by kernel_rfl) rfl rfl ?_)
  intro w5 hw5
  have HF := cell_ob hw5.out
  replace hM := cell_mem hw5.out hM
  replace HI : Blk w5 (w.heap.size + 1) WYT 9 (wyC X0 Y0 same) := by rw [← hw5.out]; have := HI.lt; exact (HI.alloc _).setRow (by omega) _
  replace HW := cell_below hw5.out HW HW.size
  clear hw5
  generalize w3.heap.size = q at *
  obtain ⟨M, hMe⟩ : ∃ M, f.c * f.r = M := ⟨_, rfl⟩
  have hM0 : 0 < M := by rw [← hMe]; exact Nat.mul_pos (by omega) (by omega)
  have hM9 : M ≤ 9 := by rw [← hMe]; exact Nat.mul_le_mul f2 f4
  obtain ⟨N, hN1, hN2⟩ := fmb_of mb hM0 hmb0
  have hMi : (f.c : Int) * (f.r : Int) = (M : Int) := by rw [← Int.natCast_mul, hMe]
  have hN3 : mb.tmod ((f.c : Int) * (f.r : Int)) = (N : Int) := by rw [hMi]; exact hN1
  have hz0 : ((f.c : Int) * (f.r : Int) == 0) = false := by rw [hMi]; simp; omega
  have hp0 : 0 < (f.c : Int) * (f.r : Int) := by rw [hMi]; omega
  have hp1 : (f.c : Int) * (f.r : Int) ≤ 9 := by rw [hMi]; omega
  replace hMe := Lib.hid hMe; replace hMi := Lib.hid hMi; replace hN1 := Lib.hid hN1
  have g0 := HF.fC; have g1 := HF.fR
  go_wp2_with (refine wpList_load_blkM HI rfl WYT _ rfl rfl Try.underlying66 (by kernel_rfl) ?_)
  clear g0 g1 hN3 hz0 hp0 hp1
  refine (hws.out _).mono ?_
  rintro e w6 ⟨rfl, hb⟩
  replace HF := HF.later hb; replace hM := hM.later hb; replace HW := below_step HW hb
  clear hb
  clear HI
  have HZ : Blk (w6.alloc (.cells (fcells 4 fun _ => .complex .f64 0 0) V63T)) w6.heap.size V63T 4 (fun _ => .complex .f64 0 0) := Blk.new_at _ _ _ rfl
  go_upto_region 8 with (first | (refine wpList_alloc_blk rfl V63T rfl _ _ alloc63 ?_) | (refine wpList_store_blk HZ rfl _ _ _ rfl rfl rfl (by kernel_rfl) (fun j _ => rfl) ?_))
  have uq := HF.lt; have uY := hM.y.lt; have uU := hM.u.lt; have uV := hM.v.lt
  generalize hw7 : (w6.alloc (.cells (fcells 4 fun _ => .complex .f64 0 0) V63T)).setRow w6.heap.size (fcells 4 (vc4 X Y)) = w7
  have HV : Blk w7 w6.heap.size V63T 4 (vc4 X Y) := by rw [← hw7]; exact HZ.setRow_same rfl
  replace HF : Ob w7 q FRT f.cells := by rw [← hw7]; exact (HF.alloc _).setRow (by omega) _
  replace hM : f.Mem w7 := by rw [← hw7]; exact (hM.alloc _).setRow (by omega) (by omega) (by omega) _
  replace HW : Below w.heap.size w w7 := by rw [← hw7]; exact below_setRow (HW.alloc HW.size _) HW.size _
  clear hw7 HZ uq uY uU uV
  generalize w6.heap.size = vq at *
  go_wp2_with (refine wpList_load_ob_g HF rfl 43 _ rfl rfl Try.underlying43 (by kernel_rfl) ?_)
  refine (clone_any f _ hM).mono ?_
  rintro e w8 ⟨g, rfl, hg, hG, gF, hb⟩
  have sFG : f.Sep g := Fr.Sep.of hM gF
  have gFw : g.From w.heap.size := gF.mono HW.size
  replace HF := HF.later hb; replace hM := hM.later hb; replace HV := HV.later hb; replace HW := below_step HW hb
  clear hb
  clear gF
  unfold Fr.val
  go_wp2_with (refine wpList_store_stop (Ob.new_at (w := w8) FRT frZ rfl) rfl _ _ _ rfl rfl g.cells rfl (by kernel_rfl) rfl rfl ?_)
  intro w9 hw9
  have HG := cell_ob hw9.out
  replace hM := cell_mem hw9.out hM; replace hG := cell_mem hw9.out hG
  replace HF := cell_keep hw9.out HF
  replace HV := mk_keepB hw9.out HV
  replace HW := cell_below hw9.out HW HW.size
  clear hw9
  generalize w8.heap.size = gq at *
  have us := HW.size
  go_upto_region 10 with fail
  have HK : MapI (w9.alloc (.map #[] 0)) w9.heap.size 0 (keepM [] 0) := (MapI.made w9).congr fun k _ => by unfold keepM; simp
  replace HF := HF.alloc (.map #[] 0); replace HG := HG.alloc (.map #[] 0); replace HV := HV.alloc (.map #[] 0); replace hM := hM.alloc (.map #[] 0); replace hG := hG.alloc (.map #[] 0); replace HW := HW.alloc us (.map #[] 0)
  have nq : w9.heap.size ≠ q := HK.ne_ob HF
  have ng : w9.heap.size ≠ gq := HK.ne_ob HG
  have nv : w9.heap.size ≠ vq := HK.ne_ob (cs := fcells 4 (vc4 X Y)) HV
  have nf : w9.heap.size ≠ f.bY ∧ w9.heap.size ≠ f.bU ∧ w9.heap.size ≠ f.bV := ⟨HK.ne_vb hM.y.vb, HK.ne_vb hM.u.vb, HK.ne_vb hM.v.vb⟩
  have nx : w9.heap.size ≠ g.bY ∧ w9.heap.size ≠ g.bU ∧ w9.heap.size ≠ g.bV := ⟨HK.ne_vb hG.y.vb, HK.ne_vb hG.u.vb, HK.ne_vb hG.v.vb⟩
  have hmq : w.heap.size ≤ w9.heap.size := us
  generalize w9.alloc (.map #[] 0) = w10 at *
  generalize w9.heap.size = mq at *
  have g0 := HF.fC; have g1 := HF.fR
  go_wp2_with (refine wpList_load_blk HV rfl V63T _ rfl rfl und63 (by kernel_rfl) ?_)
  clear g0 g1
  refine (touches_any f.c f.r N X Y _ (by omega) (by omega) (by omega) (by omega) (by omega) hV.out).mono ?_
  rintro e w11 ⟨tq, tc, L, rfl, ht, hL1, hL2, hLp, hLm, HL, hb⟩
  have ntm : mq ≠ tq := by have := HK.lt; omega
  replace HK := HK.later hb; replace hG := hG.later hb
  have htw : w.heap.size ≤ tq := Nat.le_trans HW.size ht
  replace HF := HF.later hb; replace HG := HG.later hb; replace hM := hM.later hb; replace HV := HV.later hb; replace HW := below_step HW hb
  clear hb
  replace HK : MapI w11 mq 0 (keepM L 0) := HK.congr fun k _ => by unfold keepM; simp
  replace hLm := Lib.hid hLm; replace hLp := Lib.hid hLp
  go_wp2_with fail
  go_loopw [52] (fun t wr => ∃ j : Nat, j ≤ L.length ∧ t = .int .i64 (j : Int) ∧ MapI wr mq j (keepM L j) ∧ VB wr tq 3 L.length (fun k => .int .i64 (L.getD k 0)) ∧ Ob wr q FRT f.cells ∧ Ob wr gq FRT g.cells ∧ Blk wr vq V63T 4 (vc4 X Y) ∧ f.Mem wr ∧ g.Mem wr ∧ Below w.heap.size w wr) (fun t _ => L.length - (intOf t).toNat)
  case atStart => exact ⟨0, by omega, rfl, HK, HL, HF, HG, HV, hM, hG, HW⟩
  case round =>
    clear HK HL HF HG HV hM hG HW
    obtain ⟨j, hj, rfl, HK, HL, HF, HG, HV, hM, hG, HW⟩ := hrel
    by_cases hjl : j < L.length
    · have hd : decide ((j : Int) < (L.length : Int)) = true := by simp; omega
      have j0 : (0 : Int) ≤ j := by omega
      have c0 : wr.cell? ⟨tq, j, none⟩ = some (.int .i64 (L.getD j 0)) := HL.cell hjl
      have hst := fun z => keepM_step hjl z
      have hv64 : I64 (L.getD j 0) := by
        have e : L.getD j 0 = L[j] := by simp [List.getD, hjl]
        obtain ⟨z, hz, hzt⟩ := (hLm.out _).1 (List.getElem_mem hjl)
        have := touched_lt (by omega) (by omega) hzt
        rw [hMe.out] at this
        rw [e, hz]; exact ⟨by omega, by omega⟩
      obtain ⟨V, hVe⟩ : ∃ V, L.getD j 0 = V := ⟨_, rfl⟩
      rw [hVe] at c0 hst hv64
      obtain ⟨w12, hup, HK2, hwr⟩ := HK.update undMap (by unfold maxLen; omega) hv64 (.bool true)
      replace hst := Lib.hid hst; replace hVe := Lib.hid hVe; replace hv64 := Lib.hid hv64
      go_wp2_with fail
      clear hup c0
      replace HK2 := HK2.congr fun z _ => hst.out z
      replace HL := HL.wr hwr (Ne.symm ntm); replace HF := HF.wr hwr (Ne.symm nq); replace HG := HG.wr hwr (Ne.symm ng); replace HV := HV.wr hwr (Ne.symm nv)
      replace hM := hM.wr hwr (Ne.symm nf.1) (Ne.symm nf.2.1) (Ne.symm nf.2.2); replace hG := hG.wr hwr (Ne.symm nx.1) (Ne.symm nx.2.1) (Ne.symm nx.2.2); replace HW := hwr.below HW hmq
      exact ⟨⟨j + 1, by omega, by go_num, HK2, HL, HF, HG, HV, hM, hG, HW⟩, by simp [intOf]; omega⟩
    · obtain rfl : j = L.length := by omega
      have hd : decide (((L.length : Nat) : Int) < (L.length : Int)) = false := by simp
      clear HL
      obtain ⟨T, hT⟩ : ∃ T : Nat → Prop, touched f.c f.r N X Y = T := ⟨_, rfl⟩
      have hkT : ∀ z : Nat, T z → keepM L L.length (z : Int) = some (.bool true) := fun z hz => by
        unfold keepM; rw [List.take_length, if_pos ((hLm.out _).2 ⟨z, rfl, by rw [hT]; exact hz⟩)]
      have hkF : ∀ z : Nat, ¬ T z → keepM L L.length (z : Int) = none := fun z hz => by
        unfold keepM; rw [List.take_length, if_neg (fun h => by
          obtain ⟨y, hy, hy2⟩ := (hLm.out _).1 h
          rw [hT] at hy2
          obtain rfl : z = y := by omega
          exact hz hy2)]
      have hp0 : 0 ≤ (f.c : Int) * (f.r : Int) := by rw [hMi.out]; omega
      have hp1 : (f.c : Int) * (f.r : Int) ≤ 9 := by rw [hMi.out]; omega
      obtain ⟨KM, hKM⟩ : ∃ KM, keepM L L.length = KM := ⟨_, rfl⟩
      rw [hKM] at hkT hkF HK
      replace hkT := Lib.hid hkT; replace hkF := Lib.hid hkF; replace hT := Lib.hid hT
      clear hKM
      obtain ⟨nL, hnL⟩ : ∃ z, L.length = z := ⟨_, rfl⟩
      rw [hnL] at HK
      replace hnL := Lib.hid hnL
      have g0 := HF.fC; have g1 := HF.fR
      go_wp2_with fail
      clear g0 g1 hp0 hp1
      rw [hMi.out]
      have hgc : g.c = f.c := hg.c
      have hgr : g.r = f.r := hg.r
      replace hgc := Lib.hid hgc; replace hgr := Lib.hid hgr
      replace hg := Lib.hid hg; replace sFG := Lib.hid sFG; replace gFw := Lib.hid gFw
      go_loopw [64] (fun t wr => ∃ (k : Nat) (x : Fr), k ≤ M ∧ t = .int .i64 (k : Int) ∧ Hid (LocR f g T x) ∧ x.Mem wr ∧ f.Mem wr ∧ Ob wr q FRT f.cells ∧ Ob wr gq FRT g.cells ∧ Blk wr vq V63T 4 (vc4 X Y) ∧ MapI wr mq nL KM ∧ Below w.heap.size w wr) (fun t _ => M - (intOf t).toNat)
      case atStart => exact ⟨0, g, by omega, rfl, Lib.hid (LocR.start hg.out), hG, hM, HF, HG, HV, HK, HW⟩
      case round =>
        clear hG hM HF HG HV HK HW
        obtain ⟨k, x, hkM, rfl, hx, hX, hM, HF, HG, HV, HK, HW⟩ := hrel
        by_cases hkl : k < M
        · have hd : decide ((k : Int) < (M : Int)) = true := by simp; omega
          by_cases hTk : T k
          · have hlk := HK.get_some undMap (z := .bool false) (by kernel_rfl) ⟨by omega, by omega⟩ (hkT.out k hTk)
            replace hTk := Lib.hid hTk
            go_wp2_with fail
            exact ⟨⟨k + 1, x, by omega, by go_num, hx, hX, hM, HF, HG, HV, HK, HW⟩, by simp [intOf]; omega⟩
          · have hlk := HK.get_none undMap (z := .bool false) (by kernel_rfl) ⟨by omega, by omega⟩ (hkF.out k hTk)
            replace hTk := Lib.hid hTk
            go_wp2_with fail
            clear hlk
            go_loopw [70] (fun t wr => ∃ (kb : Nat) (x : Fr), kb ≤ 6 ∧ t = .int .i64 (kb : Int) ∧ Hid (LocR f g T x) ∧ x.Mem wr ∧ f.Mem wr ∧ Ob wr q FRT f.cells ∧ Ob wr gq FRT g.cells ∧ Blk wr vq V63T 4 (vc4 X Y) ∧ MapI wr mq nL KM ∧ Below w.heap.size w wr) (fun t _ => 6 - (intOf t).toNat)
            case atStart => exact ⟨0, x, by omega, rfl, hx, hX, hM, HF, HG, HV, HK, HW⟩
            case round =>
              clear hx hX hM HF HG HV HK HW
              obtain ⟨kb, x, hk6, rfl, hx, hX, hM, HF, HG, HV, HK, HW⟩ := hrel
              by_cases hkb : kb < 6
              · have hd : decide ((kb : Int) < 6) = true := by simp; omega
                go_wp2_with (refine wpList_load_ob_g HG rfl 43 _ rfl rfl Try.underlying43 (by kernel_rfl) ?_)
                refine (frBlock_any g k kb _ (by rw [hgc.out]; omega) (by rw [hgc.out]; omega) (by omega) hkb).mono ?_
                rintro e w13 ⟨rfl, hb⟩
                replace hX := hX.later hb; replace HK := HK.later hb
                replace HF := HF.later hb; replace HG := HG.later hb; replace HV := HV.later hb; replace hM := hM.later hb; replace HW := below_step HW hb
                clear hb
                unfold Fr.blkV
                have us13 := HW.size
                go_wp2_with fail
                have HP : Ob (w13.alloc (.cells #[.int .i64 (g.pw kb : Int), .int .i64 (g.ph kb : Int), .slice (some ⟨g.pb kb, 0, none⟩) (g.pw kb * g.ph kb) (g.pc kb)] PLT)) w13.heap.size PLT #[.int .i64 (g.pw kb : Int), .int .i64 (g.ph kb : Int), .slice (some ⟨g.pb kb, 0, none⟩) (g.pw kb * g.ph kb) (g.pc kb)] := Ob.new_at _ _ rfl
                replace HG := HG.alloc (.cells #[.int .i64 (g.pw kb : Int), .int .i64 (g.ph kb : Int), .slice (some ⟨g.pb kb, 0, none⟩) (g.pw kb * g.ph kb) (g.pc kb)] PLT); replace HF := HF.alloc (.cells #[.int .i64 (g.pw kb : Int), .int .i64 (g.ph kb : Int), .slice (some ⟨g.pb kb, 0, none⟩) (g.pw kb * g.ph kb) (g.pc kb)] PLT); replace HV := HV.alloc (.cells #[.int .i64 (g.pw kb : Int), .int .i64 (g.ph kb : Int), .slice (some ⟨g.pb kb, 0, none⟩) (g.pw kb * g.ph kb) (g.pc kb)] PLT); replace HK := HK.alloc (.cells #[.int .i64 (g.pw kb : Int), .int .i64 (g.ph kb : Int), .slice (some ⟨g.pb kb, 0, none⟩) (g.pw kb * g.ph kb) (g.pc kb)] PLT); replace hM := hM.alloc (.cells #[.int .i64 (g.pw kb : Int), .int .i64 (g.ph kb : Int), .slice (some ⟨g.pb kb, 0, none⟩) (g.pw kb * g.ph kb) (g.pc kb)] PLT); replace hX := hX.alloc (.cells #[.int .i64 (g.pw kb : Int), .int .i64 (g.ph kb : Int), .slice (some ⟨g.pb kb, 0, none⟩) (g.pw kb * g.ph kb) (g.pc kb)] PLT); replace HW := HW.alloc us13 (.cells #[.int .i64 (g.pw kb : Int), .int .i64 (g.ph kb : Int), .slice (some ⟨g.pb kb, 0, none⟩) (g.pw kb * g.ph kb) (g.pc kb)] PLT)
                generalize w13.alloc (.cells #[.int .i64 (g.pw kb : Int), .int .i64 (g.ph kb : Int), .slice (some ⟨g.pb kb, 0, none⟩) (g.pw kb * g.ph kb) (g.pc kb)] PLT) = w14 at *
                generalize w13.heap.size = pp at *
                obtain ⟨y1, y2, y3, y4⟩ := g.pxy_bd (show k ≤ 1000000 by omega) hkb
                go_loopw [81] (fun t wr => ∃ (i : Nat) (x : Fr), i ≤ 64 ∧ t = .int .i64 (i : Int) ∧ Hid (LocR f g T x) ∧ x.Mem wr ∧ f.Mem wr ∧ Ob wr q FRT f.cells ∧ Ob wr gq FRT g.cells ∧ Blk wr vq V63T 4 (vc4 X Y) ∧ MapI wr mq nL KM ∧ Ob wr pp PLT #[.int .i64 (g.pw kb : Int), .int .i64 (g.ph kb : Int), .slice (some ⟨g.pb kb, 0, none⟩) (g.pw kb * g.ph kb) (g.pc kb)] ∧ Below w.heap.size w wr) (fun t _ => 64 - (intOf t).toNat)
                case atStart => exact ⟨0, x, by omega, rfl, hx, hX, hM, HF, HG, HV, HK, HP, HW⟩
                case round =>
                  clear hx hX hM HF HG HV HK HP HW
                  obtain ⟨i, x, hi64, rfl, hx, hX, hM, HF, HG, HV, HK, HP, HW⟩ := hrel
                  by_cases hi : i < 64
                  · have hd : decide ((i : Int) < 64) = true := by simp; omega
                    have i0 : (0 : Int) ≤ i := by omega
                    have i1 : (i : Int) < 64 := by omega
                    obtain ⟨PX, hPX⟩ : ∃ z, g.px k kb = z := ⟨_, rfl⟩
                    obtain ⟨PY, hPY⟩ : ∃ z, g.py k kb = z := ⟨_, rfl⟩
                    rw [hPX, hPY]
                    rw [hPX] at y1 y2; rw [hPY] at y3 y4
                    have hxs := (hx.out.same).2.2.2.2.2.2 kb
                    obtain ⟨P, hP⟩ : ∃ z, plAt (g.pw kb) (g.ph kb) (x.ps kb) (PX + (i : Int) % 8) (PY + (i : Int) / 8) = z := ⟨_, rfl⟩
                    have hPb : 0 ≤ P ∧ P ≤ 255 := by
                      have := plAt_bd (hX.pl kb) (PX + (i : Int) % 8) (PY + (i : Int) / 8)
                      rw [hxs.1, hxs.2.1, hP] at this; exact this
                    obtain ⟨hPb0, hPb1⟩ := hPb
                    have hat : ∀ W, x.Mem W → Calls Try.prog 35 #[.agg #[.int .i64 (g.pw kb : Int), .int .i64 (g.ph kb : Int), .slice (some ⟨g.pb kb, 0, none⟩) (g.pw kb * g.ph kb) (g.pc kb)], .int .i64 (PX + (i : Int) % 8), .int .i64 (PY + (i : Int) / 8)] W fun e w' => e = .returned (.int .u8 P) ∧ Below W.heap.size W w' := fun W h => by
                      have hb := h.plb kb
                      have := at_any (x.pw kb) (x.ph kb) (x.pb kb) (x.pc kb) (x.ps kb) (PX + (i : Int) % 8) (PY + (i : Int) / 8) W (by omega) (by omega) (h.pl kb)
                      rw [hxs.1, hxs.2.1, hxs.2.2.1, hxs.2.2.2, hP] at this
                      exact this
                    replace hat := Lib.hid hat; replace hP := Lib.hid hP; replace hxs := Lib.hid hxs
                    have e0 := fun p => (HP.re p).plW
                    have e1 := fun p => (HP.re p).plH
                    have e2 := fun p => (HP.re p).plS
                    replace hPX := Lib.hid hPX; replace hPY := Lib.hid hPY
                    go_wp2_with fail
                    apply wp_region_tail_below 21
                    case hm => kernel_rfl
                    case hB => kernel_rfl
                    case hno => kernel_rfl
                    case hF =>
                      simp only [List.take_succ_cons, List.take_zero]
                      repeat (go_big_quiet_step ((go_at_call 35; with_reducible exact Calls.regrown_of (hat.out _ (hX.later (below_regrown _ _ _))))))
                      exact wpQuiet_nil rfl
                    case hT =>
                      intro w15 hw15
                      simp only [List.drop_succ_cons, List.drop_zero]
                      clear e0 e1 e2
                      replace hX := hX.later hw15; replace HK := HK.later hw15
                      replace HF := HF.later hw15; replace HG := HG.later hw15; replace HV := HV.later hw15; replace hM := hM.later hw15; replace HP := HP.later hw15; replace HW := below_step HW hw15
                      clear hw15
                      have hPB : PB w15 (g.pb kb) (g.pw kb * g.ph kb) (x.ps kb) := by
                        have := hX.pl kb
                        rw [hxs.out.1, hxs.out.2.1, hxs.out.2.2.1] at this; exact this
                      have hpd := hX.plb kb
                      rw [hxs.out.1, hxs.out.2.1] at hpd
                      obtain ⟨v0, v1⟩ := bits_u8 P by_
                      go_wp2_with fail
                      obtain ⟨V, hVe⟩ : ∃ V, bits BinOp.xor IntKind.u8 P by_ = V := ⟨_, rfl⟩
                      rw [hVe] at v0 v1 ⊢
                      replace hVe := Lib.hid hVe
                      refine (set_any (g.pw kb) (g.ph kb) (g.pb kb) (g.pc kb) (x.ps kb) (PX + (i : Int) % 8) (PY + (i : Int) / 8) V _ (by omega) (by omega) ⟨v0, v1⟩ hPB).mono ?_
                      rintro e w16 ⟨rfl, hP2, hWr⟩
                      have hst := hx.out.step (m := k) (kb := kb) (i := i) hTk.out hkb hi V
                      have hfp : f.pw kb = g.pw kb ∧ f.ph kb = g.ph kb ∧ f.px k kb = PX ∧ f.py k kb = PY := by
                        rw [← hPX.out, ← hPY.out]
                        unfold Fr.pw Fr.ph Fr.px Fr.py
                        rw [hgc.out, hgr.out]; exact ⟨rfl, rfl, rfl, rfl⟩
                      rw [hfp.1, hfp.2.1, hfp.2.2.1, hfp.2.2.2, show ((i % 8 : Nat) : Int) = (i : Int) % 8 by omega, show ((i / 8 : Nat) : Int) = (i : Int) / 8 by omega] at hst
                      replace hst := Lib.hid hst
                      have hX2 := hX.putk hkb (s := plSet (g.pw kb) (g.ph kb) (x.ps kb) (PX + (i : Int) % 8) (PY + (i : Int) / 8) V) (by rw [hxs.out.2.2.1]; exact hWr) (by rw [hxs.out.1, hxs.out.2.1, hxs.out.2.2.1]; exact hP2)
                      have nk := HK.ne_vb hPB.vb
                      replace HF := HF.wrT hPB.vb hWr (by decide); replace HG := HG.wrT hPB.vb hWr (by decide); replace HP := HP.wrT hPB.vb hWr (by decide)
                      replace HV : Blk w16 vq V63T 4 (vc4 X Y) := Ob.wrT (cs := fcells 4 (vc4 X Y)) HV hPB.vb hWr (by decide)
                      replace HK := HK.wr hWr nk
                      have hsf : (f.bY ≠ g.pb kb ∧ f.bU ≠ g.pb kb ∧ f.bV ≠ g.pb kb) ∧ w.heap.size ≤ g.pb kb := by
                        have h1 := sFG.out; have h2 := gFw.out.y; have h3 := gFw.out.u; have h4 := gFw.out.v
                        unfold Fr.Sep at h1; unfold Fr.pb
                        split
                        · omega
                        · split <;> omega
                      replace hM := hM.wr hWr hsf.1.1 hsf.1.2.1 hsf.1.2.2
                      replace HW := hWr.below HW hsf.2
                      clear hX hPB hP2 hWr nk hsf
                      go_wp2_with fail
                      exact ⟨⟨i + 1, _, by omega, by go_num, hst, hX2, hM, HF, HG, HV, HK, HP, HW⟩, by simp [intOf]; omega⟩
                  · obtain rfl : i = 64 := by omega
                    have hd : decide (((64 : Nat) : Int) < 64) = false := by simp
                    go_wp2_with fail
                    exact ⟨⟨kb + 1, x, by omega, by go_num, hx, hX, hM, HF, HG, HV, HK, HW⟩, by simp [intOf]; omega⟩
              · obtain rfl : kb = 6 := by omega
                have hd : decide (((6 : Nat) : Int) < 6) = false := by simp
                go_wp2_with fail
                exact ⟨⟨k + 1, x, by omega, by go_num, hx, hX, hM, HF, HG, HV, HK, HW⟩, by simp [intOf]; omega⟩
        · obtain rfl : k = M := by omega
          have hd : decide ((k : Int) < (k : Int)) = false := by simp
          obtain ⟨V, hV2⟩ : ∃ V, predF f N X Y d = V := ⟨_, rfl⟩
          have hxd := hx.out.dims hg.out
          have hxc := hx.out.same.2.2.1
          have hp1 : ∀ W, f.Mem W → Calls Try.prog 82 #[.agg f.cells, .int .i64 (N : Int), .agg (fcells 4 (vc4 X Y)), .bool d] W fun e w' => e = .returned (.agg (fcells 384 (ival V))) ∧ Below W.heap.size W w' := fun W h => by
            rw [← hV2]; exact predict_any f N X Y d W (by omega) h (by omega) hV.out
          have hp2 : ∀ W, x.Mem W → Calls Try.prog 82 #[.agg g.cells, .int .i64 (N : Int), .agg (fcells 4 (vc4 X Y)), .bool d] W fun e w' => e = .returned (.agg (fcells 384 (ival V))) ∧ Below W.heap.size W w' := fun W h => by
            have h1 := predict_any x N X Y d W (by rw [hxd.1]; omega) h (by omega) hV.out
            have hT2 := hT.out
            have hx2 := hx.out
            rw [← hT2] at hx2
            rw [fcells_congr (f := ival (predF x N X Y d)) (g := ival V) (fun q hq => by unfold ival; rw [← hV2, loc_predF hx2 hg.out (by omega) (by omega) d q hq])] at h1
            rw [← hxc]; exact h1
          have heq := fun W => eqs102 V W
          unfold Fr.cells at hp1 hp2
          replace hp1 := Lib.hid hp1; replace hp2 := Lib.hid hp2; replace hV2 := Lib.hid hV2
          clear hxd hxc
          go_wp2_with fail
          have c0 := fun p => (HF.re p).fC
          have c1 := fun p => (HF.re p).fR
          have c2 := fun p => (HF.re p).fYW
          have c3 := fun p => (HF.re p).fYH
          have c4 := fun p => (HF.re p).fYS
          have c5 := fun p => (HF.re p).fUW
          have c6 := fun p => (HF.re p).fUH
          have c7 := fun p => (HF.re p).fUS
          have c8 := fun p => (HF.re p).fVW
          have c9 := fun p => (HF.re p).fVH
          have c10 := fun p => (HF.re p).fVS
          have k0 := fun p => (HG.re p).fC
          have k1 := fun p => (HG.re p).fR
          have k2 := fun p => (HG.re p).fYW
          have k3 := fun p => (HG.re p).fYH
          have k4 := fun p => (HG.re p).fYS
          have k5 := fun p => (HG.re p).fUW
          have k6 := fun p => (HG.re p).fUH
          have k7 := fun p => (HG.re p).fUS
          have k8 := fun p => (HG.re p).fVW
          have k9 := fun p => (HG.re p).fVH
          have k10 := fun p => (HG.re p).fVS
          refine wp_region_quiet_below (by kernel_rfl) (by kernel_rfl) ?_
          repeat (first | (go_big_quiet_want; refine quiet_load_row (m := 4) HV V63T _ rfl rfl _ und63 rfl (by kernel_rfl) (by omega) _ (fcells_from _ _) ?_; go_big_quiet_on; simp only [Act.put, List.setIfInBounds_toArray, List.set_cons_succ, List.set_cons_zero]) | (go_big_quiet_step (first | (go_at_call 82; with_reducible exact Calls.regrown_of (hp1.out _ (hM.later (below_regrown _ _ _)))) | (go_at_call 82; with_reducible exact Calls.regrown_of (hp2.out _ (hX.later (below_regrown _ _ _)))))))
          refine wpQuiet_nil ?_
          intro wq hwq
          replace hwq := Cls.below hwq
          replace HW := below_step HW hwq
          go_wp2_with fail
          go_ret
          exact ⟨rfl, HW⟩
end Go.Proofs.Ytbldgpemocnboaa

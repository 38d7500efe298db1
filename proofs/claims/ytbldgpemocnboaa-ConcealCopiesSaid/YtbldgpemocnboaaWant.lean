/- The six blocks that the document wants of a macroblock that is copied (law21.Want), walked. -/
import Derived.Test.YtbldgpemocnboaaLawRef
import Derived.Test.YtbldgpemocnboaaCompPreW
namespace Go.Proofs.Ytbldgpemocnboaa
open Go.RowKit Go.Sort
attribute [local go_sem ↓] run_imax run_imin

abbrev TAB24 : TypeId := 24
abbrev W22 : TypeId := 22
theorem alloc22 (w : World) : (Instr.alloc W22 true (.tuple #[])).run Try.prog w = .ok (.pointer (some ⟨w.heap.size, 0, none⟩)) (w.alloc (.cells (fcells 64 (fun _ => .int .u8 0)) W22)) := by kernel_rfl
set_option maxRecDepth 1000000 in
set_option maxHeartbeats 16000000 in
theorem want_any (f : Fr) (N : Nat) (X Y : Nat → Int) (ed : Bool) (Lv : Nat → Int) (d : Bool) (tb : Nat → Value) (w : World) (htb : ∀ j, (tb j).oneCell' = true) (h1 : 0 < f.c) (h2 : 0 < f.r) (hM : f.Mem w) (hN : N ≤ 1000000) (hV : V4b X Y) :
    Calls Try.prog 66 #[.agg (fcells 129 tb), .bool d, f.val, .int .i64 (N : Int), .agg (fcells 391 (mmC 0 0 X Y ed Lv))] w fun e w' => e = .returned (.agg (fcells 384 (ival (predF f N X Y d)))) ∧ Below w.heap.size w w' := by
  replace hV := Lib.hid hV
  replace htb := Lib.hid htb
  have hc8 := hM.hc; have hr8 := hM.hr
  obtain ⟨wt, hwt⟩ : ∃ wt, (fun j => tb (65 + j)) = wt := ⟨_, rfl⟩
  have hwt1 : ∀ j, (wt j).oneCell' = true := fun j => by rw [← hwt]; exact htb.out _
  have hwt2 : (fcells 64 fun j => tb (65 + j)) = fcells 64 wt := by rw [hwt]
  replace hwt1 := Lib.hid hwt1; replace hwt2 := Lib.hid hwt2
  clear hwt
  have hal : ∀ W, Calls Try.prog 77 #[.agg (fcells 391 (mmC 0 0 X Y ed Lv))] W fun e w' => e = .returned (.bool false) ∧ Below W.heap.size W w' := fun W => alone_any 0 0 X Y ed Lv W
  have hrf : ∀ W, Calls Try.prog 76 #[.agg (fcells 391 (mmC 0 0 X Y ed Lv))] W fun e w' => e = .returned (.agg (fcells 395 (mcC false true 0 X Y Lv))) ∧ Below W.heap.size W w' := fun W => lawRef_any 0 0 X Y ed Lv true W hV.out rfl
  replace hal := Lib.hid hal; replace hrf := Lib.hid hrf
  obtain ⟨mm, hmm⟩ : ∃ mm, mmC 0 0 X Y ed Lv = mm := ⟨_, rfl⟩
  rw [hmm] at hal hrf ⊢
  clear hmm
  unfold Fr.val
  go_enter Try.func66, Try.ntmps66
  go_upto_region 1 with (refine wpList_alloc_blk rfl 102 rfl _ _ alloc102 ?_)
  generalize hw1 : (((w.alloc (.cells (fcells 129 tb) TAB24)).alloc (.cells f.cells FRT)).alloc (.cells (fcells 391 mm) M106)).alloc (.cells (fcells 384 (ival fun _ => 0)) 102) = w1
  have HT : Blk w1 w.heap.size TAB24 129 tb := by rw [← hw1]; exact (((Blk.new_at _ _ _ rfl).alloc _).alloc _).alloc _
  have HF : Ob w1 (w.heap.size + 1) FRT f.cells := by rw [← hw1]; exact ((Ob.new_at _ _ (by simp)).alloc _).alloc _
  have HI : Blk w1 (w.heap.size + 1 + 1) M106 391 mm := by rw [← hw1]; exact (Blk.new_at _ _ _ (by simp)).alloc _
  have HR : Blk w1 (w.heap.size + 1 + 1 + 1) 102 384 (ival fun _ => 0) := by rw [← hw1]; exact Blk.new_at _ _ _ (by simp)
  have HW : Below w.heap.size w w1 := by rw [← hw1]; ((repeat (first | exact Below.refl _ _ | assumption | refine Below.setCell ?_ (by first | omega | (simp; done) | (simp; omega)) _ | refine Below.alloc ?_ (by first | omega | (simp; done) | (simp; omega)) _ | refine below_drewN ?_ _ | refine Below.drew ?_ | refine below_setRow ?_ (by first | omega | (simp; done) | (simp; omega)) _)))
  replace hM := hM.later HW
  clear hw1
  have HZ : Blk (w1.alloc (.cells (fcells 64 (fun _ => .int .u8 0)) W22)) w1.heap.size W22 64 (fun _ => .int .u8 0) := Blk.new_at _ _ _ rfl
  go_upto_region 2 with (first | (refine wpList_alloc_blk rfl W22 rfl _ _ alloc22 ?_) | (refine wpList_load_partX (m := 64) (q := 65) HT rfl W22 _ rfl rfl _ Try.underlying22 rfl (by kernel_rfl) (by omega) _ hwt2.out ?_) | (refine wpList_store_blk HZ rfl _ _ _ rfl rfl rfl (by kernel_rfl) (fun j _ => hwt1.out j) ?_))
  have uF := HF.lt; have uI := HI.lt; have uR := HR.lt; have uY := hM.y.lt; have uU := hM.u.lt; have uV := hM.v.lt; have uw := HW.size
  generalize hw2 : (w1.alloc (.cells (fcells 64 (fun _ => .int .u8 0)) W22)).setRow w1.heap.size (fcells 64 wt) = w2
  have HX : Blk w2 w1.heap.size W22 64 wt := by rw [← hw2]; exact HZ.setRow_same rfl
  replace HF : Ob w2 (w.heap.size + 1) FRT f.cells := by rw [← hw2]; exact (HF.alloc _).setRow (by omega) _
  replace HI : Blk w2 (w.heap.size + 1 + 1) M106 391 mm := by rw [← hw2]; exact (HI.alloc _).setRow (by omega) _
  replace HR : Blk w2 (w.heap.size + 1 + 1 + 1) 102 384 (ival fun _ => 0) := by rw [← hw2]; exact (HR.alloc _).setRow (by omega) _
  replace hM : f.Mem w2 := by rw [← hw2]; exact (hM.alloc _).setRow (by omega) (by omega) (by omega) _
  replace HW : Below w.heap.size w w2 := by rw [← hw2]; exact below_setRow (HW.alloc uw _) uw _
  clear hw2 HZ HT uF uI uR uY uU uV uw
  generalize w1.heap.size = xq at *
  go_wp2_with (refine wpList_load_partX (m := 391) (q := 0) HI rfl M106 _ rfl rfl _ Try.underlying106 rfl (by kernel_rfl) (by omega) _ (fcells_from _ _) ?_)
  refine (hal.out _).mono ?_
  rintro e w3 ⟨rfl, hb⟩
  replace HF := HF.later hb; replace HI := HI.later hb; replace HR := HR.later hb; replace HX := HX.later hb; replace hM := hM.later hb; replace HW := below_step HW hb
  clear hb
  clear hal
  go_upto_region 5 with (refine wpList_alloc_blk rfl 102 rfl _ _ alloc102 ?_)
  have HZ : Blk (w3.alloc (.cells (fcells 384 (ival fun _ => 0)) 102)) w3.heap.size 102 384 (ival (predU 0 (predF f N X Y d))) := (Blk.new_at _ _ _ rfl : Blk (w3.alloc (.cells (fcells 384 (ival fun _ => 0)) 102)) w3.heap.size 102 384 (ival fun _ => 0)).congr (fun j _ => by unfold ival predU; rw [if_neg (by omega)])
  have hzw : w.heap.size ≤ w3.heap.size := HW.size
  have zF := HF.lt; have zI := HI.lt; have zR := HR.lt; have zX := HX.lt
  have n1 : w3.heap.size ≠ w.heap.size + 1 := by omega
  have n2 : w3.heap.size ≠ w.heap.size + 1 + 1 := by omega
  have n3 : w3.heap.size ≠ w.heap.size + 1 + 1 + 1 := by omega
  have n4 : w3.heap.size ≠ xq := by omega
  clear zF zI zR zX
  replace HF := HF.alloc (.cells (fcells 384 (ival fun _ => 0)) 102); replace HI := HI.alloc (.cells (fcells 384 (ival fun _ => 0)) 102); replace HR := HR.alloc (.cells (fcells 384 (ival fun _ => 0)) 102); replace HX := HX.alloc (.cells (fcells 384 (ival fun _ => 0)) 102); replace hM := hM.alloc (.cells (fcells 384 (ival fun _ => 0)) 102); replace HW := HW.alloc HW.size (.cells (fcells 384 (ival fun _ => 0)) 102)
  generalize w3.alloc (.cells (fcells 384 (ival fun _ => 0)) 102) = w4 at *
  generalize w3.heap.size = z at *
  go_wp2_with (refine wpList_load_ob_g HF rfl 43 _ rfl rfl Try.underlying43 (by kernel_rfl) ?_)
  refine (planes_any f _).mono ?_
  rintro e w5 ⟨rfl, hb⟩
  replace HF := HF.later hb; replace HI := HI.later hb; replace HR := HR.later hb; replace HX := HX.later hb; replace HZ := HZ.later hb; replace hM := hM.later hb; replace HW := below_step HW hb
  clear hb
  go_wp2_with (refine wpList_store_stop (Ob.new_at (w := w5) T48 pl9Z rfl) rfl _ _ _ rfl rfl f.planes rfl (by kernel_rfl) rfl rfl ?_)
  intro w6 hw6
  have uF := HF.lt; have uI := HI.lt; have uR := HR.lt; have uY := hM.y.lt; have uU := hM.u.lt; have uV := hM.v.lt; have uw := HW.size; have uX := HX.lt; have uZ := HZ.lt
  have HL : Ob w6 w5.heap.size T48 f.planes := by rw [← hw6.out]; exact (Ob.new_at (w := w5) T48 pl9Z rfl).setRow_same _
  replace HF : Ob w6 (w.heap.size + 1) FRT f.cells := by rw [← hw6.out]; exact (HF.alloc _).setRow (by omega) _
  replace HI : Blk w6 (w.heap.size + 1 + 1) M106 391 mm := by rw [← hw6.out]; exact (HI.alloc _).setRow (by omega) _
  replace HR : Blk w6 (w.heap.size + 1 + 1 + 1) 102 384 (ival fun _ => 0) := by rw [← hw6.out]; exact (HR.alloc _).setRow (by omega) _
  replace HX : Blk w6 xq W22 64 wt := by rw [← hw6.out]; exact (HX.alloc _).setRow (by omega) _
  replace HZ : Blk w6 z 102 384 (ival (predU 0 (predF f N X Y d))) := by rw [← hw6.out]; exact (HZ.alloc _).setRow (by omega) _
  replace hM : f.Mem w6 := by rw [← hw6.out]; exact (hM.alloc _).setRow (by omega) (by omega) (by omega) _
  replace HW : Below w.heap.size w w6 := by rw [← hw6.out]; exact below_setRow (HW.alloc uw _) uw _
  have n5 : z ≠ w5.heap.size := by omega
  clear hw6 uF uI uR uY uU uV uw uX uZ
  generalize w5.heap.size = pl at *
  go_wp2_with fail
  go_loopw [23] (fun t wr => ∃ (k : Nat), k ≤ 6 ∧ t = .int .i64 (k : Int) ∧ Ob wr (w.heap.size + 1) FRT f.cells ∧ Blk wr (w.heap.size + 1 + 1) M106 391 mm ∧ Blk wr (w.heap.size + 1 + 1 + 1) 102 384 (ival fun _ => 0) ∧ Blk wr xq W22 64 wt ∧ Blk wr z 102 384 (ival (predU k (predF f N X Y d))) ∧ Ob wr pl T48 f.planes ∧ f.Mem wr ∧ Below w.heap.size w wr) (fun t _ => 6 - (intOf t).toNat)
  case atStart => exact ⟨0, by omega, rfl, HF, HI, HR, HX, HZ, HL, hM, HW⟩
  case round =>
    clear HF HI HR HX HZ HL hM HW
    obtain ⟨k, hk, rfl, HF, HI, HR, HX, HZ, HL, hM, HW⟩ := hrel
    by_cases hk6 : k < 6
    · have hd : decide ((k : Int) < 6) = true := by simp; omega
      have k0 : (0 : Int) ≤ k := by omega
      have k1 : (k : Int) < 6 := by omega
      have hrp : ∀ W, Calls Try.prog 84 #[.agg #[.int .i64 (f.pw k : Int), .int .i64 (f.ph k : Int), .slice (some ⟨f.pb k, 0, none⟩) (f.pw k * f.ph k) (f.pc k)]] W fun e w' => e = .returned (.agg #[.int .i64 (f.pw k : Int), .int .i64 (f.ph k : Int), .slice (some ⟨f.pb k, 0, none⟩) (f.pw k * f.ph k) (f.pc k)]) ∧ Below W.heap.size W w' := fun W => ref_any (f.pw k) (f.ph k) (f.pb k) (f.pw k * f.ph k) (f.pc k) W
      have hbk : ∀ W, f.Mem W → Calls Try.prog 83 #[.agg #[.int .i64 (f.pw k : Int), .int .i64 (f.ph k : Int), .slice (some ⟨f.pb k, 0, none⟩) (f.pw k * f.ph k) (f.pc k)], .int .i64 (f.c : Int), .int .i64 (N : Int), .int .i64 (k : Int), .agg (fcells 395 (mcC false true 0 X Y Lv)), .bool d, .agg (fcells 64 wt)] W fun e w' => e = .returned (.agg (fcells 64 (ival (predB f N X Y d k)))) ∧ Below W.heap.size W w' := fun W hW => by
        have hbp := hW.plb k
        obtain ⟨w1, w2⟩ := pwh_posR (f := f) (by omega) (by omega) k
        exact refBlock_any (f.pw k) (f.ph k) (f.pb k) (f.pc k) f.c f.r N k (f.ps k) 0 X Y Lv d wt W w1 w2 (by omega) (by omega) (hW.pl k) (by omega) hc8 (by omega) hk6 hV.out
      replace hrp := Lib.hid hrp; replace hbk := Lib.hid hbk
      obtain ⟨I, hI0, hI1, hI2, hq⟩ : ∃ I : Nat, I < 3 ∧ imax ((k : Int) - 3) 0 = (I : Int) ∧ imax 0 ((k : Int) - 3) = (I : Int) ∧ ∀ W, Ob W pl T48 f.planes → W.cell? ⟨pl, I * 3 + 0, none⟩ = some (.int .i64 (f.pw k : Int)) ∧ W.cell? ⟨pl, I * 3 + 1, none⟩ = some (.int .i64 (f.ph k : Int)) ∧ W.cell? ⟨pl, I * 3 + 2, none⟩ = some (.slice (some ⟨f.pb k, 0, none⟩) (f.pw k * f.ph k) (f.pc k)) := by
        rcases (show k < 4 ∨ k = 4 ∨ k = 5 by omega) with h4 | rfl | rfl
        · exact ⟨0, by omega, by rw [imax_eq]; omega, by rw [imax_eq]; omega, fun W h => ⟨h.cell 0 (by unfold Fr.planes Fr.pw; simp [h4]), h.cell 1 (by unfold Fr.planes Fr.ph; simp [h4]), h.cell 2 (by unfold Fr.planes Fr.pb Fr.pw Fr.ph Fr.pc; simp [h4])⟩⟩
        · exact ⟨1, by omega, by rw [imax_eq]; omega, by rw [imax_eq]; omega, fun W h => ⟨h.cell 3 (by unfold Fr.planes Fr.pw; simp), h.cell 4 (by unfold Fr.planes Fr.ph; simp), h.cell 5 (by unfold Fr.planes Fr.pb Fr.pw Fr.ph Fr.pc; simp)⟩⟩
        · exact ⟨2, by omega, by rw [imax_eq]; omega, by rw [imax_eq]; omega, fun W h => ⟨h.cell 6 (by unfold Fr.planes Fr.pw; simp), h.cell 7 (by unfold Fr.planes Fr.ph; simp), h.cell 8 (by unfold Fr.planes Fr.pb Fr.pw Fr.ph Fr.pc; simp)⟩⟩
      have e0 : ∀ p : Regrown, (Sort.grow (redrawn wr p.d) p.os).cell? ⟨pl, I * 3, none⟩ = some (.int .i64 (f.pw k : Int)) := fun p => (hq _ (HL.re p)).1
      have e1 : ∀ p : Regrown, (Sort.grow (redrawn wr p.d) p.os).cell? ⟨pl, I * 3 + 1, none⟩ = some (.int .i64 (f.ph k : Int)) := fun p => (hq _ (HL.re p)).2.1
      have e2 : ∀ p : Regrown, (Sort.grow (redrawn wr p.d) p.os).cell? ⟨pl, I * 3 + 2, none⟩ = some (.slice (some ⟨f.pb k, 0, none⟩) (f.pw k * f.ph k) (f.pc k)) := fun p => (hq _ (HL.re p)).2.2
      have e3 := fun p => (HF.re p).fC
      have i0 : (0 : Int) ≤ (I : Int) := by omega
      have i1 : (I : Int) < 3 := by omega
      replace hq := Lib.hid hq
      obtain ⟨B1, hB1⟩ : ∃ B1, predB f N X Y d k = B1 := ⟨_, rfl⟩
      rw [hB1] at hbk
      replace hB1 := Lib.hid hB1
      go_wp2_with fail
      apply wp_region_tail_below 17
      case hm => kernel_rfl
      case hB => kernel_rfl
      case hno => kernel_rfl
      case hF =>
        simp only [List.take_succ_cons, List.take_zero]
        repeat (first | (go_big_quiet_want; refine quiet_load_row (m := 64) HX W22 _ rfl rfl _ Try.underlying22 rfl (by kernel_rfl) (by omega) _ (fcells_from _ _) ?_; go_big_quiet_on; simp only [Act.put, List.setIfInBounds_toArray, List.set_cons_succ, List.set_cons_zero]) | (go_big_quiet_want; refine quiet_load_row (m := 391) HI M106 _ rfl rfl _ Try.underlying106 rfl (by kernel_rfl) (by omega) _ (fcells_from _ _) ?_; go_big_quiet_on; simp only [Act.put, List.setIfInBounds_toArray, List.set_cons_succ, List.set_cons_zero]) | (go_big_quiet_step (first | (go_at_call 84; with_reducible exact Calls.regrown_of (hrp.out _)) | (go_at_call 76; with_reducible exact Calls.regrown_of (hrf.out _)) | (go_at_call 83; with_reducible exact Calls.regrown_of (hbk.out _ (hM.later (below_regrown _ _ _)))))))
        exact wpQuiet_nil rfl
      case hT =>
        intro w7 hw7
        replace HF := HF.later hw7; replace HI := HI.later hw7; replace HR := HR.later hw7; replace HX := HX.later hw7; replace HZ := HZ.later hw7; replace HL := HL.later hw7; replace hM := hM.later hw7; replace HW := below_step HW hw7
        clear hw7
        clear e0 e1 e2 e3
        have hbY := HZ.ne_pb hM.y (by decide); have hbU := HZ.ne_pb hM.u (by decide); have hbV := HZ.ne_pb hM.v (by decide)
        refine wpList_store_part (m := 64) (q := k * 64) HZ rfl _ _ _ rfl rfl rfl (by kernel_rfl) (by omega) (fun j _ => rfl) ?_
        go_wp2_with fail
        exact ⟨⟨k + 1, by omega, by go_num, HF.setRow n1 _, HI.setRow n2 _, HR.setRow n3 _, HX.setRow n4 _, (HZ.setRow_same rfl).congr (fun j _ => by rw [← hB1.out]; exact pred_step j), HL.setRow n5 _, hM.setRow hbY hbU hbV _, below_setRow HW hzw _⟩, by simp [intOf]; omega⟩
    · obtain rfl : k = 6 := by omega
      have hd : decide (((6 : Nat) : Int) < 6) = false := by decide
      go_wp2_with (first | (refine wpList_load_blkA HZ rfl _ _ rfl rfl und102 (by kernel_rfl) ?_) | (refine wpList_store_blk HR rfl _ _ _ rfl rfl rfl (by kernel_rfl) (fun j _ => rfl) ?_))
      exact bodyPost_ret (results_blkA rfl _ (HR.setRow_same rfl) rfl und102 (by kernel_rfl)) rfl ⟨by
        rw [show fcells 384 (ival (predU 6 (predF f N X Y d))) = fcells 384 (ival (predF f N X Y d)) from fcells_congr fun j hj => by unfold ival predU; rw [if_pos (by omega)]], below_setRow HW (by omega) _⟩
end Go.Proofs.Ytbldgpemocnboaa

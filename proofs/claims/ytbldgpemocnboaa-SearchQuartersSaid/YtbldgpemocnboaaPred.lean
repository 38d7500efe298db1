/- comp.Predict, walked. -/
import Derived.Test.YtbldgpemocnboaaPredM
import Derived.Test.YtbldgpemocnboaaFrRe
import Derived.Deep.DeepCutAuto
import Derived.Deep.CutBlock
namespace Go.Proofs.Ytbldgpemocnboaa
open Go.RowKit Go.Sort
attribute [local go_sem ↓] run_imax run_imin

theorem Blk.vb {w : World} {b n : Nat} {T : TypeId} {f : Nat → Value} (h : Blk w b T n f) : VB w b T n f := ⟨n, f, Nat.le_refl _, h, fun _ _ => rfl⟩
theorem Blk.ne_pb {w : World} {b c n m : Nat} {T : TypeId} {f : Nat → Value} {s : Nat → Int} (h : Blk w b T n f) (h' : PB w c m s) (hT : T ≠ 5) : b ≠ c := by
  rintro rfl
  obtain ⟨_, F, _, hA, _⟩ := h'.vb
  unfold Blk at hA h
  rw [hA] at h
  simp only [Option.some.injEq, Obj.cells.injEq] at h
  exact hT h.2.1.symm
theorem und102 : Try.prog.underlying 102 = some (.array 6 27) := by kernel_rfl
theorem alloc102 (w : World) : (Instr.alloc 102 true (.tuple #[])).run Try.prog w = .ok (.pointer (some ⟨w.heap.size, 0, none⟩)) (w.alloc (.cells (fcells 384 (ival fun _ => 0)) 102)) := by kernel_rfl

set_option maxRecDepth 100000 in
set_option maxHeartbeats 4000000 in
theorem predict_any (f : Fr) (mb : Nat) (X Y : Nat → Int) (d : Bool) (w : World) (h1 : 0 < f.c) (hM : f.Mem w) (hm : mb ≤ 1000000) (hV : V4b X Y) :
    Calls Try.prog 82 #[f.val, .int .i64 (mb : Int), .agg (fcells 4 (vc4 X Y)), .bool d] w fun e w' => e = .returned (.agg (fcells 384 (ival (predF f mb X Y d)))) ∧ Below w.heap.size w w' := by
  replace hV := Lib.hid hV
  have hc8 := hM.hc
  unfold Fr.val
  go_enter Try.func82, Try.ntmps82
  go_wp2_with (refine wpList_alloc_blk rfl 102 rfl _ _ alloc102 ?_)
  generalize hw2 : (((w.alloc (.cells f.cells FRT)).alloc (.cells (fcells 4 (vc4 X Y)) 63)).alloc (.cells (fcells 384 (ival fun _ => 0)) 102)).alloc (.cells (fcells 384 (ival fun _ => 0)) 102) = w2
  have HF : Ob w2 w.heap.size FRT f.cells := by rw [← hw2]; exact (((Ob.new_at _ _ rfl).alloc _).alloc _).alloc _
  have HV : Blk w2 (w.heap.size + 1) 63 4 (vc4 X Y) := by rw [← hw2]; exact ((Blk.new_at _ _ _ (by simp)).alloc _).alloc _
  have HR : Blk w2 (w.heap.size + 1 + 1) 102 384 (ival fun _ => 0) := by rw [← hw2]; exact (Blk.new_at _ _ _ (by simp)).alloc _
  have HZ : Blk w2 (w.heap.size + 1 + 1 + 1) 102 384 (ival fun _ => 0) := by rw [← hw2]; exact Blk.new_at _ _ _ (by simp)
  have HW : Below w.heap.size w w2 := by rw [← hw2]; ((repeat (first | exact Below.refl _ _ | assumption | refine Below.setCell ?_ (by first | omega | (simp; done) | (simp; omega)) _ | refine Below.alloc ?_ (by first | omega | (simp; done) | (simp; omega)) _ | refine below_drewN ?_ _ | refine Below.drew ?_ | refine below_setRow ?_ (by first | omega | (simp; done) | (simp; omega)) _)))
  replace hM := hM.later HW
  clear hw2
  replace HZ : Blk w2 (w.heap.size + 1 + 1 + 1) 102 384 (ival (predU 0 (predF f mb X Y d))) := HZ.congr (fun j _ => by unfold ival predU; rw [if_neg (by omega)])
  go_loopw [17] (fun i wr => ∃ k : Nat, k ≤ 6 ∧ i = .int .i64 k ∧ Ob wr w.heap.size FRT f.cells ∧ Blk wr (w.heap.size + 1) 63 4 (vc4 X Y) ∧ Blk wr (w.heap.size + 1 + 1) 102 384 (ival fun _ => 0) ∧ Blk wr (w.heap.size + 1 + 1 + 1) 102 384 (ival (predU k (predF f mb X Y d))) ∧ f.Mem wr ∧ Below w.heap.size w wr) (fun i _ => 6 - (intOf i).toNat)
  case atStart => exact ⟨0, by omega, rfl, HF, HV, HR, HZ, hM, HW⟩
  case round =>
    clear HF HV HR HZ hM HW
    obtain ⟨k, hk, rfl, HF, HV, HR, HZ, hM, HW⟩ := hrel
    by_cases hk6 : k < 6
    · have hd : decide ((k : Int) < 6) = true := by simp; omega
      go_wp2_with (refine wpList_load_blk HV rfl 63 _ rfl rfl und63 (by kernel_rfl) ?_)
      refine (colour_any X Y _ hV.out).mono ?_
      rintro e w3 ⟨rfl, hb⟩
      replace HF := HF.later hb; replace HV := HV.later hb; replace HR := HR.later hb; replace HZ := HZ.later hb; replace hM := hM.later hb; replace HW := below_step HW hb
      clear hb hd
      unfold vcV
      go_upto_if 23 with fail
      go_cut [11] (fun t wx => t = vcV (vk X k) (vk Y k) ∧ wx = w3)
      case first =>
        by_cases h4 : k < 4
        · have d4 : decide ((k : Int) < 4) = true := by simp; omega
          have c5 := HV.cell h4
          unfold vc4 vcV at c5
          go_wp2_with fail
          go_meet
          exact ⟨by unfold vk vcV; rw [if_pos h4, if_pos h4], rfl⟩
        · have d4 : decide ((k : Int) < 4) = false := by simp; omega
          go_wp2_with fail
          go_meet
          exact ⟨by unfold vk vcV; rw [if_neg h4, if_neg h4], rfl⟩
      case rest =>
        obtain ⟨rfl, rfl⟩ := hcut
        obtain ⟨⟨v1, v2⟩, v3, v4⟩ := vk_bd hV.out k
        go_wp2_with fail
        refine (parts_any (vk X k) (vk Y k) _ (by omega) (by omega)).mono ?_
        rintro e w4 ⟨rfl, rfl⟩
        go_wp2_with (refine wpList_load_ob_g HF rfl 43 _ rfl rfl Try.underlying43 (by kernel_rfl) ?_)
        refine (frBlock_any f mb k _ h1 hc8 hm hk6).mono ?_
        rintro e w5 ⟨rfl, hb⟩
        replace HF := HF.later hb; replace HV := HV.later hb; replace HR := HR.later hb; replace HZ := HZ.later hb; replace hM := hM.later hb; replace HW := below_step HW hb
        clear hb
        unfold Fr.blkV
        go_upto_region 10 with fail
        have HP : Ob (w5.alloc (.cells #[.int .i64 (f.pw k : Int), .int .i64 (f.ph k : Int), .slice (some ⟨f.pb k, 0, none⟩) (f.pw k * f.ph k) (f.pc k)] PLT)) w5.heap.size PLT #[.int .i64 (f.pw k : Int), .int .i64 (f.ph k : Int), .slice (some ⟨f.pb k, 0, none⟩) (f.pw k * f.ph k) (f.pc k)] := Ob.new_at _ _ rfl
        replace HF := HF.alloc (.cells #[.int .i64 (f.pw k : Int), .int .i64 (f.ph k : Int), .slice (some ⟨f.pb k, 0, none⟩) (f.pw k * f.ph k) (f.pc k)] PLT); replace HV := HV.alloc (.cells #[.int .i64 (f.pw k : Int), .int .i64 (f.ph k : Int), .slice (some ⟨f.pb k, 0, none⟩) (f.pw k * f.ph k) (f.pc k)] PLT); replace HR := HR.alloc (.cells #[.int .i64 (f.pw k : Int), .int .i64 (f.ph k : Int), .slice (some ⟨f.pb k, 0, none⟩) (f.pw k * f.ph k) (f.pc k)] PLT); replace HZ := HZ.alloc (.cells #[.int .i64 (f.pw k : Int), .int .i64 (f.ph k : Int), .slice (some ⟨f.pb k, 0, none⟩) (f.pw k * f.ph k) (f.pc k)] PLT); replace hM := hM.alloc (.cells #[.int .i64 (f.pw k : Int), .int .i64 (f.ph k : Int), .slice (some ⟨f.pb k, 0, none⟩) (f.pw k * f.ph k) (f.pc k)] PLT); replace HW := HW.alloc HW.size (.cells #[.int .i64 (f.pw k : Int), .int .i64 (f.ph k : Int), .slice (some ⟨f.pb k, 0, none⟩) (f.pw k * f.ph k) (f.pc k)] PLT)
        generalize w5.alloc (.cells #[.int .i64 (f.pw k : Int), .int .i64 (f.ph k : Int), .slice (some ⟨f.pb k, 0, none⟩) (f.pw k * f.ph k) (f.pc k)] PLT) = w6 at *
        generalize w5.heap.size = pp at *
        have hpl := hM.plb k
        obtain ⟨y1, y2, y3, y4⟩ := f.pxy_bd hm hk6
        obtain ⟨p1, p2⟩ := hpl
        go_wp2_with (refine wpList_load_ob_g HP rfl 41 _ rfl rfl Try.underlying41 (by kernel_rfl) ?_)
        refine (ipBlock_any (f.pw k) (f.ph k) (f.pb k) (f.pc k) (f.ps k) (f.px mb k) (f.py mb k) (vk X k) (vk Y k) d _ (by omega) (by omega) (hM.pl k) (by omega) (by omega) (by omega) (by omega) (by omega) (by omega) (by omega) (by omega)).mono ?_
        rintro e w7 ⟨rfl, hb⟩
        replace HF := HF.later hb; replace HV := HV.later hb; replace HR := HR.later hb; replace HZ := HZ.later hb; replace hM := hM.later hb; replace HW := below_step HW hb
        clear hb HP
        have hsz := HW.size; have hlt := HZ.lt
        have n1 := HF.lt
        have hbY := HZ.ne_pb hM.y (by decide); have hbU := HZ.ne_pb hM.u (by decide); have hbV := HZ.ne_pb hM.v (by decide)
        go_wp2_with (refine wpList_store_part HZ rfl _ _ _ rfl rfl rfl (by kernel_rfl) (by omega) (fun j _ => rfl) ?_)
        exact ⟨⟨k + 1, by omega, by go_num, HF.setRow (by omega) _, HV.setRow (by omega) _, HR.setRow (by omega) _, (HZ.setRow_same rfl).congr (fun j _ => pred_step j), hM.setRow hbY hbU hbV _, below_setRow HW (by omega) _⟩, by simp [intOf]; omega⟩
    · obtain rfl : k = 6 := by omega
      go_wp2_with (first | (refine wpList_load_blkA HZ rfl _ _ rfl rfl und102 (by kernel_rfl) ?_) | (refine wpList_store_blk HR rfl _ _ _ rfl rfl rfl (by kernel_rfl) (fun j _ => rfl) ?_))
      exact bodyPost_ret (results_blkA rfl _ (HR.setRow_same rfl) rfl und102 (by kernel_rfl)) rfl ⟨by
        rw [show fcells 384 (ival (predU 6 (predF f mb X Y d))) = fcells 384 (ival (predF f mb X Y d)) from fcells_congr fun j hj => by unfold ival predU; rw [if_pos (by omega)]], below_setRow HW (by omega) _⟩
end Go.Proofs.Ytbldgpemocnboaa

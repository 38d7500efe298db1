/- Walks of kinescopelaw07.Near and Awake. -/
import Derived.Test.YtdgdpicfloekeaaHadM
namespace Go.Proofs.Ytdgdpicfloekeaa
open Go.RowKit
attribute [local go_sem ↓] run_imax run_imin

def near (f : Nat → Int) (j : Nat) : Int := imin (imax (f j) (-1099511627776)) 1099511627776
theorem near_bd (f : Nat → Int) (j : Nat) : -1099511627776 ≤ near f j ∧ near f j ≤ 1099511627776 := by unfold near; rw [imin_eq, imax_eq]; omega

set_option maxRecDepth 100000 in
set_option maxHeartbeats 1000000 in
theorem near_any (f : Nat → Int) (w : World) :
    Calls Try.prog 30 #[.agg (fcells 64 (ival f))] w fun e w' => e = .returned (.agg (fcells 64 (ival (near f)))) ∧ Below w.heap.size w w' := by
  go_enter Try.func30, Try.ntmps30
  go_wp2_with (first | (refine wpList_alloc_blk rfl 28 rfl _ _ alloc28 ?_) | (refine wpList_load_blk ((Blk.new_at _ _ _ rfl).alloc _) rfl _ _ rfl rfl und28 (by kernel_rfl) ?_))
  have HB : Blk ((w.alloc (.cells (fcells 64 (ival f)) 28)).alloc (.cells (fcells 64 (ival fun _ => 0)) 28)) w.heap.size 28 64 (ival f) := (Blk.new_at _ _ _ rfl).alloc _
  have HR : Blk ((w.alloc (.cells (fcells 64 (ival f)) 28)).alloc (.cells (fcells 64 (ival fun _ => 0)) 28)) (w.heap.size + 1) 28 64 (ival fun _ => 0) := Blk.new_at _ _ _ (by simp)
  go_loopw [6] (fun i wr => ∃ k : Nat, k ≤ 64 ∧ i = .int .i64 k ∧ Blk wr w.heap.size 28 64 (fillV k (ival (near f)) (ival f)) ∧ Blk wr (w.heap.size + 1) 28 64 (ival fun _ => 0) ∧ Below w.heap.size w wr)
    (fun i _ => 64 - (intOf i).toNat)
  case atStart => exact ⟨0, by omega, rfl, HB.fill_none, HR, ((Below.refl _ _).alloc (Nat.le_refl _) _).alloc (by simp) _⟩
  case round =>
    clear HB HR
    obtain ⟨k, hk, rfl, HB, HR, HW⟩ := hrel
    by_cases hk8 : k < 64
    · have hix : ∀ W, (Instr.index 28 (.agg (fcells 64 (ival f))) (.int .i64 (k : Int))).run Try.prog W = .ok (.int .i64 (f k)) W := fun W =>
        run_index_fcells W _ _ 64 (ival f) k und28 (by kernel_rfl) (by kernel_rfl) (by omega) (by omega)
      have c1 : wr.cell? ⟨w.heap.size, k, none⟩ = some (.int .i64 (f k)) := HB.fill_cell hk8
      have f1 := HB.free k
      go_wp2
      refine ⟨⟨k + 1, by omega, by go_num, HB.fill, HR.other (by omega) _ _, HW.setCell (p := ⟨w.heap.size, k, none⟩) (Nat.le_refl _) _⟩, by simp [intOf]; omega⟩
    · obtain rfl : k = 64 := by omega
      have HB := HB.fill_all
      go_wp2_with (first | (refine wpList_load_blk HB rfl _ _ rfl rfl und28 (by kernel_rfl) ?_) | (refine wpList_store_blk HR rfl _ _ _ rfl rfl rfl (by kernel_rfl) (fun j _ => rfl) ?_))
      exact bodyPost_ret (v := .agg (fcells 64 _)) (results_blk rfl _ (HR.setRow_same rfl) rfl und28 (by kernel_rfl)) rfl ⟨rfl, below_setRow HW (by omega) _⟩

set_option maxRecDepth 100000 in
set_option maxHeartbeats 1000000 in
theorem awake7 (w : World) :
    Calls Try.prog 21 #[] w fun e w' => e = .returned (.bool true) ∧ Below w.heap.size w w' := by
  go_enter Try.func21, Try.ntmps21
  go_wp2_with (first | (refine wpList_alloc_blk rfl 28 rfl _ _ alloc28 ?_))
  have HB : Blk (w.alloc (.cells (fcells 64 (ival fun _ => 0)) 28)) w.heap.size 28 64 (ival fun _ => 0) := Blk.new_at _ _ _ rfl
  go_loopw [4] (fun i wr => ∃ k : Nat, k ≤ 64 ∧ i = .int .i64 k ∧ Blk wr w.heap.size 28 64 (fillV k (ival fun _ => 1) (ival fun _ => 0)) ∧ Below w.heap.size w wr)
    (fun i _ => 64 - (intOf i).toNat)
  case atStart => exact ⟨0, by omega, rfl, HB.fill_none, (Below.refl _ _).alloc (Nat.le_refl _) _⟩
  case round =>
    clear HB
    obtain ⟨k, hk, rfl, HB, HW⟩ := hrel
    by_cases hk8 : k < 64
    · have c1 : wr.cell? ⟨w.heap.size, k, none⟩ = some (.int .i64 0) := HB.fill_cell hk8
      have f1 := HB.free k
      go_wp2
      refine ⟨⟨k + 1, by omega, by go_num, HB.fill, HW.setCell (p := ⟨w.heap.size, k, none⟩) (Nat.le_refl _) _⟩, by simp [intOf]; omega⟩
    · obtain rfl : k = 64 := by omega
      have HB := HB.fill_all
      go_wp2_with (first | (refine wpList_load_blk HB rfl _ _ rfl rfl und28 (by kernel_rfl) ?_))
      refine (forward_any (fun _ => 1) _ 1 (by omega) (fun j _ => by omega)).mono ?_
      rintro e w1 ⟨rfl, hb1⟩
      have HW := HW.trans (hb1.mono HW.size)
      clear HB
      have H3 : Blk ((w1.alloc (.cells (fcells 64 (ival fun _ => 0)) 28)).setRow w1.heap.size (fcells 64 (ival (fwdF fun _ => 1)))) w1.heap.size 28 64 (ival (fwdF fun _ => 1)) := (Blk.new_at _ _ _ rfl).setRow_same rfl
      have c0 := H3.cell (k := 0) (by omega)
      have c1 := H3.cell (k := 1) (by omega)
      have c2 := H3.cell (k := 63) (by omega)
      rw [show ival (fwdF fun _ => 1) 0 = .int .i64 64 from congrArg (Value.int .i64) (by decide +kernel : fwdF (fun _ => 1) 0 = 64)] at c0
      rw [show ival (fwdF fun _ => 1) 1 = .int .i64 0 from congrArg (Value.int .i64) (by decide +kernel : fwdF (fun _ => 1) 1 = 0)] at c1
      rw [show ival (fwdF fun _ => 1) 63 = .int .i64 0 from congrArg (Value.int .i64) (by decide +kernel : fwdF (fun _ => 1) 63 = 0)] at c2
      go_wp2_with (first | (refine wpList_alloc_blk rfl 28 rfl _ _ alloc28 ?_) | (refine wpList_store_blk (Blk.new_at _ _ _ rfl) rfl _ _ _ rfl rfl rfl (by kernel_rfl) (fun j _ => rfl) ?_))
      go_ret
      exact ⟨rfl, below_setRow (HW.alloc HW.size _) HW.size _⟩
end Go.Proofs.Ytdgdpicfloekeaa

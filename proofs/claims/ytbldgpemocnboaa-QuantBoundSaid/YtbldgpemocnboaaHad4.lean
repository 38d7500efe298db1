/- Walks of had.Forward, had.Inverse and kinescopelaw07.Near: exact, where the block's numbers are small enough. -/
import Derived.Test.YtbldgpemocnboaaHad3
namespace Go.Proofs.Ytbldgpemocnboaa
open Go.RowKit
attribute [local go_sem ↓] run_imax run_imin

def fwdF (f : Nat → Int) : Nat → Int := rowsF (rowsF f)
def invF (f : Nat → Int) (k : Nat) : Int := (backF (backF f) k + 32) / 64

theorem rowsF_bd {K : Int} {f : Nat → Int} (hf : ∀ j, j < 64 → -K ≤ f j ∧ f j ≤ K) (k : Nat) (hk : k < 64) : -(8 * K) ≤ rowsF f k ∧ rowsF f k ≤ 8 * K :=
  had8_bd (fun j _ => hf _ (by omega)) _ (by omega)
theorem backF_bd {K : Int} {f : Nat → Int} (hf : ∀ j, j < 64 → -K ≤ f j ∧ f j ≤ K) (k : Nat) (hk : k < 64) : -(8 * K) ≤ backF f k ∧ backF f k ≤ 8 * K :=
  bak8_bd (fun j _ => hf _ (by omega)) _ (by omega)

set_option maxHeartbeats 1000000 in
theorem forward_any (f : Nat → Int) (w : World) (K : Int) (hK : 64 * K < 9007199254740992) (hf : ∀ j, j < 64 → -K ≤ f j ∧ f j ≤ K) :
    Calls Try.prog 22 #[.agg (fcells 64 (ival f))] w fun e w' => e = .returned (.agg (fcells 64 (ival (fwdF f)))) ∧ Below w.heap.size w w' := by
  have hK0 : 0 ≤ K := by have := hf 0 (by omega); omega
  go_enter Try.func22, Try.ntmps22
  go_wp2_with (first | (refine wpList_alloc_blk rfl 27 rfl _ _ alloc28 ?_) | (refine wpList_load_blk ((Blk.new_at _ _ _ rfl).alloc _) rfl _ _ rfl rfl und28 (by kernel_rfl) ?_))
  refine (rows_any f _ K (by omega) hf).mono ?_
  rintro e w1 ⟨rfl, hb1⟩
  go_wp2_with fail
  refine (rows_any (rowsF f) _ (8 * K) (by omega) (rowsF_bd hf)).mono ?_
  rintro e w2 ⟨rfl, hb2⟩
  have HR1 : Blk w1 (w.heap.size + 1) 27 64 (ival fun _ => 0) := (Blk.new_at _ _ _ (by simp)).below hb1 (by simp)
  have HR := HR1.below hb2 HR1.lt
  have HW1 : Below w.heap.size w w1 := (((Below.refl _ _).alloc (Nat.le_refl _) _).alloc (by simp) _).trans (hb1.mono (by simp; omega))
  have HW := HW1.trans (hb2.mono HW1.size)
  go_wp2_with (refine wpList_store_blk HR rfl _ _ _ rfl rfl rfl (by kernel_rfl) (fun j _ => rfl) ?_)
  exact bodyPost_ret (v := .agg (fcells 64 _)) (results_blk rfl _ (HR.setRow_same rfl) rfl und28 (by kernel_rfl)) rfl ⟨rfl, below_setRow HW (by omega) _⟩

set_option maxRecDepth 100000 in
set_option maxHeartbeats 1000000 in
theorem inverse_any (f : Nat → Int) (w : World) (K : Int) (hK : 64 * K < 9007199254740992) (hf : ∀ j, j < 64 → -K ≤ f j ∧ f j ≤ K) :
    Calls Try.prog 29 #[.agg (fcells 64 (ival f))] w fun e w' => e = .returned (.agg (fcells 64 (ival (invF f)))) ∧ Below w.heap.size w w' := by
  have hK0 : 0 ≤ K := by have := hf 0 (by omega); omega
  go_enter Try.func29, Try.ntmps29
  go_wp2_with (first | (refine wpList_alloc_blk rfl 27 rfl _ _ alloc28 ?_) | (refine wpList_load_blk (((Blk.new_at _ _ _ rfl).alloc _).alloc _) rfl _ _ rfl rfl und28 (by kernel_rfl) ?_))
  refine (back_any0 f _ K (by omega) hf).mono ?_
  rintro e w1 ⟨rfl, hb1⟩
  go_wp2_with fail
  refine (back_any0 (backF f) _ (8 * K) (by omega) (backF_bd hf)).mono ?_
  rintro e w2 ⟨rfl, hb2⟩
  have HR1 : Blk w1 (w.heap.size + 1) 27 64 (ival fun _ => 0) := ((Blk.new_at _ _ _ (by simp)).alloc _).below hb1 (by simp)
  have HR := HR1.below hb2 HR1.lt
  have HO1 : Blk w1 (w.heap.size + 1 + 1) 27 64 (ival fun _ => 0) := (Blk.new_at _ _ _ (by simp)).below hb1 (by simp)
  have HO := HO1.below hb2 HO1.lt
  have HW1 : Below w.heap.size w w1 := ((((Below.refl _ _).alloc (Nat.le_refl _) _).alloc (by simp) _).alloc (by simp; omega) _).trans (hb1.mono (by simp; omega))
  have HW := HW1.trans (hb2.mono HW1.size)
  have hbd := backF_bd (backF_bd hf)
  have hlt := HO.lt
  clear HR1 HO1 HW1 hb1 hb2
  have HBD := Lib.hid hbd; clear hbd
  go_wp2_with (first | (refine wpList_alloc_blk rfl 27 rfl _ _ alloc28 ?_) | (refine wpList_store_blk (Blk.new_at _ _ _ rfl) rfl _ _ _ rfl rfl rfl (by kernel_rfl) (fun j _ => rfl) ?_) | (refine wpList_load_blk ((Blk.new_at _ _ _ rfl).setRow_same rfl) rfl _ _ rfl rfl und28 (by kernel_rfl) ?_))
  have HR := (HR.alloc (.cells (fcells 64 (ival fun _ => 0)) 27)).setRow (c := w2.heap.size) (by omega) (fcells 64 (ival (backF (backF f))))
  have HO := (HO.alloc (.cells (fcells 64 (ival fun _ => 0)) 27)).setRow (c := w2.heap.size) (by omega) (fcells 64 (ival (backF (backF f))))
  have HW := below_setRow (HW.alloc (by omega) (.cells (fcells 64 (ival fun _ => 0)) 27)) (b := w2.heap.size) (by omega) (fcells 64 (ival (backF (backF f))))
  go_loopw [11] (fun i wi => ∃ k : Nat, k ≤ 64 ∧ i = .int .i64 k ∧ Blk wi (w.heap.size + 1) 27 64 (ival fun _ => 0) ∧
      Blk wi (w.heap.size + 1 + 1) 27 64 (fillV k (ival (invF f)) (ival fun _ => 0)) ∧ Below w.heap.size w wi)
    (fun i _ => 64 - (intOf i).toNat)
  case atStart => exact ⟨0, by omega, rfl, HR, HO, HW⟩
  case round =>
    clear HR HO HW
    obtain ⟨k, hk, rfl, HR, HO, HW⟩ := hrel
    by_cases hk8 : k < 64
    · have hix : ∀ W, (Instr.index 27 (.agg (fcells 64 (ival (backF (backF f))))) (.int .i64 (k : Int))).run Try.prog W = .ok (.int .i64 (backF (backF f) k)) W := fun W =>
        run_index_fcells W _ _ 64 (ival (backF (backF f))) k und28 (by kernel_rfl) (by kernel_rfl) (by omega) (by omega)
      have c1 : wr.cell? ⟨w.heap.size + 1 + 1, k, none⟩ = some (.int .i64 0) := HO.fill_cell hk8
      have f1 := HO.free k
      have b1 := HBD.out k hk8
      go_wp2
      refine ⟨⟨k + 1, by omega, by go_num, HR.other (by omega) _ _, ?_, HW.setCell (p := ⟨w.heap.size + 1 + 1, k, none⟩) (by show _ ≤ w.heap.size + 1 + 1; omega) _⟩, by simp [intOf]; omega⟩
      trace_state
      exact HO.fill
    · obtain rfl : k = 64 := by omega
      have HO := HO.fill_all
      go_wp2_with (first | (refine wpList_load_blk HO rfl _ _ rfl rfl und28 (by kernel_rfl) ?_) | (refine wpList_store_blk HR rfl _ _ _ rfl rfl rfl (by kernel_rfl) (fun j _ => rfl) ?_))
      exact bodyPost_ret (v := .agg (fcells 64 _)) (results_blk rfl _ (HR.setRow_same rfl) rfl und28 (by kernel_rfl)) rfl ⟨rfl, below_setRow HW (by omega) _⟩
end Go.Proofs.Ytbldgpemocnboaa

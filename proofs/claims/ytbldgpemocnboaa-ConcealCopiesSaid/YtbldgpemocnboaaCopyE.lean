/- conceal.Copy where nothing is copied; vec.Right of a vector that is none; walked. -/
import Derived.Test.YtbldgpemocnboaaCopy
import Derived.Test.YtbldgpemocnboaaSm
namespace Go.Proofs.Ytbldgpemocnboaa
open Go.RowKit Go.Sort
attribute [local go_sem ↓] run_imax run_imin

set_option maxRecDepth 100000 in
set_option maxHeartbeats 4000000 in
theorem copy_neg (f g : Fr) (w : World) (hf : 0 < f.c ∧ f.c ≤ 8 ∧ 0 < f.r ∧ f.r ≤ 8) (hg : 0 < g.c ∧ g.c ≤ 8 ∧ 0 < g.r ∧ g.r ≤ 8) (e1 : f.c = g.c) (e2 : f.r = g.r) (v : Value) :
    Calls Try.prog 65 #[f.val, g.val, .int .i64 (-1), v] w fun e w' => e = .returned (.tuple #[]) ∧ Below w.heap.size w w' := by
  unfold Fr.val
  go_enter Try.func65, Try.ntmps65
  have HF : Ob ((w.alloc (.cells f.cells FRT)).alloc (.cells g.cells FRT)) w.heap.size FRT f.cells := (Ob.new_at _ _ rfl).alloc _
  have HG : Ob ((w.alloc (.cells f.cells FRT)).alloc (.cells g.cells FRT)) (w.heap.size + 1) FRT g.cells := Ob.new_at _ _ (by simp)
  have HW : Below w.heap.size w ((w.alloc (.cells f.cells FRT)).alloc (.cells g.cells FRT)) := by ((repeat (first | exact Below.refl _ _ | assumption | refine Below.setCell ?_ (by first | omega | (simp; done) | (simp; omega)) _ | refine Below.alloc ?_ (by first | omega | (simp; done) | (simp; omega)) _ | refine below_drewN ?_ _ | refine Below.drew ?_ | refine below_setRow ?_ (by first | omega | (simp; done) | (simp; omega)) _)))
  go_wp2_with (refine wpList_load_ob_g HF rfl _ _ rfl rfl Try.underlying43 (by kernel_rfl) ?_)
  generalize (w.alloc (.cells f.cells FRT)).alloc (.cells g.cells FRT) = w2 at *
  refine (check_ok f w2 hf.1 hf.2.1 hf.2.2.1 hf.2.2.2).mono ?_
  rintro e w3 ⟨rfl, hb⟩
  replace HF := HF.later hb; replace HG := HG.later hb; replace HW := below_step HW hb
  clear hb
  go_wp2_with (refine wpList_load_ob_g HG rfl _ _ rfl rfl Try.underlying43 (by kernel_rfl) ?_)
  refine (check_ok g _ hg.1 hg.2.1 hg.2.2.1 hg.2.2.2).mono ?_
  rintro e w4 ⟨rfl, hb⟩
  replace HF := HF.later hb; replace HG := HG.later hb; replace HW := below_step HW hb
  clear hb
  have g0 := HF.sC; have g1 := HF.sR; have g2 := HG.sC; have g3 := HG.sR
  rw [e1] at g0; rw [e2] at g1
  replace e1 := Lib.hid e1; replace e2 := Lib.hid e2
  go_wp2_with fail
  exact bodyPost_ret (results_none rfl _ _ _) rfl ⟨rfl, HW⟩
set_option maxRecDepth 100000 in
set_option maxHeartbeats 4000000 in
theorem check_zero (w : World) :
    Calls Try.prog 68 #[.agg frZ] w fun e w' => e = .returned (.int .i64 6) ∧ Below w.heap.size w w' := by
  unfold frZ
  go_enter Try.func68, Try.ntmps68
  go_wp2_with fail
  go_ret
  exact ⟨rfl, (Below.refl _ _).alloc (Nat.le_refl _) _⟩
set_option maxRecDepth 100000 in
set_option maxHeartbeats 4000000 in
theorem copy_zero (g : Fr) (w : World) (v : Value) :
    Calls Try.prog 65 #[.agg frZ, g.val, .int .i64 0, v] w fun e w' => e = .returned (.tuple #[]) ∧ Below w.heap.size w w' := by
  unfold Fr.val
  go_enter Try.func65, Try.ntmps65
  have HF : Ob ((w.alloc (.cells frZ FRT)).alloc (.cells g.cells FRT)) w.heap.size FRT frZ := (Ob.new_at _ _ rfl).alloc _
  have HW : Below w.heap.size w ((w.alloc (.cells frZ FRT)).alloc (.cells g.cells FRT)) := by ((repeat (first | exact Below.refl _ _ | assumption | refine Below.setCell ?_ (by first | omega | (simp; done) | (simp; omega)) _ | refine Below.alloc ?_ (by first | omega | (simp; done) | (simp; omega)) _ | refine below_drewN ?_ _ | refine Below.drew ?_ | refine below_setRow ?_ (by first | omega | (simp; done) | (simp; omega)) _)))
  go_wp2_with (refine wpList_load_ob_g HF rfl _ _ rfl rfl Try.underlying43 (by kernel_rfl) ?_)
  generalize (w.alloc (.cells frZ FRT)).alloc (.cells g.cells FRT) = w2 at *
  refine (check_zero w2).mono ?_
  rintro e w3 ⟨rfl, hb⟩
  replace HF := HF.later hb; replace HW := below_step HW hb
  clear hb
  go_wp2_with fail
  exact bodyPost_ret (results_none rfl _ _ _) rfl ⟨rfl, HW⟩
set_option maxRecDepth 100000 in
theorem whole_half (w : World) : Calls Try.prog 103 #[.float .f64 4602678819172646912] w fun e w' => e = .returned (.int .i64 0) ∧ w = w' := by
  have h1 : FloatKind.f64.format.order 4602678819172646912 4602678819172646912 = some .eq := by decide +kernel
  have h2 : (FloatKind.f64.format.order 4602678819172646912 4634204016564240384 == some .gt) = false := by decide +kernel
  have h3 : (FloatKind.f64.format.order 4602678819172646912 13857576053419016192 == some .lt) = false := by decide +kernel
  have h4 : floatToIntVal .f64 4602678819172646912 .i64 = some 0 := by decide +kernel
  have hcv : ∀ W, (convert 152 3 (.float .f64 4602678819172646912)).run Try.prog W = .ok (.int .i64 0) W := fun W => run_convert_float_int W _ _ _ _ _ _ (by kernel_rfl) Try.underlying3 h4
  clear h4
  go_enter Try.func103, Try.ntmps103
  go_wp2_with fail
  go_ret
  exact ⟨rfl, rfl⟩
theorem fb40 : fbits 40 = 4630826316843712512 := by decide +kernel
theorem parts_half (w : World) : Calls Try.prog 58 #[.complex .f64 4630826316843712512 4602678819172646912] w fun e w' => e = .returned (.tuple #[.int .i64 40, .int .i64 0]) ∧ w' = w := by
  have h1 := fun w => (whole_any 40 w (by omega)).mono (fun e w' h => (⟨h.1, h.2.symm⟩ : _ ∧ w' = w))
  have h2 := fun w => (whole_half w).mono (fun e w' h => (⟨h.1, h.2.symm⟩ : _ ∧ w' = w))
  rw [fb40] at h1
  go_enter Try.func58, Try.ntmps58
  go_wp2_with fail
  refine (h1 _).mono ?_
  rintro e w1 ⟨rfl, rfl⟩
  go_wp2_with fail
  refine (h2 _).mono ?_
  rintro e w2 ⟨rfl, rfl⟩
  go_wp2_with fail
  go_ret2
  exact ⟨rfl, rfl⟩
set_option maxRecDepth 100000 in
theorem right_half (w : World) : Calls Try.prog 64 #[.complex .f64 4630826316843712512 4602678819172646912] w fun e w' => e = .returned (.bool false) ∧ w' = w := by
  have h1 : FloatKind.f64.format.order (fbits 40) 4630826316843712512 = some .eq := by decide +kernel
  have h2 : FloatKind.f64.format.order (fbits 0) 4602678819172646912 = some .lt := by decide +kernel
  have hp := fun W => parts_half W
  replace hp := Lib.hid hp
  go_enter Try.func64, Try.ntmps64
  go_wp2_with fail
  refine (hp.out _).mono ?_
  rintro e w1 ⟨rfl, rfl⟩
  go_wp2_with fail
  refine (of_any 40 0 _).mono ?_
  rintro e w1 ⟨rfl, rfl⟩
  unfold vcV
  go_wp2_with fail
  go_ret
  exact ⟨rfl, rfl⟩
end Go.Proofs.Ytbldgpemocnboaa

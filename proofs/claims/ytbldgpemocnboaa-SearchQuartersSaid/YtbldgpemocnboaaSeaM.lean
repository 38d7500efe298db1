/- kinescopelaw28.may, walked. -/
import Derived.Test.YtbldgpemocnboaaSeaK
import Derived.Test.YtbldgpemocnboaaRefTo
import Derived.Test.YtbldgpemocnboaaWay
namespace Go.Proofs.Ytbldgpemocnboaa
open Go.RowKit Go.Sort
attribute [local go_sem ↓] run_imax run_imin

def rightAll (X Y : Nat → Int) : Nat → Bool
  | 0 => true
  | k + 1 => rightAll X Y k && rightB (X k) (Y k)
theorem rightAll_of {X Y : Nat → Int} : ∀ {n : Nat}, rightAll X Y n = true → ∀ k, k < n → rightB (X k) (Y k) = true
  | 0, _, k, h => by omega
  | n + 1, H, k, h => by
    unfold rightAll at H
    rw [Bool.and_eq_true] at H
    by_cases e : k = n
    · rw [e]; exact H.2
    · exact rightAll_of H.1 k (by omega)
theorem rightAll_no {X Y : Nat → Int} {k : Nat} (h : rightB (X k) (Y k) = false) : ∀ {n : Nat}, k < n → rightAll X Y n = false
  | 0, h0 => by omega
  | n + 1, h0 => by
    unfold rightAll
    by_cases e : k = n
    · rw [← e, h, Bool.and_false]
    · rw [rightAll_no h (by omega : k < n), Bool.false_and]
def mayB (lm : Int) (c mb : Nat) (X Y : Nat → Int) : Bool := rightAll X Y 4 && alwB lm c mb X
set_option maxRecDepth 1000000 in
set_option maxHeartbeats 8000000 in
theorem may_any (c mb : Nat) (lm : Int) (X Y : Nat → Int) (w : World) (h1 : 0 < c) (h2 : c ≤ 8) (hm : mb ≤ 1000000) (hV : ∀ k : Nat, k < 4 → V64 (X k) (Y k)) :
    Calls Try.prog 55 #[.int .i64 (c : Int), .int .i64 lm, .int .i64 (mb : Int), .agg (fcells 4 (vc4 X Y))] w fun e w' => e = .returned (.bool (mayB lm c mb X Y)) ∧ Below w.heap.size w w' := by
  have hri : ∀ k : Nat, k < 4 → ∀ W, Calls Try.prog 64 #[vcV (X k) (Y k)] W fun e w' => e = .returned (.bool (rightB (X k) (Y k))) ∧ w' = W := fun k hk W => right_any (X k) (Y k) W (hV k hk).1 (hV k hk).2
  have hix : ∀ k : Nat, k < 4 → ∀ W, (Instr.index V63T (.agg (fcells 4 (vc4 X Y))) (.int .i64 (k : Int))).run Try.prog W = .ok (vcV (X k) (Y k)) W := fun k hk W => run_index_fcells W _ _ 4 (vc4 X Y) k und63 (by kernel_rfl) (by kernel_rfl) (by omega) (by omega)
  obtain ⟨R, hR⟩ : ∃ R, mayB lm c mb X Y = R := ⟨_, rfl⟩
  rw [hR]
  replace hri := Lib.hid hri; replace hix := Lib.hid hix; replace hV := Lib.hid hV; replace hR := Lib.hid hR
  go_enter Try.func55, Try.ntmps55
  go_upto_region 1 with fail
  have HV : Blk (w.alloc (.cells (fcells 4 (vc4 X Y)) V63T)) w.heap.size V63T 4 (vc4 X Y) := Blk.new_at _ _ _ rfl
  have HW : Below w.heap.size w (w.alloc (.cells (fcells 4 (vc4 X Y)) V63T)) := by ((repeat (first | exact Below.refl _ _ | assumption | refine Below.setCell ?_ (by first | omega | (simp; done) | (simp; omega)) _ | refine Below.alloc ?_ (by first | omega | (simp; done) | (simp; omega)) _ | refine below_drewN ?_ _ | refine Below.drew ?_ | refine below_setRow ?_ (by first | omega | (simp; done) | (simp; omega)) _)))
  generalize w.alloc (.cells (fcells 4 (vc4 X Y)) V63T) = w1 at *
  go_wp2_with (refine wpList_load_blk HV rfl V63T _ rfl rfl und63 (by kernel_rfl) ?_)
  go_loopw [14] (fun i wr => ∃ k : Nat, k ≤ 4 ∧ i = .int .i64 (k : Int) ∧ Hid (rightAll X Y k = true) ∧ Blk wr w.heap.size V63T 4 (vc4 X Y) ∧ Below w.heap.size w wr) (fun i _ => 4 - (intOf i).toNat)
  case atStart => exact ⟨0, by omega, rfl, Lib.hid rfl, HV, HW⟩
  case round =>
    clear HV HW
    obtain ⟨k, hk, rfl, hal, HV, HW⟩ := hrel
    by_cases hk4 : k < 4
    · have hd : decide ((k : Int) < 4) = true := by simp; omega
      have i0 : (0 : Int) ≤ k := by omega
      have i1 : (k : Int) < 4 := by omega
      have hix2 := hix.out k hk4
      have hri2 := hri.out k hk4
      obtain ⟨r, hr⟩ : ∃ r, rightB (X k) (Y k) = r := ⟨_, rfl⟩
      rw [hr] at hri2
      replace hr := Lib.hid hr; replace hri2 := Lib.hid hri2
      go_wp2_with fail
      refine (hri2.out _).mono ?_
      rintro e w3 ⟨rfl, rfl⟩
      cases r
      · have hRf : R = false := by rw [← hR.out, mayB, rightAll_no hr.out hk4, Bool.false_and]
        replace hRf := Lib.hid hRf
        go_wp2_with fail
        go_ret
        exact ⟨by rw [hRf.out]; rfl, HW⟩
      · go_wp2_with fail
        exact ⟨⟨k + 1, by omega, by go_num, Lib.hid (by rw [rightAll, hal.out, hr.out]; rfl), HV, HW⟩, by simp [intOf]; omega⟩
    · obtain rfl : k = 4 := by omega
      have hd : decide (((4 : Nat) : Int) < 4) = false := by simp
      have hV4 : V4b X Y := fun k hk => by
        have := of_decide_eq_true (rightAll_of hal.out k hk)
        exact ⟨⟨by omega, by omega⟩, by omega, by omega⟩
      have hR2 : R = (decide (lm ≤ 0) || decide (reachTo c 9 mb X 5 < lm)) := by rw [← hR.out, mayB, hal.out, Bool.true_and]; rfl
      replace hV4 := Lib.hid hV4; replace hR2 := Lib.hid hR2
      clear hix hri
      go_wp2_with (refine wpList_load_blk HV rfl V63T _ rfl rfl und63 (by kernel_rfl) ?_)
      refine (ref14_any X Y _ hV4.out).mono ?_
      rintro e w4 ⟨rfl, hb⟩
      replace HV := HV.later hb; replace HW := below_step HW hb
      clear hb
      go_wp2_with fail
      refine (refTouches_any c 9 mb false false 0 X Y (fun _ => 0) _ h1 h2 (by omega) (by omega) hm hV4.out).mono ?_
      rintro e w5 ⟨gw, F, rfl, -, -, -, hb⟩
      replace HV := HV.later hb; replace HW := below_step HW hb
      clear hb
      obtain ⟨r, hr⟩ : ∃ r, reachTo c 9 mb X 5 = r := ⟨_, rfl⟩
      rw [hr]
      rw [hr] at hR2
      replace hr := Lib.hid hr
      by_cases hlm : lm ≤ 0
      · have hd0 : decide (lm ≤ 0) = true := decide_eq_true hlm
        have hR3 : R = true := by rw [hR2.out, hd0]; rfl
        replace hR3 := Lib.hid hR3
        go_wp2_with fail
        go_ret
        exact ⟨by rw [hR3.out]; rfl, HW⟩
      · have hd0 : decide (lm ≤ 0) = false := decide_eq_false hlm
        have hR3 : R = decide (r < lm) := by rw [hR2.out, hd0]; rfl
        replace hR3 := Lib.hid hR3
        go_wp2_with fail
        go_ret
        exact ⟨by rw [hR3.out]; rfl, HW⟩
end Go.Proofs.Ytbldgpemocnboaa

/- kinescopelaw28.Awake. -/
import Derived.Test.YtbldgpemocnboaaSeaX
namespace Go.Proofs.Ytbldgpemocnboaa
open Go.RowKit Go.Sort
attribute [local go_sem ↓] run_imax run_imin

theorem tryL_stay {A : Int → Int → Bool} {F : Int → Int → Int} (h : ∀ x y, 0 ≤ F x y) : ∀ L : List (Int × Int), tryL A F ⟨0, 0, 0, true⟩ L = ⟨0, 0, 0, true⟩
  | [] => rfl
  | v :: L => by
    have e : tryS A F ⟨0, 0, 0, true⟩ v = ⟨0, 0, 0, true⟩ := by
      unfold tryS
      have := h v.1 v.2
      split
      · rw [if_neg (by rintro (h | h); cases h; change F v.1 v.2 < 0 at h; omega)]
      · rfl
    show tryL A F (tryS A F ⟨0, 0, 0, true⟩ v) L = _
    rw [e, tryL_stay h L]
theorem who_stay {A : Int → Int → Bool} {F : Int → Int → Int} (h : ∀ x y, 0 ≤ F x y) (hA : A 0 0 = true) (hF : F 0 0 = 0) (far : Nat) : who3 A F far = ⟨0, 0, 0, true⟩ := by
  have e1 : who1 A F = ⟨0, 0, 0, true⟩ := by
    show tryS A F ⟨0, 0, 0, false⟩ (0, 0) = _
    unfold tryS
    rw [if_pos hA, if_pos (Or.inl rfl), hF]
  have e2 : who2 A F far = ⟨0, 0, 0, true⟩ := by unfold who2; rw [e1, tryL_stay h]
  unfold who3
  rw [e2, if_pos rfl, tryL_stay h]
theorem away_flat (c r b1 b2 b3 mb k : Nat) (v : Int) (d : Bool) (hc : 0 < c) (hr : 0 < r) : awayF (frFlat c r b1 b2 b3 v) (frFlat c r b1 b2 b3 v) mb k 0 0 d = 0 := by
  have hps : (frFlat c r b1 b2 b3 v).ps k = fun _ => v := by unfold Fr.ps; split; rfl; split <;> rfl
  have hpw : 0 < (frFlat c r b1 b2 b3 v).pw k := by unfold Fr.pw frFlat; split <;> simp only <;> omega
  have hph : 0 < (frFlat c r b1 b2 b3 v).ph k := by unfold Fr.ph frFlat; split <;> simp only <;> omega
  have e : sumTo (awayT (frFlat c r b1 b2 b3 v) (frFlat c r b1 b2 b3 v) mb k 0 0 d) 64 = sumTo (fun _ => 0) 64 := sumTo_congr 64 fun i _ => by
    have e1 : mbF (frFlat c r b1 b2 b3 v) mb k i = v := by unfold mbF blockF; rw [hps]; exact plAt_flat hpw hph v _ _
    have e2 : ipQ (frFlat c r b1 b2 b3 v) (frFlat c r b1 b2 b3 v) mb k 0 0 d i = v := by
      unfold ipQ ipBlockF ipAt
      rw [if_pos (by omega), hps]
      exact plAt_flat hpw hph v _ _
    unfold awayT
    rw [e1, e2, imax_eq]; omega
  unfold awayF
  rw [e, sumTo_const]; rfl
theorem whole_flat (c r b1 b2 b3 mb : Nat) (v : Int) (d : Bool) (hc : 0 < c) (hr : 0 < r) : whoA (frFlat c r b1 b2 b3 v) (frFlat c r b1 b2 b3 v) mb d 0 0 = 0 := by
  have e : sumTo (fun k => awayF (frFlat c r b1 b2 b3 v) (frFlat c r b1 b2 b3 v) mb k 0 0 d) 4 = sumTo (fun _ => 0) 4 := sumTo_congr 4 fun k _ => away_flat c r b1 b2 b3 mb k v d hc hr
  unfold whoA wholeF
  rw [e, sumTo_const]; rfl
set_option maxHeartbeats 1000000 in
theorem awake28 (w : World) :
    Calls Try.prog 53 #[] w fun e w' => e = .returned (.bool true) ∧ Below w.heap.size w w' := by
  go_enter Try.func53, Try.ntmps53
  go_wp2_with fail
  refine (newFrame_any _ _ 9 1 1 _ (by decide) (by decide) (by omega)).mono ?_
  rintro e w1 ⟨b1, b2, b3, rfl, hfr, hM, hb⟩
  have hwf : ∀ d, whoA (frFlat 1 1 b1 b2 b3 9) (frFlat 1 1 b1 b2 b3 9) 0 d 0 0 = 0 := fun d => whole_flat 1 1 b1 b2 b3 0 9 d (by omega) (by omega)
  have hwh := wholeS_any 1 0 1 (frFlat 1 1 b1 b2 b3 9) (frFlat 1 1 b1 b2 b3 9) 0 false
  rw [who_stay (A := alwA 0 (frFlat 1 1 b1 b2 b3 9) 0) (F := whoA (frFlat 1 1 b1 b2 b3 9) (frFlat 1 1 b1 b2 b3 9) 0 false) (fun x y => (wholeF_bd hM hM).1) (by unfold alwA alwB; simp) (hwf false) 1, show ((0 : Nat) : Int) = 0 from rfl] at hwh
  rw [show vcV 0 0 = .complex .f64 0 0 by rfl] at hwh
  have HO : Ob (w1.alloc (.cells (frFlat 1 1 b1 b2 b3 9).cells FRT)) w1.heap.size FRT (frFlat 1 1 b1 b2 b3 9).cells := Ob.new_at _ _ rfl
  replace hM := hM.alloc (.cells (frFlat 1 1 b1 b2 b3 9).cells FRT)
  replace hb := hb.alloc hb.size (.cells (frFlat 1 1 b1 b2 b3 9).cells FRT)
  have g1 : 0 < (frFlat 1 1 b1 b2 b3 9).c := by simp [frFlat]
  replace hwh := Lib.hid hwh; clear hwf hfr
  generalize frFlat 1 1 b1 b2 b3 9 = f at *
  unfold Fr.val Fr.cells
  go_wp2_with (refine wpList_load_ob_g HO rfl _ _ rfl rfl Try.underlying43 (by kernel_rfl) ?_)
  refine (hwh.out _ (by decide) hM hM g1 g1 (by omega)).mono ?_
  rintro e w3 ⟨rfl, hb3⟩
  replace hb := below_step hb hb3
  clear hb3
  have o1 : FloatKind.f64.format.order 0 0 = some .eq := by decide +kernel
  go_wp2_with fail
  go_ret
  exact ⟨rfl, hb⟩
end Go.Proofs.Ytbldgpemocnboaa

/- The walk of the law DamageSizes: true at every input. No condition but that the arguments are ints and a bool. -/
import Derived.Test.YtggdaefgaakijaaDm2
import Derived.Test.YtggdaefgaakijaaRel
namespace Go.Proofs.Ytggdaefgaakijaa
open Go.RowKit Go.Sort
attribute [local go_sem ↓] run_imax run_imin
attribute [local go_sem] yldUpon

set_option maxHeartbeats 1000000 in
theorem awake25 (w : World) :
    Calls Try.prog 17 #[] w fun e w' => e = .returned (.bool true) ∧ Below w.heap.size w w' := by
  have ht : txtB 2 (fun _ => true) 2 = ⟨#[35, 35, 10]⟩ := by decide
  go_enter Try.func17, Try.ntmps17
  go_wp2_with fail
  refine (dmNew_any _ _ true 2 1 _ (by decide) (by decide)).mono ?_
  rintro e w1 ⟨b, rfl, hbf, hB, hb⟩
  go_wp2_with fail
  refine (dmText_any 2 1 b 2 2 _ _ (by omega) (by omega) hB).mono ?_
  rw [ht]
  rintro e w2 ⟨rfl, hb2⟩
  go_wp2_with fail
  go_ret
  exact ⟨rfl, below_step hb hb2⟩

def NewS (C R : Nat) (x : Bool) (v : Value) (w : World) : Prop := ∃ b, v = dmV C R b (C * R) (C * R) ∧ VB w b 4 (C * R) (blv fun _ => x)
theorem NewS.later {C R : Nat} {x : Bool} {v : Value} {w w' : World} (h : NewS C R x v w) (hb : Below w.heap.size w w') : NewS C R x v w' := by
  obtain ⟨b, h1, h2⟩ := h; exact ⟨b, h1, h2.later hb⟩
def dszS (C R D : Nat) (x : Bool) (k : Nat) : Value → World → Prop := if k = 40 then NewS C R x else if k = 54 then NewS C R (!x) else NewS D R x
theorem dszS_later {C R D : Nat} {x : Bool} (k : Nat) (v : Value) (W W' : World) (h : dszS C R D x k v W) (hb : Below W.heap.size W W') : dszS C R D x k v W' := by
  unfold dszS at *
  split at h
  · rename_i e; rw [if_pos e]; exact h.later hb
  · rename_i e
    rw [if_neg e]
    split at h
    · rename_i e2; rw [if_pos e2]; exact h.later hb
    · rename_i e2; rw [if_neg e2]; exact h.later hb
theorem cntTo_const (x : Bool) (n : Nat) : cntTo (fun _ => x) n = if x = true then n else 0 := by
  induction n with
  | zero => simp [cntTo]
  | succ n ih => unfold cntTo; rw [ih]; split <;> simp_all
theorem eqTo_const (x y : Bool) (n : Nat) : eqTo (fun _ => x) (fun _ => y) n = (decide (n = 0) || (x == y)) := by
  induction n with
  | zero => simp [eqTo]
  | succ n ih => unfold eqTo; rw [ih]; cases x <;> cases y <;> simp

theorem dmCount_const (C R b c : Nat) (w : World) (x : Bool) (hn : C * R ≤ 64) (hB : VB w b 4 (C * R) (blv fun _ => x)) :
    Calls Try.prog 19 #[dmV C R b (C * R) c] w fun e w' => e = .returned (.int .i64 (if x = true then (C : Int) * (R : Int) else 0)) ∧ Below w.heap.size w w' :=
  (dmCount_any C R b (C * R) c _ w hn hB).mono fun _ _ h => ⟨h.1.trans (by rw [cntTo_const]; cases x <;> simp), h.2⟩
theorem dmHas_in (C R b c : Nat) (w : World) (x : Bool) (mb : Int) (h0 : 0 ≤ mb) (h1 : mb < (C : Int) * (R : Int)) (hB : VB w b 4 (C * R) (blv fun _ => x)) :
    Calls Try.prog 20 #[dmV C R b (C * R) c, .int .i64 mb] w fun e w' => e = .returned (.bool x) ∧ Below w.heap.size w w' :=
  (dmHas_any C R b (C * R) c _ mb w hB).mono fun _ _ h => ⟨h.1.trans (by unfold dmHas; simp [h0, h1]), h.2⟩
theorem dmHas_out (C R b c : Nat) (w : World) (x : Bool) (mb : Int) (h0 : mb < 0 ∨ (C : Int) * (R : Int) ≤ mb) (hB : VB w b 4 (C * R) (blv fun _ => x)) :
    Calls Try.prog 20 #[dmV C R b (C * R) c, .int .i64 mb] w fun e w' => e = .returned (.bool false) ∧ Below w.heap.size w w' :=
  (dmHas_any C R b (C * R) c _ mb w hB).mono fun _ _ h => ⟨h.1.trans (by
    unfold dmHas
    rcases h0 with h0 | h0
    · have e : decide (0 ≤ mb) = false := by simpa using h0
      rw [e]; rfl
    · have e : decide (mb < ((C * R : Nat) : Int)) = false := by simp; exact h0
      rw [e]; simp), h.2⟩
theorem dmSame_const (C R b c C' R' b' c' : Nat) (x y : Bool) (w : World) (hn : C * R ≤ 64) (hB : VB w b 4 (C * R) (blv fun _ => x)) (hB' : VB w b' 4 (C' * R') (blv fun _ => y)) (r : Bool)
    (hr : (decide (C = C') && (decide (R = R') && (decide (C * R = C' * R') && (decide (C * R = 0) || (x == y))))) = r) :
    Calls Try.prog 21 #[dmV C R b (C * R) c, dmV C' R' b' (C' * R') c'] w fun e w' => e = .returned (.bool r) ∧ Below w.heap.size w w' :=
  (dmSame_any C R b (C * R) c C' R' b' (C' * R') c' _ _ w hn hB hB').mono fun _ _ h => ⟨h.1.trans (by unfold dmSame; rw [eqTo_const, hr]), h.2⟩

set_option maxRecDepth 1000000 in
set_option maxHeartbeats 4000000 in
theorem damageSizes_in_true (a0 a1 a3 : Int) (C R D : Nat) (e8 : Bool) (w : World) (hC : imin (imax a0 0) 8 = C) (hR : imin (imax a1 0) 8 = R) (hD : imin (imax ((C : Int) + 1) 0) 8 = D) (hz : ¬ C * R = 0) (he8 : decide (C = 8) = e8) (hin : 0 ≤ a3 ∧ a3 < (C : Int) * (R : Int)) :
    Calls Try.prog 4 #[.int .i64 a0, .int .i64 a1, .bool true, .int .i64 a3] w fun e w' => e = .returned (.bool true) ∧ Below w.heap.size w w' := by
  have hC8 : C ≤ 8 := by rw [imin_eq, imax_eq] at hC; omega
  have hR8 : R ≤ 8 := by rw [imin_eq, imax_eq] at hR; omega
  have hD8 : D ≤ 8 ∧ (C = D ↔ C = 8) := by rw [imin_eq, imax_eq] at hD; omega
  have hCD : decide (C = D) = e8 := by rw [← he8, decide_eq_decide]; exact hD8.2
  replace hCD := Lib.hid hCD
  have he9 : ((C : Int) == 8) = e8 := by rw [← he8, Bool.eq_iff_iff]; simp; omega
  have hm := dm_size hC8 hR8
  obtain ⟨in1, in2⟩ := hin
  have hz1 : ¬ C = 0 := fun h => hz (by rw [h]; simp)
  have hz2 : ¬ R = 0 := fun h => hz (by rw [h]; simp)
  have hz3 : ((C : Int) * (R : Int) == 0) = false := by simp [hz1, hz2]
  go_enter Try.func4, Try.ntmps4
  go_wp2_with fail
  refine (awake25 _).mono ?_
  rintro e w1 ⟨rfl, HW⟩
  go_wp2_with fail
  refine (dmNew_any _ _ _ C R _ hC hR).mono ?_
  rintro e w2 ⟨b, rfl, hbf, hB, hb⟩
  replace HW := below_step HW hb
  clear hb
  unfold dmV dmC
  go_wp2_with fail
  simp only [List.append_eq, List.cons_append, List.nil_append]
  generalize hw3 : w2.alloc (.cells #[.int .i64 (C : Int), .int .i64 (R : Int), .slice (some ⟨b, 0, none⟩) (C * R) (C * R)] DMT) = w3
  have HO : Ob w3 w2.heap.size DMT (dmC C R b (C * R) (C * R)) := by rw [← hw3]; exact Ob.new_at _ _ rfl
  replace hB := hB.alloc (.cells #[.int .i64 (C : Int), .int .i64 (R : Int), .slice (some ⟨b, 0, none⟩) (C * R) (C * R)] DMT)
  replace HW := HW.alloc HW.size (.cells #[.int .i64 (C : Int), .int .i64 (R : Int), .slice (some ⟨b, 0, none⟩) (C * R) (C * R)] DMT)
  rw [hw3] at hB HW
  clear hw3 hbf
  generalize w2.heap.size = q at *
  clear w2
  replace hC := Lib.hid hC; replace hR := Lib.hid hR; replace hD := Lib.hid hD
  apply wp_region_rel 72 [40, 54, 65] (dszS C R D true)
  case hm => kernel_rfl
  case hB => kernel_rfl
  case hΛ => kernel_rfl
  case hSm => exact dszS_later
  case hF =>
    intro wx hwx vs
    have c0 := fun p => ((HO.later hwx).re p).mC
    have c1 := fun p => ((HO.later hwx).re p).mR
    have c2 := fun p => ((HO.later hwx).re p).mS
    have hB2 := hB.later hwx
    simp only [List.take_succ_cons, List.take_zero]
    repeat (first | (refine WQ.want (by rfl) (by rfl) ?_; intro K hK; go_big_quiet_op; first | go_big_quiet_on | go_big_quiet_call (first | (go_at_call 19; exact Calls.regrown_of (dmCount_const C R b (C * R) _ true hm (hB2.later (below_regrown _ _ _)))) | (go_at_call 20; exact Calls.regrown_of (dmHas_in C R b (C * R) _ true _ in1 in2 (hB2.later (below_regrown _ _ _)))))) | (refine WQ.skip (by rfl) (by rfl) ?_; simp only [Act.put, List.setIfInBounds_toArray, List.set_cons_succ, List.set_cons_zero]))
    refine WQ.new (by rfl) (by rfl) ?_ ?_
    · intro W hW hf
      go_simp
      refine (dmNew_any _ _ true C R _ (by rw [imin_eq, imax_eq]; omega) (by rw [imin_eq, imax_eq]; omega)).mono ?_
      rintro e w' ⟨b2, rfl, _, hB3, hb3⟩
      exact ⟨_, rfl, hb3, b2, rfl, hB3⟩
    simp only [Act.put, List.setIfInBounds_toArray, List.set_cons_succ, List.set_cons_zero]
    repeat (first | (refine WQ.want (by rfl) (by rfl) ?_; intro K hK; go_big_quiet_op; first | go_big_quiet_on | go_big_quiet_call (fail)) | (refine WQ.skip (by rfl) (by rfl) ?_; simp only [Act.put, List.setIfInBounds_toArray, List.set_cons_succ, List.set_cons_zero]))
    refine WQ.fact (by rfl) (by rfl) (.bool true) ?_ ?_
    · intro W hW hf
      obtain ⟨b2, hv, hV⟩ : NewS C R true (vs 40) W := hf 40 (by simp) (by kernel_rfl)
      unfold dmV at hv
      unfold Oper.quietAt
      go_simp
      exact calls_fact hW (dmSame_const C R b _ C R b2 _ true true _ hm (hB2.later hW) hV true (by simp))
    simp only [Act.put, List.setIfInBounds_toArray, List.set_cons_succ, List.set_cons_zero]
    repeat (first | (refine WQ.want (by rfl) (by rfl) ?_; intro K hK; go_big_quiet_op; first | go_big_quiet_on | go_big_quiet_call (fail)) | (refine WQ.skip (by rfl) (by rfl) ?_; simp only [Act.put, List.setIfInBounds_toArray, List.set_cons_succ, List.set_cons_zero]))
    refine WQ.new (by rfl) (by rfl) ?_ ?_
    · intro W hW hf
      go_simp
      refine (dmNew_any _ _ false C R _ (by rw [imin_eq, imax_eq]; omega) (by rw [imin_eq, imax_eq]; omega)).mono ?_
      rintro e w' ⟨b2, rfl, _, hB3, hb3⟩
      exact ⟨_, rfl, hb3, b2, rfl, hB3⟩
    simp only [Act.put, List.setIfInBounds_toArray, List.set_cons_succ, List.set_cons_zero]
    repeat (first | (refine WQ.want (by rfl) (by rfl) ?_; intro K hK; go_big_quiet_op; first | go_big_quiet_on | go_big_quiet_call (fail)) | (refine WQ.skip (by rfl) (by rfl) ?_; simp only [Act.put, List.setIfInBounds_toArray, List.set_cons_succ, List.set_cons_zero]))
    refine WQ.fact (by rfl) (by rfl) (.bool false) ?_ ?_
    · intro W hW hf
      obtain ⟨b2, hv, hV⟩ : NewS C R false (vs 54) W := hf 54 (by simp) (by kernel_rfl)
      unfold dmV at hv
      unfold Oper.quietAt
      go_simp
      exact calls_fact hW (dmSame_const C R b _ C R b2 _ true false _ hm (hB2.later hW) hV false (by rw [decide_eq_false hz]; simp))
    simp only [Act.put, List.setIfInBounds_toArray, List.set_cons_succ, List.set_cons_zero]
    repeat (first | (refine WQ.want (by rfl) (by rfl) ?_; intro K hK; go_big_quiet_op; first | go_big_quiet_on | go_big_quiet_call (fail)) | (refine WQ.skip (by rfl) (by rfl) ?_; simp only [Act.put, List.setIfInBounds_toArray, List.set_cons_succ, List.set_cons_zero]))
    refine WQ.new (by rfl) (by rfl) ?_ ?_
    · intro W hW hf
      go_simp
      refine (dmNew_any _ _ true D R _ hD.out (by rw [imin_eq, imax_eq]; omega)).mono ?_
      rintro e w' ⟨b2, rfl, _, hB3, hb3⟩
      exact ⟨_, rfl, hb3, b2, rfl, hB3⟩
    simp only [Act.put, List.setIfInBounds_toArray, List.set_cons_succ, List.set_cons_zero]
    repeat (first | (refine WQ.want (by rfl) (by rfl) ?_; intro K hK; go_big_quiet_op; first | go_big_quiet_on | go_big_quiet_call (fail)) | (refine WQ.skip (by rfl) (by rfl) ?_; simp only [Act.put, List.setIfInBounds_toArray, List.set_cons_succ, List.set_cons_zero]))
    refine WQ.fact (by rfl) (by rfl) (.bool e8) ?_ ?_
    · intro W hW hf
      obtain ⟨b2, hv, hV⟩ : NewS D R true (vs 65) W := hf 65 (by simp) (by kernel_rfl)
      unfold dmV at hv
      unfold Oper.quietAt
      go_simp
      refine calls_fact hW (dmSame_const C R b _ D R b2 _ true true _ hm (hB2.later hW) hV e8 ?_)
      rw [hCD.out]
      cases e8
      · rfl
      · have h1 : C = D := by simpa using hCD.out
        subst h1; simp
    simp only [Act.put, List.setIfInBounds_toArray, List.set_cons_succ, List.set_cons_zero]
    repeat (first | (refine WQ.want (by rfl) (by rfl) ?_; intro K hK; go_big_quiet_op; first | go_big_quiet_on | go_big_quiet_call (fail)) | (refine WQ.skip (by rfl) (by rfl) ?_; simp only [Act.put, List.setIfInBounds_toArray, List.set_cons_succ, List.set_cons_zero]))
    exact WQ.nil rfl
  case hind => intro vs vs'; kernel_rfl
  case hT =>
    intro vs w' hb hS
    simp only [List.drop_succ_cons, List.drop_nil]
    go_wp2_with fail
    go_ret
    exact ⟨rfl, below_step HW hb⟩

set_option maxRecDepth 1000000 in
set_option maxHeartbeats 4000000 in
theorem damageSizes_out_true (a0 a1 a3 : Int) (C R D : Nat) (e8 : Bool) (w : World) (hC : imin (imax a0 0) 8 = C) (hR : imin (imax a1 0) 8 = R) (hD : imin (imax ((C : Int) + 1) 0) 8 = D) (hz : ¬ C * R = 0) (he8 : decide (C = 8) = e8) (hout : a3 < 0 ∨ (C : Int) * (R : Int) ≤ a3) :
    Calls Try.prog 4 #[.int .i64 a0, .int .i64 a1, .bool true, .int .i64 a3] w fun e w' => e = .returned (.bool true) ∧ Below w.heap.size w w' := by
  have hC8 : C ≤ 8 := by rw [imin_eq, imax_eq] at hC; omega
  have hR8 : R ≤ 8 := by rw [imin_eq, imax_eq] at hR; omega
  have hD8 : D ≤ 8 ∧ (C = D ↔ C = 8) := by rw [imin_eq, imax_eq] at hD; omega
  have hCD : decide (C = D) = e8 := by rw [← he8, decide_eq_decide]; exact hD8.2
  replace hCD := Lib.hid hCD
  have he9 : ((C : Int) == 8) = e8 := by rw [← he8, Bool.eq_iff_iff]; simp; omega
  have hm := dm_size hC8 hR8
  have hins : (decide (0 ≤ a3) = false) ∨ (decide (0 ≤ a3) = true ∧ decide (a3 < (C : Int) * (R : Int)) = false) := by
    by_cases h : 0 ≤ a3
    · exact Or.inr ⟨by simpa using h, by rcases hout with h2 | h2
                                         · omega
                                         · simpa using h2⟩
    · exact Or.inl (by simpa using h)
  have hz1 : ¬ C = 0 := fun h => hz (by rw [h]; simp)
  have hz2 : ¬ R = 0 := fun h => hz (by rw [h]; simp)
  have hz3 : ((C : Int) * (R : Int) == 0) = false := by simp [hz1, hz2]
  rcases hins with hins | ⟨hins1, hins2⟩
  all_goals
    go_enter Try.func4, Try.ntmps4
    go_wp2_with fail
    refine (awake25 _).mono ?_
    rintro e w1 ⟨rfl, HW⟩
    go_wp2_with fail
    refine (dmNew_any _ _ _ C R _ hC hR).mono ?_
    rintro e w2 ⟨b, rfl, hbf, hB, hb⟩
    replace HW := below_step HW hb
    clear hb
    unfold dmV dmC
    go_wp2_with fail
    simp only [List.append_eq, List.cons_append, List.nil_append]
    generalize hw3 : w2.alloc (.cells #[.int .i64 (C : Int), .int .i64 (R : Int), .slice (some ⟨b, 0, none⟩) (C * R) (C * R)] DMT) = w3
    have HO : Ob w3 w2.heap.size DMT (dmC C R b (C * R) (C * R)) := by rw [← hw3]; exact Ob.new_at _ _ rfl
    replace hB := hB.alloc (.cells #[.int .i64 (C : Int), .int .i64 (R : Int), .slice (some ⟨b, 0, none⟩) (C * R) (C * R)] DMT)
    replace HW := HW.alloc HW.size (.cells #[.int .i64 (C : Int), .int .i64 (R : Int), .slice (some ⟨b, 0, none⟩) (C * R) (C * R)] DMT)
    rw [hw3] at hB HW
    clear hw3 hbf
    generalize w2.heap.size = q at *
    clear w2
    replace hC := Lib.hid hC; replace hR := Lib.hid hR; replace hD := Lib.hid hD
    apply wp_region_rel 72 [40, 54, 65] (dszS C R D true)
    case hm => kernel_rfl
    case hB => kernel_rfl
    case hΛ => kernel_rfl
    case hSm => exact dszS_later
    case hF =>
      intro wx hwx vs
      have c0 := fun p => ((HO.later hwx).re p).mC
      have c1 := fun p => ((HO.later hwx).re p).mR
      have c2 := fun p => ((HO.later hwx).re p).mS
      have hB2 := hB.later hwx
      simp only [List.take_succ_cons, List.take_zero]
      repeat (first | (refine WQ.want (by rfl) (by rfl) ?_; intro K hK; go_big_quiet_op; first | go_big_quiet_on | go_big_quiet_call (first | (go_at_call 19; exact Calls.regrown_of (dmCount_const C R b (C * R) _ true hm (hB2.later (below_regrown _ _ _)))) | (go_at_call 20; exact Calls.regrown_of (dmHas_out C R b (C * R) _ true _ hout (hB2.later (below_regrown _ _ _)))))) | (refine WQ.skip (by rfl) (by rfl) ?_; simp only [Act.put, List.setIfInBounds_toArray, List.set_cons_succ, List.set_cons_zero]))
      refine WQ.new (by rfl) (by rfl) ?_ ?_
      · intro W hW hf
        go_simp
        refine (dmNew_any _ _ true C R _ (by rw [imin_eq, imax_eq]; omega) (by rw [imin_eq, imax_eq]; omega)).mono ?_
        rintro e w' ⟨b2, rfl, _, hB3, hb3⟩
        exact ⟨_, rfl, hb3, b2, rfl, hB3⟩
      simp only [Act.put, List.setIfInBounds_toArray, List.set_cons_succ, List.set_cons_zero]
      repeat (first | (refine WQ.want (by rfl) (by rfl) ?_; intro K hK; go_big_quiet_op; first | go_big_quiet_on | go_big_quiet_call (fail)) | (refine WQ.skip (by rfl) (by rfl) ?_; simp only [Act.put, List.setIfInBounds_toArray, List.set_cons_succ, List.set_cons_zero]))
      refine WQ.fact (by rfl) (by rfl) (.bool true) ?_ ?_
      · intro W hW hf
        obtain ⟨b2, hv, hV⟩ : NewS C R true (vs 40) W := hf 40 (by simp) (by kernel_rfl)
        unfold dmV at hv
        unfold Oper.quietAt
        go_simp
        exact calls_fact hW (dmSame_const C R b _ C R b2 _ true true _ hm (hB2.later hW) hV true (by simp))
      simp only [Act.put, List.setIfInBounds_toArray, List.set_cons_succ, List.set_cons_zero]
      repeat (first | (refine WQ.want (by rfl) (by rfl) ?_; intro K hK; go_big_quiet_op; first | go_big_quiet_on | go_big_quiet_call (fail)) | (refine WQ.skip (by rfl) (by rfl) ?_; simp only [Act.put, List.setIfInBounds_toArray, List.set_cons_succ, List.set_cons_zero]))
      refine WQ.new (by rfl) (by rfl) ?_ ?_
      · intro W hW hf
        go_simp
        refine (dmNew_any _ _ false C R _ (by rw [imin_eq, imax_eq]; omega) (by rw [imin_eq, imax_eq]; omega)).mono ?_
        rintro e w' ⟨b2, rfl, _, hB3, hb3⟩
        exact ⟨_, rfl, hb3, b2, rfl, hB3⟩
      simp only [Act.put, List.setIfInBounds_toArray, List.set_cons_succ, List.set_cons_zero]
      repeat (first | (refine WQ.want (by rfl) (by rfl) ?_; intro K hK; go_big_quiet_op; first | go_big_quiet_on | go_big_quiet_call (fail)) | (refine WQ.skip (by rfl) (by rfl) ?_; simp only [Act.put, List.setIfInBounds_toArray, List.set_cons_succ, List.set_cons_zero]))
      refine WQ.fact (by rfl) (by rfl) (.bool false) ?_ ?_
      · intro W hW hf
        obtain ⟨b2, hv, hV⟩ : NewS C R false (vs 54) W := hf 54 (by simp) (by kernel_rfl)
        unfold dmV at hv
        unfold Oper.quietAt
        go_simp
        exact calls_fact hW (dmSame_const C R b _ C R b2 _ true false _ hm (hB2.later hW) hV false (by rw [decide_eq_false hz]; simp))
      simp only [Act.put, List.setIfInBounds_toArray, List.set_cons_succ, List.set_cons_zero]
      repeat (first | (refine WQ.want (by rfl) (by rfl) ?_; intro K hK; go_big_quiet_op; first | go_big_quiet_on | go_big_quiet_call (fail)) | (refine WQ.skip (by rfl) (by rfl) ?_; simp only [Act.put, List.setIfInBounds_toArray, List.set_cons_succ, List.set_cons_zero]))
      refine WQ.new (by rfl) (by rfl) ?_ ?_
      · intro W hW hf
        go_simp
        refine (dmNew_any _ _ true D R _ hD.out (by rw [imin_eq, imax_eq]; omega)).mono ?_
        rintro e w' ⟨b2, rfl, _, hB3, hb3⟩
        exact ⟨_, rfl, hb3, b2, rfl, hB3⟩
      simp only [Act.put, List.setIfInBounds_toArray, List.set_cons_succ, List.set_cons_zero]
      repeat (first | (refine WQ.want (by rfl) (by rfl) ?_; intro K hK; go_big_quiet_op; first | go_big_quiet_on | go_big_quiet_call (fail)) | (refine WQ.skip (by rfl) (by rfl) ?_; simp only [Act.put, List.setIfInBounds_toArray, List.set_cons_succ, List.set_cons_zero]))
      refine WQ.fact (by rfl) (by rfl) (.bool e8) ?_ ?_
      · intro W hW hf
        obtain ⟨b2, hv, hV⟩ : NewS D R true (vs 65) W := hf 65 (by simp) (by kernel_rfl)
        unfold dmV at hv
        unfold Oper.quietAt
        go_simp
        refine calls_fact hW (dmSame_const C R b _ D R b2 _ true true _ hm (hB2.later hW) hV e8 ?_)
        rw [hCD.out]
        cases e8
        · rfl
        · have h1 : C = D := by simpa using hCD.out
          subst h1; simp
      simp only [Act.put, List.setIfInBounds_toArray, List.set_cons_succ, List.set_cons_zero]
      repeat (first | (refine WQ.want (by rfl) (by rfl) ?_; intro K hK; go_big_quiet_op; first | go_big_quiet_on | go_big_quiet_call (fail)) | (refine WQ.skip (by rfl) (by rfl) ?_; simp only [Act.put, List.setIfInBounds_toArray, List.set_cons_succ, List.set_cons_zero]))
      exact WQ.nil rfl
    case hind => intro vs vs'; kernel_rfl
    case hT =>
      intro vs w' hb hS
      simp only [List.drop_succ_cons, List.drop_nil]
      go_wp2_with fail
      go_ret
      exact ⟨rfl, below_step HW hb⟩

set_option maxRecDepth 1000000 in
set_option maxHeartbeats 4000000 in
theorem damageSizes_zero_true (a0 a1 a3 : Int) (C R D : Nat) (e8 : Bool) (w : World) (hC : imin (imax a0 0) 8 = C) (hR : imin (imax a1 0) 8 = R) (hD : imin (imax ((C : Int) + 1) 0) 8 = D) (hz : C * R = 0) (he8 : decide (C = 8) = e8) (hout : a3 < 0 ∨ (C : Int) * (R : Int) ≤ a3) :
    Calls Try.prog 4 #[.int .i64 a0, .int .i64 a1, .bool true, .int .i64 a3] w fun e w' => e = .returned (.bool true) ∧ Below w.heap.size w w' := by
  have hC8 : C ≤ 8 := by rw [imin_eq, imax_eq] at hC; omega
  have hR8 : R ≤ 8 := by rw [imin_eq, imax_eq] at hR; omega
  have hD8 : D ≤ 8 ∧ (C = D ↔ C = 8) := by rw [imin_eq, imax_eq] at hD; omega
  have hCD : decide (C = D) = e8 := by rw [← he8, decide_eq_decide]; exact hD8.2
  replace hCD := Lib.hid hCD
  have he9 : ((C : Int) == 8) = e8 := by rw [← he8, Bool.eq_iff_iff]; simp; omega
  have hm := dm_size hC8 hR8
  have hins : (decide (0 ≤ a3) = false) ∨ (decide (0 ≤ a3) = true ∧ decide (a3 < (C : Int) * (R : Int)) = false) := by
    by_cases h : 0 ≤ a3
    · exact Or.inr ⟨by simpa using h, by rcases hout with h2 | h2
                                         · omega
                                         · simpa using h2⟩
    · exact Or.inl (by simpa using h)
  have hz3 : ((C : Int) * (R : Int) == 0) = true := by
    have h : ((C * R : Nat) : Int) = 0 := by rw [hz]; rfl
    simpa using h
  replace hz := Lib.hid hz
  rcases hins with hins | ⟨hins1, hins2⟩
  all_goals
    go_enter Try.func4, Try.ntmps4
    go_wp2_with fail
    refine (awake25 _).mono ?_
    rintro e w1 ⟨rfl, HW⟩
    go_wp2_with fail
    refine (dmNew_any _ _ _ C R _ hC hR).mono ?_
    rintro e w2 ⟨b, rfl, hbf, hB, hb⟩
    replace HW := below_step HW hb
    clear hb
    unfold dmV dmC
    go_wp2_with fail
    simp only [List.append_eq, List.cons_append, List.nil_append]
    generalize hw3 : w2.alloc (.cells #[.int .i64 (C : Int), .int .i64 (R : Int), .slice (some ⟨b, 0, none⟩) (C * R) (C * R)] DMT) = w3
    have HO : Ob w3 w2.heap.size DMT (dmC C R b (C * R) (C * R)) := by rw [← hw3]; exact Ob.new_at _ _ rfl
    replace hB := hB.alloc (.cells #[.int .i64 (C : Int), .int .i64 (R : Int), .slice (some ⟨b, 0, none⟩) (C * R) (C * R)] DMT)
    replace HW := HW.alloc HW.size (.cells #[.int .i64 (C : Int), .int .i64 (R : Int), .slice (some ⟨b, 0, none⟩) (C * R) (C * R)] DMT)
    rw [hw3] at hB HW
    clear hw3 hbf
    generalize w2.heap.size = q at *
    clear w2
    replace hC := Lib.hid hC; replace hR := Lib.hid hR; replace hD := Lib.hid hD
    apply wp_region_rel 72 [40, 65] (dszS C R D true)
    case hm => kernel_rfl
    case hB => kernel_rfl
    case hΛ => kernel_rfl
    case hSm => exact dszS_later
    case hF =>
      intro wx hwx vs
      have c0 := fun p => ((HO.later hwx).re p).mC
      have c1 := fun p => ((HO.later hwx).re p).mR
      have c2 := fun p => ((HO.later hwx).re p).mS
      have hB2 := hB.later hwx
      simp only [List.take_succ_cons, List.take_zero]
      repeat (first | (refine WQ.want (by rfl) (by rfl) ?_; intro K hK; go_big_quiet_op; first | go_big_quiet_on | go_big_quiet_call (first | (go_at_call 19; exact Calls.regrown_of (dmCount_const C R b (C * R) _ true hm (hB2.later (below_regrown _ _ _)))) | (go_at_call 20; exact Calls.regrown_of (dmHas_out C R b (C * R) _ true _ hout (hB2.later (below_regrown _ _ _)))))) | (refine WQ.skip (by rfl) (by rfl) ?_; simp only [Act.put, List.setIfInBounds_toArray, List.set_cons_succ, List.set_cons_zero]))
      refine WQ.new (by rfl) (by rfl) ?_ ?_
      · intro W hW hf
        go_simp
        refine (dmNew_any _ _ true C R _ (by rw [imin_eq, imax_eq]; omega) (by rw [imin_eq, imax_eq]; omega)).mono ?_
        rintro e w' ⟨b2, rfl, _, hB3, hb3⟩
        exact ⟨_, rfl, hb3, b2, rfl, hB3⟩
      simp only [Act.put, List.setIfInBounds_toArray, List.set_cons_succ, List.set_cons_zero]
      repeat (first | (refine WQ.want (by rfl) (by rfl) ?_; intro K hK; go_big_quiet_op; first | go_big_quiet_on | go_big_quiet_call (fail)) | (refine WQ.skip (by rfl) (by rfl) ?_; simp only [Act.put, List.setIfInBounds_toArray, List.set_cons_succ, List.set_cons_zero]))
      refine WQ.fact (by rfl) (by rfl) (.bool true) ?_ ?_
      · intro W hW hf
        obtain ⟨b2, hv, hV⟩ : NewS C R true (vs 40) W := hf 40 (by simp) (by kernel_rfl)
        unfold dmV at hv
        unfold Oper.quietAt
        go_simp
        exact calls_fact hW (dmSame_const C R b _ C R b2 _ true true _ hm (hB2.later hW) hV true (by simp))
      simp only [Act.put, List.setIfInBounds_toArray, List.set_cons_succ, List.set_cons_zero]
      repeat (first | (refine WQ.want (by rfl) (by rfl) ?_; intro K hK; go_big_quiet_op; first | go_big_quiet_on | go_big_quiet_call (fail)) | (refine WQ.skip (by rfl) (by rfl) ?_; simp only [Act.put, List.setIfInBounds_toArray, List.set_cons_succ, List.set_cons_zero]))
      refine WQ.new (by rfl) (by rfl) ?_ ?_
      · intro W hW hf
        go_simp
        refine (dmNew_any _ _ true D R _ hD.out (by rw [imin_eq, imax_eq]; omega)).mono ?_
        rintro e w' ⟨b2, rfl, _, hB3, hb3⟩
        exact ⟨_, rfl, hb3, b2, rfl, hB3⟩
      simp only [Act.put, List.setIfInBounds_toArray, List.set_cons_succ, List.set_cons_zero]
      repeat (first | (refine WQ.want (by rfl) (by rfl) ?_; intro K hK; go_big_quiet_op; first | go_big_quiet_on | go_big_quiet_call (fail)) | (refine WQ.skip (by rfl) (by rfl) ?_; simp only [Act.put, List.setIfInBounds_toArray, List.set_cons_succ, List.set_cons_zero]))
      refine WQ.fact (by rfl) (by rfl) (.bool e8) ?_ ?_
      · intro W hW hf
        obtain ⟨b2, hv, hV⟩ : NewS D R true (vs 65) W := hf 65 (by simp) (by kernel_rfl)
        unfold dmV at hv
        unfold Oper.quietAt
        go_simp
        refine calls_fact hW (dmSame_const C R b _ D R b2 _ true true _ hm (hB2.later hW) hV e8 ?_)
        rw [hCD.out]
        cases e8
        · rfl
        · have h1 : C = D := by simpa using hCD.out
          subst h1; simp
      simp only [Act.put, List.setIfInBounds_toArray, List.set_cons_succ, List.set_cons_zero]
      repeat (first | (refine WQ.want (by rfl) (by rfl) ?_; intro K hK; go_big_quiet_op; first | go_big_quiet_on | go_big_quiet_call (fail)) | (refine WQ.skip (by rfl) (by rfl) ?_; simp only [Act.put, List.setIfInBounds_toArray, List.set_cons_succ, List.set_cons_zero]))
      exact WQ.nil rfl
    case hind => intro vs vs'; kernel_rfl
    case hT =>
      intro vs w' hb hS
      simp only [List.drop_succ_cons, List.drop_nil]
      go_wp2_with fail
      go_ret
      exact ⟨rfl, below_step HW hb⟩

set_option maxRecDepth 1000000 in
set_option maxHeartbeats 4000000 in
theorem damageSizes_in_false (a0 a1 a3 : Int) (C R D : Nat) (e8 : Bool) (w : World) (hC : imin (imax a0 0) 8 = C) (hR : imin (imax a1 0) 8 = R) (hD : imin (imax ((C : Int) + 1) 0) 8 = D) (hz : ¬ C * R = 0) (he8 : decide (C = 8) = e8) (hin : 0 ≤ a3 ∧ a3 < (C : Int) * (R : Int)) :
    Calls Try.prog 4 #[.int .i64 a0, .int .i64 a1, .bool false, .int .i64 a3] w fun e w' => e = .returned (.bool true) ∧ Below w.heap.size w w' := by
  have hC8 : C ≤ 8 := by rw [imin_eq, imax_eq] at hC; omega
  have hR8 : R ≤ 8 := by rw [imin_eq, imax_eq] at hR; omega
  have hD8 : D ≤ 8 ∧ (C = D ↔ C = 8) := by rw [imin_eq, imax_eq] at hD; omega
  have hCD : decide (C = D) = e8 := by rw [← he8, decide_eq_decide]; exact hD8.2
  replace hCD := Lib.hid hCD
  have he9 : ((C : Int) == 8) = e8 := by rw [← he8, Bool.eq_iff_iff]; simp; omega
  have hm := dm_size hC8 hR8
  obtain ⟨in1, in2⟩ := hin
  have hz1 : ¬ C = 0 := fun h => hz (by rw [h]; simp)
  have hz2 : ¬ R = 0 := fun h => hz (by rw [h]; simp)
  have hz3 : ((C : Int) * (R : Int) == 0) = false := by simp [hz1, hz2]
  go_enter Try.func4, Try.ntmps4
  go_wp2_with fail
  refine (awake25 _).mono ?_
  rintro e w1 ⟨rfl, HW⟩
  go_wp2_with fail
  refine (dmNew_any _ _ _ C R _ hC hR).mono ?_
  rintro e w2 ⟨b, rfl, hbf, hB, hb⟩
  replace HW := below_step HW hb
  clear hb
  unfold dmV dmC
  go_wp2_with fail
  simp only [List.append_eq, List.cons_append, List.nil_append]
  generalize hw3 : w2.alloc (.cells #[.int .i64 (C : Int), .int .i64 (R : Int), .slice (some ⟨b, 0, none⟩) (C * R) (C * R)] DMT) = w3
  have HO : Ob w3 w2.heap.size DMT (dmC C R b (C * R) (C * R)) := by rw [← hw3]; exact Ob.new_at _ _ rfl
  replace hB := hB.alloc (.cells #[.int .i64 (C : Int), .int .i64 (R : Int), .slice (some ⟨b, 0, none⟩) (C * R) (C * R)] DMT)
  replace HW := HW.alloc HW.size (.cells #[.int .i64 (C : Int), .int .i64 (R : Int), .slice (some ⟨b, 0, none⟩) (C * R) (C * R)] DMT)
  rw [hw3] at hB HW
  clear hw3 hbf
  generalize w2.heap.size = q at *
  clear w2
  replace hC := Lib.hid hC; replace hR := Lib.hid hR; replace hD := Lib.hid hD
  apply wp_region_rel 72 [40, 54, 65] (dszS C R D false)
  case hm => kernel_rfl
  case hB => kernel_rfl
  case hΛ => kernel_rfl
  case hSm => exact dszS_later
  case hF =>
    intro wx hwx vs
    have c0 := fun p => ((HO.later hwx).re p).mC
    have c1 := fun p => ((HO.later hwx).re p).mR
    have c2 := fun p => ((HO.later hwx).re p).mS
    have hB2 := hB.later hwx
    simp only [List.take_succ_cons, List.take_zero]
    repeat (first | (refine WQ.want (by rfl) (by rfl) ?_; intro K hK; go_big_quiet_op; first | go_big_quiet_on | go_big_quiet_call (first | (go_at_call 19; exact Calls.regrown_of (dmCount_const C R b (C * R) _ false hm (hB2.later (below_regrown _ _ _)))) | (go_at_call 20; exact Calls.regrown_of (dmHas_in C R b (C * R) _ false _ in1 in2 (hB2.later (below_regrown _ _ _)))))) | (refine WQ.skip (by rfl) (by rfl) ?_; simp only [Act.put, List.setIfInBounds_toArray, List.set_cons_succ, List.set_cons_zero]))
    refine WQ.new (by rfl) (by rfl) ?_ ?_
    · intro W hW hf
      go_simp
      refine (dmNew_any _ _ false C R _ (by rw [imin_eq, imax_eq]; omega) (by rw [imin_eq, imax_eq]; omega)).mono ?_
      rintro e w' ⟨b2, rfl, _, hB3, hb3⟩
      exact ⟨_, rfl, hb3, b2, rfl, hB3⟩
    simp only [Act.put, List.setIfInBounds_toArray, List.set_cons_succ, List.set_cons_zero]
    repeat (first | (refine WQ.want (by rfl) (by rfl) ?_; intro K hK; go_big_quiet_op; first | go_big_quiet_on | go_big_quiet_call (fail)) | (refine WQ.skip (by rfl) (by rfl) ?_; simp only [Act.put, List.setIfInBounds_toArray, List.set_cons_succ, List.set_cons_zero]))
    refine WQ.fact (by rfl) (by rfl) (.bool true) ?_ ?_
    · intro W hW hf
      obtain ⟨b2, hv, hV⟩ : NewS C R false (vs 40) W := hf 40 (by simp) (by kernel_rfl)
      unfold dmV at hv
      unfold Oper.quietAt
      go_simp
      exact calls_fact hW (dmSame_const C R b _ C R b2 _ false false _ hm (hB2.later hW) hV true (by simp))
    simp only [Act.put, List.setIfInBounds_toArray, List.set_cons_succ, List.set_cons_zero]
    repeat (first | (refine WQ.want (by rfl) (by rfl) ?_; intro K hK; go_big_quiet_op; first | go_big_quiet_on | go_big_quiet_call (fail)) | (refine WQ.skip (by rfl) (by rfl) ?_; simp only [Act.put, List.setIfInBounds_toArray, List.set_cons_succ, List.set_cons_zero]))
    refine WQ.new (by rfl) (by rfl) ?_ ?_
    · intro W hW hf
      go_simp
      refine (dmNew_any _ _ true C R _ (by rw [imin_eq, imax_eq]; omega) (by rw [imin_eq, imax_eq]; omega)).mono ?_
      rintro e w' ⟨b2, rfl, _, hB3, hb3⟩
      exact ⟨_, rfl, hb3, b2, rfl, hB3⟩
    simp only [Act.put, List.setIfInBounds_toArray, List.set_cons_succ, List.set_cons_zero]
    repeat (first | (refine WQ.want (by rfl) (by rfl) ?_; intro K hK; go_big_quiet_op; first | go_big_quiet_on | go_big_quiet_call (fail)) | (refine WQ.skip (by rfl) (by rfl) ?_; simp only [Act.put, List.setIfInBounds_toArray, List.set_cons_succ, List.set_cons_zero]))
    refine WQ.fact (by rfl) (by rfl) (.bool false) ?_ ?_
    · intro W hW hf
      obtain ⟨b2, hv, hV⟩ : NewS C R true (vs 54) W := hf 54 (by simp) (by kernel_rfl)
      unfold dmV at hv
      unfold Oper.quietAt
      go_simp
      exact calls_fact hW (dmSame_const C R b _ C R b2 _ false true _ hm (hB2.later hW) hV false (by rw [decide_eq_false hz]; simp))
    simp only [Act.put, List.setIfInBounds_toArray, List.set_cons_succ, List.set_cons_zero]
    repeat (first | (refine WQ.want (by rfl) (by rfl) ?_; intro K hK; go_big_quiet_op; first | go_big_quiet_on | go_big_quiet_call (fail)) | (refine WQ.skip (by rfl) (by rfl) ?_; simp only [Act.put, List.setIfInBounds_toArray, List.set_cons_succ, List.set_cons_zero]))
    refine WQ.new (by rfl) (by rfl) ?_ ?_
    · intro W hW hf
      go_simp
      refine (dmNew_any _ _ false D R _ hD.out (by rw [imin_eq, imax_eq]; omega)).mono ?_
      rintro e w' ⟨b2, rfl, _, hB3, hb3⟩
      exact ⟨_, rfl, hb3, b2, rfl, hB3⟩
    simp only [Act.put, List.setIfInBounds_toArray, List.set_cons_succ, List.set_cons_zero]
    repeat (first | (refine WQ.want (by rfl) (by rfl) ?_; intro K hK; go_big_quiet_op; first | go_big_quiet_on | go_big_quiet_call (fail)) | (refine WQ.skip (by rfl) (by rfl) ?_; simp only [Act.put, List.setIfInBounds_toArray, List.set_cons_succ, List.set_cons_zero]))
    refine WQ.fact (by rfl) (by rfl) (.bool e8) ?_ ?_
    · intro W hW hf
      obtain ⟨b2, hv, hV⟩ : NewS D R false (vs 65) W := hf 65 (by simp) (by kernel_rfl)
      unfold dmV at hv
      unfold Oper.quietAt
      go_simp
      refine calls_fact hW (dmSame_const C R b _ D R b2 _ false false _ hm (hB2.later hW) hV e8 ?_)
      rw [hCD.out]
      cases e8
      · rfl
      · have h1 : C = D := by simpa using hCD.out
        subst h1; simp
    simp only [Act.put, List.setIfInBounds_toArray, List.set_cons_succ, List.set_cons_zero]
    repeat (first | (refine WQ.want (by rfl) (by rfl) ?_; intro K hK; go_big_quiet_op; first | go_big_quiet_on | go_big_quiet_call (fail)) | (refine WQ.skip (by rfl) (by rfl) ?_; simp only [Act.put, List.setIfInBounds_toArray, List.set_cons_succ, List.set_cons_zero]))
    exact WQ.nil rfl
  case hind => intro vs vs'; kernel_rfl
  case hT =>
    intro vs w' hb hS
    simp only [List.drop_succ_cons, List.drop_nil]
    go_wp2_with fail
    go_ret
    exact ⟨rfl, below_step HW hb⟩

set_option maxRecDepth 1000000 in
set_option maxHeartbeats 4000000 in
theorem damageSizes_out_false (a0 a1 a3 : Int) (C R D : Nat) (e8 : Bool) (w : World) (hC : imin (imax a0 0) 8 = C) (hR : imin (imax a1 0) 8 = R) (hD : imin (imax ((C : Int) + 1) 0) 8 = D) (hz : ¬ C * R = 0) (he8 : decide (C = 8) = e8) (hout : a3 < 0 ∨ (C : Int) * (R : Int) ≤ a3) :
    Calls Try.prog 4 #[.int .i64 a0, .int .i64 a1, .bool false, .int .i64 a3] w fun e w' => e = .returned (.bool true) ∧ Below w.heap.size w w' := by
  have hC8 : C ≤ 8 := by rw [imin_eq, imax_eq] at hC; omega
  have hR8 : R ≤ 8 := by rw [imin_eq, imax_eq] at hR; omega
  have hD8 : D ≤ 8 ∧ (C = D ↔ C = 8) := by rw [imin_eq, imax_eq] at hD; omega
  have hCD : decide (C = D) = e8 := by rw [← he8, decide_eq_decide]; exact hD8.2
  replace hCD := Lib.hid hCD
  have he9 : ((C : Int) == 8) = e8 := by rw [← he8, Bool.eq_iff_iff]; simp; omega
  have hm := dm_size hC8 hR8
  have hins : (decide (0 ≤ a3) = false) ∨ (decide (0 ≤ a3) = true ∧ decide (a3 < (C : Int) * (R : Int)) = false) := by
    by_cases h : 0 ≤ a3
    · exact Or.inr ⟨by simpa using h, by rcases hout with h2 | h2
                                         · omega
                                         · simpa using h2⟩
    · exact Or.inl (by simpa using h)
  have hz1 : ¬ C = 0 := fun h => hz (by rw [h]; simp)
  have hz2 : ¬ R = 0 := fun h => hz (by rw [h]; simp)
  have hz3 : ((C : Int) * (R : Int) == 0) = false := by simp [hz1, hz2]
  rcases hins with hins | ⟨hins1, hins2⟩
  all_goals
    go_enter Try.func4, Try.ntmps4
    go_wp2_with fail
    refine (awake25 _).mono ?_
    rintro e w1 ⟨rfl, HW⟩
    go_wp2_with fail
    refine (dmNew_any _ _ _ C R _ hC hR).mono ?_
    rintro e w2 ⟨b, rfl, hbf, hB, hb⟩
    replace HW := below_step HW hb
    clear hb
    unfold dmV dmC
    go_wp2_with fail
    simp only [List.append_eq, List.cons_append, List.nil_append]
    generalize hw3 : w2.alloc (.cells #[.int .i64 (C : Int), .int .i64 (R : Int), .slice (some ⟨b, 0, none⟩) (C * R) (C * R)] DMT) = w3
    have HO : Ob w3 w2.heap.size DMT (dmC C R b (C * R) (C * R)) := by rw [← hw3]; exact Ob.new_at _ _ rfl
    replace hB := hB.alloc (.cells #[.int .i64 (C : Int), .int .i64 (R : Int), .slice (some ⟨b, 0, none⟩) (C * R) (C * R)] DMT)
    replace HW := HW.alloc HW.size (.cells #[.int .i64 (C : Int), .int .i64 (R : Int), .slice (some ⟨b, 0, none⟩) (C * R) (C * R)] DMT)
    rw [hw3] at hB HW
    clear hw3 hbf
    generalize w2.heap.size = q at *
    clear w2
    replace hC := Lib.hid hC; replace hR := Lib.hid hR; replace hD := Lib.hid hD
    apply wp_region_rel 72 [40, 54, 65] (dszS C R D false)
    case hm => kernel_rfl
    case hB => kernel_rfl
    case hΛ => kernel_rfl
    case hSm => exact dszS_later
    case hF =>
      intro wx hwx vs
      have c0 := fun p => ((HO.later hwx).re p).mC
      have c1 := fun p => ((HO.later hwx).re p).mR
      have c2 := fun p => ((HO.later hwx).re p).mS
      have hB2 := hB.later hwx
      simp only [List.take_succ_cons, List.take_zero]
      repeat (first | (refine WQ.want (by rfl) (by rfl) ?_; intro K hK; go_big_quiet_op; first | go_big_quiet_on | go_big_quiet_call (first | (go_at_call 19; exact Calls.regrown_of (dmCount_const C R b (C * R) _ false hm (hB2.later (below_regrown _ _ _)))) | (go_at_call 20; exact Calls.regrown_of (dmHas_out C R b (C * R) _ false _ hout (hB2.later (below_regrown _ _ _)))))) | (refine WQ.skip (by rfl) (by rfl) ?_; simp only [Act.put, List.setIfInBounds_toArray, List.set_cons_succ, List.set_cons_zero]))
      refine WQ.new (by rfl) (by rfl) ?_ ?_
      · intro W hW hf
        go_simp
        refine (dmNew_any _ _ false C R _ (by rw [imin_eq, imax_eq]; omega) (by rw [imin_eq, imax_eq]; omega)).mono ?_
        rintro e w' ⟨b2, rfl, _, hB3, hb3⟩
        exact ⟨_, rfl, hb3, b2, rfl, hB3⟩
      simp only [Act.put, List.setIfInBounds_toArray, List.set_cons_succ, List.set_cons_zero]
      repeat (first | (refine WQ.want (by rfl) (by rfl) ?_; intro K hK; go_big_quiet_op; first | go_big_quiet_on | go_big_quiet_call (fail)) | (refine WQ.skip (by rfl) (by rfl) ?_; simp only [Act.put, List.setIfInBounds_toArray, List.set_cons_succ, List.set_cons_zero]))
      refine WQ.fact (by rfl) (by rfl) (.bool true) ?_ ?_
      · intro W hW hf
        obtain ⟨b2, hv, hV⟩ : NewS C R false (vs 40) W := hf 40 (by simp) (by kernel_rfl)
        unfold dmV at hv
        unfold Oper.quietAt
        go_simp
        exact calls_fact hW (dmSame_const C R b _ C R b2 _ false false _ hm (hB2.later hW) hV true (by simp))
      simp only [Act.put, List.setIfInBounds_toArray, List.set_cons_succ, List.set_cons_zero]
      repeat (first | (refine WQ.want (by rfl) (by rfl) ?_; intro K hK; go_big_quiet_op; first | go_big_quiet_on | go_big_quiet_call (fail)) | (refine WQ.skip (by rfl) (by rfl) ?_; simp only [Act.put, List.setIfInBounds_toArray, List.set_cons_succ, List.set_cons_zero]))
      refine WQ.new (by rfl) (by rfl) ?_ ?_
      · intro W hW hf
        go_simp
        refine (dmNew_any _ _ true C R _ (by rw [imin_eq, imax_eq]; omega) (by rw [imin_eq, imax_eq]; omega)).mono ?_
        rintro e w' ⟨b2, rfl, _, hB3, hb3⟩
        exact ⟨_, rfl, hb3, b2, rfl, hB3⟩
      simp only [Act.put, List.setIfInBounds_toArray, List.set_cons_succ, List.set_cons_zero]
      repeat (first | (refine WQ.want (by rfl) (by rfl) ?_; intro K hK; go_big_quiet_op; first | go_big_quiet_on | go_big_quiet_call (fail)) | (refine WQ.skip (by rfl) (by rfl) ?_; simp only [Act.put, List.setIfInBounds_toArray, List.set_cons_succ, List.set_cons_zero]))
      refine WQ.fact (by rfl) (by rfl) (.bool false) ?_ ?_
      · intro W hW hf
        obtain ⟨b2, hv, hV⟩ : NewS C R true (vs 54) W := hf 54 (by simp) (by kernel_rfl)
        unfold dmV at hv
        unfold Oper.quietAt
        go_simp
        exact calls_fact hW (dmSame_const C R b _ C R b2 _ false true _ hm (hB2.later hW) hV false (by rw [decide_eq_false hz]; simp))
      simp only [Act.put, List.setIfInBounds_toArray, List.set_cons_succ, List.set_cons_zero]
      repeat (first | (refine WQ.want (by rfl) (by rfl) ?_; intro K hK; go_big_quiet_op; first | go_big_quiet_on | go_big_quiet_call (fail)) | (refine WQ.skip (by rfl) (by rfl) ?_; simp only [Act.put, List.setIfInBounds_toArray, List.set_cons_succ, List.set_cons_zero]))
      refine WQ.new (by rfl) (by rfl) ?_ ?_
      · intro W hW hf
        go_simp
        refine (dmNew_any _ _ false D R _ hD.out (by rw [imin_eq, imax_eq]; omega)).mono ?_
        rintro e w' ⟨b2, rfl, _, hB3, hb3⟩
        exact ⟨_, rfl, hb3, b2, rfl, hB3⟩
      simp only [Act.put, List.setIfInBounds_toArray, List.set_cons_succ, List.set_cons_zero]
      repeat (first | (refine WQ.want (by rfl) (by rfl) ?_; intro K hK; go_big_quiet_op; first | go_big_quiet_on | go_big_quiet_call (fail)) | (refine WQ.skip (by rfl) (by rfl) ?_; simp only [Act.put, List.setIfInBounds_toArray, List.set_cons_succ, List.set_cons_zero]))
      refine WQ.fact (by rfl) (by rfl) (.bool e8) ?_ ?_
      · intro W hW hf
        obtain ⟨b2, hv, hV⟩ : NewS D R false (vs 65) W := hf 65 (by simp) (by kernel_rfl)
        unfold dmV at hv
        unfold Oper.quietAt
        go_simp
        refine calls_fact hW (dmSame_const C R b _ D R b2 _ false false _ hm (hB2.later hW) hV e8 ?_)
        rw [hCD.out]
        cases e8
        · rfl
        · have h1 : C = D := by simpa using hCD.out
          subst h1; simp
      simp only [Act.put, List.setIfInBounds_toArray, List.set_cons_succ, List.set_cons_zero]
      repeat (first | (refine WQ.want (by rfl) (by rfl) ?_; intro K hK; go_big_quiet_op; first | go_big_quiet_on | go_big_quiet_call (fail)) | (refine WQ.skip (by rfl) (by rfl) ?_; simp only [Act.put, List.setIfInBounds_toArray, List.set_cons_succ, List.set_cons_zero]))
      exact WQ.nil rfl
    case hind => intro vs vs'; kernel_rfl
    case hT =>
      intro vs w' hb hS
      simp only [List.drop_succ_cons, List.drop_nil]
      go_wp2_with fail
      go_ret
      exact ⟨rfl, below_step HW hb⟩

set_option maxRecDepth 1000000 in
set_option maxHeartbeats 4000000 in
theorem damageSizes_zero_false (a0 a1 a3 : Int) (C R D : Nat) (e8 : Bool) (w : World) (hC : imin (imax a0 0) 8 = C) (hR : imin (imax a1 0) 8 = R) (hD : imin (imax ((C : Int) + 1) 0) 8 = D) (hz : C * R = 0) (he8 : decide (C = 8) = e8) (hout : a3 < 0 ∨ (C : Int) * (R : Int) ≤ a3) :
    Calls Try.prog 4 #[.int .i64 a0, .int .i64 a1, .bool false, .int .i64 a3] w fun e w' => e = .returned (.bool true) ∧ Below w.heap.size w w' := by
  have hC8 : C ≤ 8 := by rw [imin_eq, imax_eq] at hC; omega
  have hR8 : R ≤ 8 := by rw [imin_eq, imax_eq] at hR; omega
  have hD8 : D ≤ 8 ∧ (C = D ↔ C = 8) := by rw [imin_eq, imax_eq] at hD; omega
  have hCD : decide (C = D) = e8 := by rw [← he8, decide_eq_decide]; exact hD8.2
  replace hCD := Lib.hid hCD
  have he9 : ((C : Int) == 8) = e8 := by rw [← he8, Bool.eq_iff_iff]; simp; omega
  have hm := dm_size hC8 hR8
  have hins : (decide (0 ≤ a3) = false) ∨ (decide (0 ≤ a3) = true ∧ decide (a3 < (C : Int) * (R : Int)) = false) := by
    by_cases h : 0 ≤ a3
    · exact Or.inr ⟨by simpa using h, by rcases hout with h2 | h2
                                         · omega
                                         · simpa using h2⟩
    · exact Or.inl (by simpa using h)
  have hz3 : ((C : Int) * (R : Int) == 0) = true := by
    have h : ((C * R : Nat) : Int) = 0 := by rw [hz]; rfl
    simpa using h
  replace hz := Lib.hid hz
  rcases hins with hins | ⟨hins1, hins2⟩
  all_goals
    go_enter Try.func4, Try.ntmps4
    go_wp2_with fail
    refine (awake25 _).mono ?_
    rintro e w1 ⟨rfl, HW⟩
    go_wp2_with fail
    refine (dmNew_any _ _ _ C R _ hC hR).mono ?_
    rintro e w2 ⟨b, rfl, hbf, hB, hb⟩
    replace HW := below_step HW hb
    clear hb
    unfold dmV dmC
    go_wp2_with fail
    simp only [List.append_eq, List.cons_append, List.nil_append]
    generalize hw3 : w2.alloc (.cells #[.int .i64 (C : Int), .int .i64 (R : Int), .slice (some ⟨b, 0, none⟩) (C * R) (C * R)] DMT) = w3
    have HO : Ob w3 w2.heap.size DMT (dmC C R b (C * R) (C * R)) := by rw [← hw3]; exact Ob.new_at _ _ rfl
    replace hB := hB.alloc (.cells #[.int .i64 (C : Int), .int .i64 (R : Int), .slice (some ⟨b, 0, none⟩) (C * R) (C * R)] DMT)
    replace HW := HW.alloc HW.size (.cells #[.int .i64 (C : Int), .int .i64 (R : Int), .slice (some ⟨b, 0, none⟩) (C * R) (C * R)] DMT)
    rw [hw3] at hB HW
    clear hw3 hbf
    generalize w2.heap.size = q at *
    clear w2
    replace hC := Lib.hid hC; replace hR := Lib.hid hR; replace hD := Lib.hid hD
    apply wp_region_rel 72 [40, 65] (dszS C R D false)
    case hm => kernel_rfl
    case hB => kernel_rfl
    case hΛ => kernel_rfl
    case hSm => exact dszS_later
    case hF =>
      intro wx hwx vs
      have c0 := fun p => ((HO.later hwx).re p).mC
      have c1 := fun p => ((HO.later hwx).re p).mR
      have c2 := fun p => ((HO.later hwx).re p).mS
      have hB2 := hB.later hwx
      simp only [List.take_succ_cons, List.take_zero]
      repeat (first | (refine WQ.want (by rfl) (by rfl) ?_; intro K hK; go_big_quiet_op; first | go_big_quiet_on | go_big_quiet_call (first | (go_at_call 19; exact Calls.regrown_of (dmCount_const C R b (C * R) _ false hm (hB2.later (below_regrown _ _ _)))) | (go_at_call 20; exact Calls.regrown_of (dmHas_out C R b (C * R) _ false _ hout (hB2.later (below_regrown _ _ _)))))) | (refine WQ.skip (by rfl) (by rfl) ?_; simp only [Act.put, List.setIfInBounds_toArray, List.set_cons_succ, List.set_cons_zero]))
      refine WQ.new (by rfl) (by rfl) ?_ ?_
      · intro W hW hf
        go_simp
        refine (dmNew_any _ _ false C R _ (by rw [imin_eq, imax_eq]; omega) (by rw [imin_eq, imax_eq]; omega)).mono ?_
        rintro e w' ⟨b2, rfl, _, hB3, hb3⟩
        exact ⟨_, rfl, hb3, b2, rfl, hB3⟩
      simp only [Act.put, List.setIfInBounds_toArray, List.set_cons_succ, List.set_cons_zero]
      repeat (first | (refine WQ.want (by rfl) (by rfl) ?_; intro K hK; go_big_quiet_op; first | go_big_quiet_on | go_big_quiet_call (fail)) | (refine WQ.skip (by rfl) (by rfl) ?_; simp only [Act.put, List.setIfInBounds_toArray, List.set_cons_succ, List.set_cons_zero]))
      refine WQ.fact (by rfl) (by rfl) (.bool true) ?_ ?_
      · intro W hW hf
        obtain ⟨b2, hv, hV⟩ : NewS C R false (vs 40) W := hf 40 (by simp) (by kernel_rfl)
        unfold dmV at hv
        unfold Oper.quietAt
        go_simp
        exact calls_fact hW (dmSame_const C R b _ C R b2 _ false false _ hm (hB2.later hW) hV true (by simp))
      simp only [Act.put, List.setIfInBounds_toArray, List.set_cons_succ, List.set_cons_zero]
      repeat (first | (refine WQ.want (by rfl) (by rfl) ?_; intro K hK; go_big_quiet_op; first | go_big_quiet_on | go_big_quiet_call (fail)) | (refine WQ.skip (by rfl) (by rfl) ?_; simp only [Act.put, List.setIfInBounds_toArray, List.set_cons_succ, List.set_cons_zero]))
      refine WQ.new (by rfl) (by rfl) ?_ ?_
      · intro W hW hf
        go_simp
        refine (dmNew_any _ _ false D R _ hD.out (by rw [imin_eq, imax_eq]; omega)).mono ?_
        rintro e w' ⟨b2, rfl, _, hB3, hb3⟩
        exact ⟨_, rfl, hb3, b2, rfl, hB3⟩
      simp only [Act.put, List.setIfInBounds_toArray, List.set_cons_succ, List.set_cons_zero]
      repeat (first | (refine WQ.want (by rfl) (by rfl) ?_; intro K hK; go_big_quiet_op; first | go_big_quiet_on | go_big_quiet_call (fail)) | (refine WQ.skip (by rfl) (by rfl) ?_; simp only [Act.put, List.setIfInBounds_toArray, List.set_cons_succ, List.set_cons_zero]))
      refine WQ.fact (by rfl) (by rfl) (.bool e8) ?_ ?_
      · intro W hW hf
        obtain ⟨b2, hv, hV⟩ : NewS D R false (vs 65) W := hf 65 (by simp) (by kernel_rfl)
        unfold dmV at hv
        unfold Oper.quietAt
        go_simp
        refine calls_fact hW (dmSame_const C R b _ D R b2 _ false false _ hm (hB2.later hW) hV e8 ?_)
        rw [hCD.out]
        cases e8
        · rfl
        · have h1 : C = D := by simpa using hCD.out
          subst h1; simp
      simp only [Act.put, List.setIfInBounds_toArray, List.set_cons_succ, List.set_cons_zero]
      repeat (first | (refine WQ.want (by rfl) (by rfl) ?_; intro K hK; go_big_quiet_op; first | go_big_quiet_on | go_big_quiet_call (fail)) | (refine WQ.skip (by rfl) (by rfl) ?_; simp only [Act.put, List.setIfInBounds_toArray, List.set_cons_succ, List.set_cons_zero]))
      exact WQ.nil rfl
    case hind => intro vs vs'; kernel_rfl
    case hT =>
      intro vs w' hb hS
      simp only [List.drop_succ_cons, List.drop_nil]
      go_wp2_with fail
      go_ret
      exact ⟨rfl, below_step HW hb⟩

theorem damageSizes_walk (w : World) (a0 a1 : Int) (x : Bool) (a3 : Int) :
    Calls Try.prog 4 #[.int .i64 a0, .int .i64 a1, .bool x, .int .i64 a3] w fun e w' => e = .returned (.bool true) ∧ Below w.heap.size w w' := by
  have hC : ∃ C : Nat, imin (imax a0 0) 8 = C := by rw [imin_eq, imax_eq]; exact ⟨(min (max a0 0) 8).toNat, by omega⟩
  have hR : ∃ R : Nat, imin (imax a1 0) 8 = R := by rw [imin_eq, imax_eq]; exact ⟨(min (max a1 0) 8).toNat, by omega⟩
  obtain ⟨C, hC⟩ := hC
  obtain ⟨R, hR⟩ := hR
  have hD : ∃ D : Nat, imin (imax ((C : Int) + 1) 0) 8 = D := by rw [imin_eq, imax_eq]; exact ⟨(min (max ((C : Int) + 1) 0) 8).toNat, by omega⟩
  obtain ⟨D, hD⟩ := hD
  by_cases hz : C * R = 0
  · have ho : a3 < 0 ∨ (C : Int) * (R : Int) ≤ a3 := by
      have h : ((C * R : Nat) : Int) = 0 := by rw [hz]; rfl
      have h' : (C : Int) * (R : Int) = 0 := by simpa using h
      rw [h']; omega
    cases x
    · exact damageSizes_zero_false a0 a1 a3 C R D _ w hC hR hD hz rfl ho
    · exact damageSizes_zero_true a0 a1 a3 C R D _ w hC hR hD hz rfl ho
  · by_cases hi : 0 ≤ a3 ∧ a3 < (C : Int) * (R : Int)
    · cases x
      · exact damageSizes_in_false a0 a1 a3 C R D _ w hC hR hD hz rfl hi
      · exact damageSizes_in_true a0 a1 a3 C R D _ w hC hR hD hz rfl hi
    · have ho : a3 < 0 ∨ (C : Int) * (R : Int) ≤ a3 := by
        by_cases h : 0 ≤ a3
        · exact Or.inr (Int.not_lt.mp fun h2 => hi ⟨h, h2⟩)
        · exact Or.inl (by omega)
      cases x
      · exact damageSizes_out_false a0 a1 a3 C R D _ w hC hR hD hz rfl ho
      · exact damageSizes_out_true a0 a1 a3 C R D _ w hC hR hD hz rfl ho
end Go.Proofs.Ytggdaefgaakijaa

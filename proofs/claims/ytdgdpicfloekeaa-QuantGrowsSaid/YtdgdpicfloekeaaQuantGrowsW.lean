/- Walk of the law QuantGrows: true at every input. -/
import Derived.Test.YtdgdpicfloekeaaGrow
namespace Go.Proofs.Ytdgdpicfloekeaa
open Go.RowKit
attribute [local go_sem ↓] run_imax run_imin

theorem level_q (n s : Int) (w : World) (h0 : -9223372036854775808 ≤ n) (h1 : n ≤ 9223372036854775807) :
    Calls Try.prog 14 #[.int .i64 n, .int .i64 s] w fun e w' => e = .returned (.int .i64 (qlev n s)) ∧ w = w' := level_any n s w h0 h1
theorem back_q (l s : Int) (w : World) :
    Calls Try.prog 15 #[.int .i64 l, .int .i64 s] w fun e w' => e = .returned (.int .i64 (qbk l s)) ∧ w = w' := back_any l s w
theorem qlev_bd (n s : Int) : -2047 ≤ qlev n s ∧ qlev n s ≤ 2047 := lev_bd _
theorem qbk_bd (l s : Int) : -200000000 ≤ qbk l s ∧ qbk l s ≤ 200000000 := by
  have h1 := lev_bd l
  have h2 := stp_bd s
  have h3 := mul_bd (imin (imax l (-2047)) 2047) (imin (imax s 1) 65536) 2047 65536 h1.1 h1.2 (by omega) h2.2 (by omega)
  unfold qbk qback
  split
  · omega
  · split <;> omega

theorem wpList_load_blkS_g {P : Program} {ops : Array Oper} {rest : List Oper} {o : Oper} {a : Act} {w : World} {Q : Exit → Act → World → Prop} {b n : Nat} {T : TypeId} {fs : Array Field} {f : Nat → Value}
    (H : Blk w b T n f) (hw : Region.wanted o (yielded ops a.tmps) = true) (ty : TypeId) (x : Operand) (ho : o.op = .load ty x) (hx : a.eval x = .pointer (some ⟨b, 0, none⟩))
    (hu : P.underlying ty = some (.struct fs)) (hi : (P.info? ty).map (·.size) = some n)
    (h : wpList P ops Q rest (a.put o.dst (.agg (fcells n f))) w) : wpList P ops Q (o :: rest) a w :=
  wpList_step fun K hK => by
    rw [if_pos hw]
    exact wp_load_row ty x ho b hx T (fcells n f) (0, 0) _ H hu rfl (by rw [fcells_size]; exact hi) (hK _ _ h)

set_option maxRecDepth 100000 in
set_option maxHeartbeats 8000000 in
theorem quantGrows_walk (t : Bool) (ia ir : Nat → Int) (a b n at_ : Int) (intra : Bool) (w : World) (ha : ∀ j, j < 64 → 0 ≤ ia j ∧ ia j ≤ 255) (hr : ∀ j, j < 64 → 0 ≤ ir j ∧ ir j ≤ 255)
    (ba : 0 ≤ a ∧ a ≤ 255) (bb : 0 ≤ b ∧ b ≤ 255) (bt : 0 ≤ at_ ∧ at_ ≤ 255) :
    Calls Try.prog 8 #[.agg (fcells 129 (tabV t ia ir)), .int .u8 a, .int .u8 b, .int .i64 n, .int .u8 at_, .bool intra] w fun e w' => e = .returned (.bool true) ∧ Below w.heap.size w w' := by
  have HT : Blk (w.alloc (.cells (fcells 129 (tabV t ia ir)) TAB)) w.heap.size TAB 129 (tabV t ia ir) := Blk.new_at _ _ _ rfl
  have HW : Below w.heap.size w (w.alloc (.cells (fcells 129 (tabV t ia ir)) TAB)) := (Below.refl _ _).alloc (Nat.le_refl _) _
  by_cases hn : n < -1099511627776 ∨ 1099511627776 < n
  · rcases hn with hn | hn
    · go_enter Try.func8, Try.ntmps8
      go_wp2_with (go_at_call 13; (with_reducible refine (awake8 _).mono ?_); rintro e w' ⟨rfl, rfl⟩)
      go_ret
      exact ⟨rfl, HW⟩
    · go_enter Try.func8, Try.ntmps8
      go_wp2_with (go_at_call 13; (with_reducible refine (awake8 _).mono ?_); rintro e w' ⟨rfl, rfl⟩)
      go_ret
      exact ⟨rfl, HW⟩
  · have n1 : -1099511627776 ≤ n := by omega
    have n2 : n ≤ 1099511627776 := by omega
    clear hn
    go_enter Try.func8, Try.ntmps8
    go_wp2_with (first | (go_at_call 13; (with_reducible refine (awake8 _).mono ?_); rintro e w' ⟨rfl, rfl⟩) | (refine wpList_load_blkS HT rfl _ _ rfl rfl Try.underlying34 (by kernel_rfl) ?_))
    generalize w.alloc (.cells (fcells 129 (tabV t ia ir)) TAB) = w3 at *
    refine (fit_any t ia ir _ ha hr).mono ?_
    rintro e w4 ⟨rfl, hb4⟩
    have HW := HW.trans (hb4.mono HW.size)
    clear HT hb4
    have HX : Blk (w4.alloc (.cells (fcells 129 (tabV false (fun _ => 0) (fun _ => 0))) TAB)) w4.heap.size TAB 129 (tabV false (fun _ => 0) (fun _ => 0)) := Blk.new_at _ _ _ rfl
    have HX' := HX.setRow_same (g := tabV t (fitv t ia) (fitv t ir)) rfl
    have HW' := below_setRow (HW.alloc HW.size (.cells (fcells 129 (tabV false (fun _ => 0) (fun _ => 0))) TAB)) HW.size (fcells 129 (tabV t (fitv t ia) (fitv t ir)))
    have hsz := HW.size
    have ha' := fitv_bd (t := t) ha
    have hr' := fitv_bd (t := t) hr
    clear ha hr
    go_wp2_with (first | (refine wpList_alloc_blk rfl TAB rfl _ _ allocTab ?_) | (refine wpList_store_blk HX rfl _ _ _ rfl rfl rfl (by kernel_rfl) (fun j _ => tabV_one j) ?_))
    have hpq : imin (1 + a % 31) (1 + b % 31) ≤ imax (1 + a % 31) (1 + b % 31) := by rw [imin_eq, imax_eq]; omega
    have HX := HX'
    have HW := HW'
    clear HX' HW'
    generalize imin (1 + a % 31) (1 + b % 31) = P at *
    generalize imax (1 + a % 31) (1 + b % 31) = Q at *
    generalize at_ % 64 = I at *
    generalize (w4.alloc (.cells (fcells 129 (tabV false (fun _ => 0) (fun _ => 0))) TAB)).setRow w4.heap.size (fcells 129 (tabV t (fitv t ia) (fitv t ir))) = w5 at *
    generalize w4.heap.size = bx at *
    obtain ⟨S1, hS1⟩ : ∃ x, x = qstep t (fitv t ia) (fitv t ir) P I intra := ⟨_, rfl⟩
    obtain ⟨S2, hS2⟩ : ∃ x, x = qstep t (fitv t ia) (fitv t ir) Q I intra := ⟨_, rfl⟩
    obtain ⟨E1, hE1⟩ : ∃ x, x = qerr t (fitv t ia) (fitv t ir) P intra := ⟨_, rfl⟩
    obtain ⟨E2, hE2⟩ : ∃ x, x = qerr t (fitv t ia) (fitv t ir) Q intra := ⟨_, rfl⟩
    obtain ⟨F1, hF1⟩ : ∃ x, x = qfirst (imin (imax P 1) 31) := ⟨_, rfl⟩
    obtain ⟨F2, hF2⟩ : ∃ x, x = qfirst (imin (imax Q 1) 31) := ⟨_, rfl⟩
    obtain ⟨l1, hl1⟩ : ∃ x, x = qlev n S1 := ⟨_, rfl⟩
    obtain ⟨l2, hl2⟩ : ∃ x, x = qlev n S2 := ⟨_, rfl⟩
    obtain ⟨K, hK⟩ : ∃ x, x = qlev n 7 := ⟨_, rfl⟩
    obtain ⟨B, hB⟩ : ∃ x, x = qbk l1 7 := ⟨_, rfl⟩
    have dS0 : S1 ≤ S2 := by rw [hS1, hS2]; exact qstep_mono hpq
    have dS : decide (S1 ≤ S2) = true := by simpa using dS0
    have dE : decide (E1 ≤ E2) = true := by rw [decide_eq_true_iff, hE1, hE2]; exact qerr_mono hpq
    have dF : decide (F1 ≤ F2) = true := by rw [decide_eq_true_iff, hF1, hF2]; exact qfirst_mono hpq
    have sb := qstep_bd (t := t) ha' hr' P I intra
    rw [← hS1] at sb
    have dL : decide (imax l2 (-l2) ≤ imax l1 (-l1)) = true := by rw [decide_eq_true_iff, hl1, hl2]; exact qlev_abs n S1 S2 (by omega) dS0
    have b1 := qlev_bd n S1
    have b2 := qlev_bd n S2
    have b3 := qlev_bd n 7
    have b4 := qbk_bd l1 7
    rw [← hl1] at b1
    rw [← hl2] at b2
    rw [← hK] at b3
    rw [← hB] at b4
    clear sb dS0 hpq ba bb bt
    replace hS1 := Lib.hid hS1
    replace hS2 := Lib.hid hS2
    replace hE1 := Lib.hid hE1
    replace hE2 := Lib.hid hE2
    replace hF1 := Lib.hid hF1
    replace hF2 := Lib.hid hF2
    replace hl1 := Lib.hid hl1
    replace hl2 := Lib.hid hl2
    replace hK := Lib.hid hK
    replace hB := Lib.hid hB
    refine wp_region_slots2 (by kernel_rfl) (by kernel_rfl) [46, 47, 48, 49, 50, 51, 52, 53, 54, 55, 56, 57, 58, 59, 17, 18] (fun L v w' => (Blk w' bx TAB 129 (tabV t (fitv t ia) (fitv t ir))) ∧ (Below w.heap.size w w') ∧ (L 0 = true → v 46 = .int .i64 n) ∧ (L 1 = true → v 47 = .agg (fcells 129 (tabV t (fitv t ia) (fitv t ir)))) ∧ (L 2 = true → v 48 = .int .i64 P) ∧ (L 3 = true → v 49 = .int .i64 I) ∧ (L 4 = true → v 50 = .bool intra) ∧ (L 5 = true → v 51 = .int .i64 S1) ∧ (L 6 = true → v 52 = .int .i64 l1) ∧ (L 7 = true → v 53 = .int .i64 n) ∧ (L 8 = true → v 54 = .agg (fcells 129 (tabV t (fitv t ia) (fitv t ir)))) ∧ (L 9 = true → v 55 = .int .i64 Q) ∧ (L 10 = true → v 56 = .int .i64 I) ∧ (L 11 = true → v 57 = .bool intra) ∧ (L 12 = true → v 58 = .int .i64 S2) ∧ (L 13 = true → v 59 = .int .i64 l2) ∧ (L 14 = true → v 17 = .int .i64 l1) ∧ (L 15 = true → v 18 = .int .i64 l2))
      (fun v => ⟨HX, HW.drew, fun h => (by cases h), fun h => (by cases h), fun h => (by cases h), fun h => (by cases h), fun h => (by cases h), fun h => (by cases h), fun h => (by cases h), fun h => (by cases h), fun h => (by cases h), fun h => (by cases h), fun h => (by cases h), fun h => (by cases h), fun h => (by cases h), fun h => (by cases h), fun h => (by cases h), fun h => (by cases h)⟩) ?_ ?_
    · intro i o hi L v w' hn hR hd
      obtain ⟨HX, HW, r0, r1, r2, r3, r4, r5, r6, r7, r8, r9, r10, r11, r12, r13, r14, r15⟩ := hR
      match i, hi with
      | 0, hi =>
        obtain rfl := Option.some.inj hi
        simp only [fill, Act.put, List.setIfInBounds_toArray, List.set_cons_zero, List.set_cons_succ]
        go_wp2_with (fail)
        exact ⟨(upd v 46 (.int .i64 n)), by kernel_rfl, HX, HW, fun _ => rfl, r1, r2, r3, r4, r5, r6, r7, r8, r9, r10, r11, r12, r13, r14, r15⟩
      | 1, hi =>
        obtain rfl := Option.some.inj hi
        simp only [fill, Act.put, List.setIfInBounds_toArray, List.set_cons_zero, List.set_cons_succ]
        go_wp2_with (refine wpList_load_blkS HX rfl _ _ rfl rfl Try.underlying34 (by kernel_rfl) ?_)
        exact ⟨(upd v 47 (.agg (fcells 129 (tabV t (fitv t ia) (fitv t ir))))), by kernel_rfl, HX, HW, r0, fun _ => rfl, r2, r3, r4, r5, r6, r7, r8, r9, r10, r11, r12, r13, r14, r15⟩
      | 2, hi =>
        obtain rfl := Option.some.inj hi
        simp only [fill, Act.put, List.setIfInBounds_toArray, List.set_cons_zero, List.set_cons_succ]
        go_wp2_with (fail)
        exact ⟨(upd v 48 (.int .i64 P)), by kernel_rfl, HX, HW, r0, r1, fun _ => rfl, r3, r4, r5, r6, r7, r8, r9, r10, r11, r12, r13, r14, r15⟩
      | 3, hi =>
        obtain rfl := Option.some.inj hi
        simp only [fill, Act.put, List.setIfInBounds_toArray, List.set_cons_zero, List.set_cons_succ]
        go_wp2_with (fail)
        exact ⟨(upd v 49 (.int .i64 I)), by kernel_rfl, HX, HW, r0, r1, r2, fun _ => rfl, r4, r5, r6, r7, r8, r9, r10, r11, r12, r13, r14, r15⟩
      | 4, hi =>
        obtain rfl := Option.some.inj hi
        simp only [fill, Act.put, List.setIfInBounds_toArray, List.set_cons_zero, List.set_cons_succ]
        go_wp2_with (fail)
        exact ⟨(upd v 50 (.bool intra)), by kernel_rfl, HX, HW, r0, r1, r2, r3, fun _ => rfl, r5, r6, r7, r8, r9, r10, r11, r12, r13, r14, r15⟩
      | 5, hi =>
        obtain rfl := Option.some.inj hi
        have d1 := r1 (hd ⟨1, .data⟩ (by simp) rfl)
        have d2 := r2 (hd ⟨2, .data⟩ (by simp) rfl)
        have d3 := r3 (hd ⟨3, .data⟩ (by simp) rfl)
        have d4 := r4 (hd ⟨4, .data⟩ (by simp) rfl)
        simp only [fill, Act.put, List.setIfInBounds_toArray, List.set_cons_zero, List.set_cons_succ, d1, d2, d3, d4]
        go_wp2_with (fail)
        refine (step_any t _ _ P _ intra _ ha' hr').mono ?_
        rintro e w'' ⟨rfl, hb⟩
        rw [← hS1.out]
        go_wp2_with fail
        exact ⟨(upd (upd (upd (upd (upd v 47 (.agg (fcells 129 (tabV t (fitv t ia) (fitv t ir))))) 48 (.int .i64 P)) 49 (.int .i64 I)) 50 (.bool intra)) 51 (.int .i64 S1)), by kernel_rfl, HX.below hb HX.lt, HW.trans (hb.mono HW.size), r0, fun _ => rfl, fun _ => rfl, fun _ => rfl, fun _ => rfl, fun _ => rfl, r6, r7, r8, r9, r10, r11, r12, r13, r14, r15⟩
      | 6, hi =>
        obtain rfl := Option.some.inj hi
        have d0 := r0 (hd ⟨0, .data⟩ (by simp) rfl)
        have d5 := r5 (hd ⟨5, .data⟩ (by simp) rfl)
        simp only [fill, Act.put, List.setIfInBounds_toArray, List.set_cons_zero, List.set_cons_succ, d0, d5]
        go_wp2_with (fail)
        refine (level_q n S1 _ (by omega) (by omega)).mono ?_
        rintro e w'' ⟨rfl, rfl⟩
        rw [← hl1.out]
        go_wp2_with fail
        exact ⟨(upd (upd (upd v 46 (.int .i64 n)) 51 (.int .i64 S1)) 52 (.int .i64 l1)), by kernel_rfl, HX, HW, fun _ => rfl, r1, r2, r3, r4, fun _ => rfl, fun _ => rfl, r7, r8, r9, r10, r11, r12, r13, r14, r15⟩
      | 7, hi =>
        obtain rfl := Option.some.inj hi
        simp only [fill, Act.put, List.setIfInBounds_toArray, List.set_cons_zero, List.set_cons_succ]
        go_wp2_with (fail)
        exact ⟨(upd v 53 (.int .i64 n)), by kernel_rfl, HX, HW, r0, r1, r2, r3, r4, r5, r6, fun _ => rfl, r8, r9, r10, r11, r12, r13, r14, r15⟩
      | 8, hi =>
        obtain rfl := Option.some.inj hi
        simp only [fill, Act.put, List.setIfInBounds_toArray, List.set_cons_zero, List.set_cons_succ]
        go_wp2_with (refine wpList_load_blkS HX rfl _ _ rfl rfl Try.underlying34 (by kernel_rfl) ?_)
        exact ⟨(upd v 54 (.agg (fcells 129 (tabV t (fitv t ia) (fitv t ir))))), by kernel_rfl, HX, HW, r0, r1, r2, r3, r4, r5, r6, r7, fun _ => rfl, r9, r10, r11, r12, r13, r14, r15⟩
      | 9, hi =>
        obtain rfl := Option.some.inj hi
        simp only [fill, Act.put, List.setIfInBounds_toArray, List.set_cons_zero, List.set_cons_succ]
        go_wp2_with (fail)
        exact ⟨(upd v 55 (.int .i64 Q)), by kernel_rfl, HX, HW, r0, r1, r2, r3, r4, r5, r6, r7, r8, fun _ => rfl, r10, r11, r12, r13, r14, r15⟩
      | 10, hi =>
        obtain rfl := Option.some.inj hi
        simp only [fill, Act.put, List.setIfInBounds_toArray, List.set_cons_zero, List.set_cons_succ]
        go_wp2_with (fail)
        exact ⟨(upd v 56 (.int .i64 I)), by kernel_rfl, HX, HW, r0, r1, r2, r3, r4, r5, r6, r7, r8, r9, fun _ => rfl, r11, r12, r13, r14, r15⟩
      | 11, hi =>
        obtain rfl := Option.some.inj hi
        simp only [fill, Act.put, List.setIfInBounds_toArray, List.set_cons_zero, List.set_cons_succ]
        go_wp2_with (fail)
        exact ⟨(upd v 57 (.bool intra)), by kernel_rfl, HX, HW, r0, r1, r2, r3, r4, r5, r6, r7, r8, r9, r10, fun _ => rfl, r12, r13, r14, r15⟩
      | 12, hi =>
        obtain rfl := Option.some.inj hi
        have d8 := r8 (hd ⟨8, .data⟩ (by simp) rfl)
        have d9 := r9 (hd ⟨9, .data⟩ (by simp) rfl)
        have d10 := r10 (hd ⟨10, .data⟩ (by simp) rfl)
        have d11 := r11 (hd ⟨11, .data⟩ (by simp) rfl)
        simp only [fill, Act.put, List.setIfInBounds_toArray, List.set_cons_zero, List.set_cons_succ, d8, d9, d10, d11]
        go_wp2_with (fail)
        refine (step_any t _ _ Q _ intra _ ha' hr').mono ?_
        rintro e w'' ⟨rfl, hb⟩
        rw [← hS2.out]
        go_wp2_with fail
        exact ⟨(upd (upd (upd (upd (upd v 54 (.agg (fcells 129 (tabV t (fitv t ia) (fitv t ir))))) 55 (.int .i64 Q)) 56 (.int .i64 I)) 57 (.bool intra)) 58 (.int .i64 S2)), by kernel_rfl, HX.below hb HX.lt, HW.trans (hb.mono HW.size), r0, r1, r2, r3, r4, r5, r6, r7, fun _ => rfl, fun _ => rfl, fun _ => rfl, fun _ => rfl, fun _ => rfl, r13, r14, r15⟩
      | 13, hi =>
        obtain rfl := Option.some.inj hi
        have d7 := r7 (hd ⟨7, .data⟩ (by simp) rfl)
        have d12 := r12 (hd ⟨12, .data⟩ (by simp) rfl)
        simp only [fill, Act.put, List.setIfInBounds_toArray, List.set_cons_zero, List.set_cons_succ, d7, d12]
        go_wp2_with (fail)
        refine (level_q n S2 _ (by omega) (by omega)).mono ?_
        rintro e w'' ⟨rfl, rfl⟩
        rw [← hl2.out]
        go_wp2_with fail
        exact ⟨(upd (upd (upd v 53 (.int .i64 n)) 58 (.int .i64 S2)) 59 (.int .i64 l2)), by kernel_rfl, HX, HW, r0, r1, r2, r3, r4, r5, r6, fun _ => rfl, r8, r9, r10, r11, fun _ => rfl, fun _ => rfl, r14, r15⟩
      | 14, hi =>
        obtain rfl := Option.some.inj hi
        have d6 := r6 (hd ⟨6, .data⟩ (by simp) rfl)
        simp only [fill, Act.put, List.setIfInBounds_toArray, List.set_cons_zero, List.set_cons_succ, d6]
        go_wp2_with (fail)
        exact ⟨(upd (upd v 52 (.int .i64 l1)) 17 (.int .i64 l1)), by kernel_rfl, HX, HW, r0, r1, r2, r3, r4, r5, fun _ => rfl, r7, r8, r9, r10, r11, r12, r13, fun _ => rfl, r15⟩
      | 15, hi =>
        obtain rfl := Option.some.inj hi
        have d13 := r13 (hd ⟨13, .data⟩ (by simp) rfl)
        simp only [fill, Act.put, List.setIfInBounds_toArray, List.set_cons_zero, List.set_cons_succ, d13]
        go_wp2_with (fail)
        exact ⟨(upd (upd v 59 (.int .i64 l2)) 18 (.int .i64 l2)), by kernel_rfl, HX, HW, r0, r1, r2, r3, r4, r5, r6, r7, r8, r9, r10, r11, r12, fun _ => rfl, r14, fun _ => rfl⟩
      | n + 16, hi => cases hi
    · intro L v w' hL hR
      obtain ⟨HX, HW, rest⟩ := hR
      have e14 := rest.2.2.2.2.2.2.2.2.2.2.2.2.2.2.1 (hL 14 (by decide))
      have e15 := rest.2.2.2.2.2.2.2.2.2.2.2.2.2.2.2 (hL 15 (by decide))
      clear rest hL
      simp only [fill, Act.put, List.setIfInBounds_toArray, List.set_cons_zero, List.set_cons_succ, e14, e15]
      clear e14 e15
      go_wp2_with fail
      refine wp_region_slots2 (by kernel_rfl) (by kernel_rfl) [60, 61, 62, 63, 64, 65, 66, 67, 68, 69, 70, 71, 72, 73, 74, 75, 76, 77, 78, 79, 80, 81, 82, 83, 84, 85, 86, 87, 88, 89, 90, 91, 92, 93, 94, 95, 96, 97, 98, 99, 100, 101, 102, 103, 104, 105, 106, 107, 108, 109, 110, 111, 112, 113, 114, 115, 116, 117, 12] (fun L v w' => (Blk w' bx TAB 129 (tabV t (fitv t ia) (fitv t ir))) ∧ (Below w.heap.size w w') ∧ (L 0 = true → v 60 = .agg (fcells 129 (tabV t (fitv t ia) (fitv t ir)))) ∧ (L 1 = true → v 61 = .int .i64 P) ∧ (L 2 = true → v 62 = .int .i64 I) ∧ (L 3 = true → v 63 = .bool intra) ∧ (L 4 = true → v 64 = .int .i64 S1) ∧ (L 5 = true → v 65 = .agg (fcells 129 (tabV t (fitv t ia) (fitv t ir)))) ∧ (L 6 = true → v 66 = .int .i64 Q) ∧ (L 7 = true → v 67 = .int .i64 I) ∧ (L 8 = true → v 68 = .bool intra) ∧ (L 9 = true → v 69 = .int .i64 S2) ∧ (L 10 = true → v 70 = .bool true) ∧ (L 11 = true → v 71 = .bool true) ∧ (L 12 = true → v 72 = .agg (fcells 129 (tabV t (fitv t ia) (fitv t ir)))) ∧ (L 13 = true → v 73 = .int .i64 P) ∧ (L 14 = true → v 74 = .bool intra) ∧ (L 15 = true → v 75 = .int .i64 E1) ∧ (L 16 = true → v 76 = .agg (fcells 129 (tabV t (fitv t ia) (fitv t ir)))) ∧ (L 17 = true → v 77 = .int .i64 Q) ∧ (L 18 = true → v 78 = .bool intra) ∧ (L 19 = true → v 79 = .int .i64 E2) ∧ (L 20 = true → v 80 = .bool true) ∧ (L 21 = true → v 81 = .bool true) ∧ (L 22 = true → v 82 = .bool true) ∧ (L 23 = true → v 83 = .int .i64 P) ∧ (L 24 = true → v 84 = .int .i64 F1) ∧ (L 25 = true → v 85 = .int .i64 Q) ∧ (L 26 = true → v 86 = .int .i64 F2) ∧ (L 27 = true → v 87 = .bool true) ∧ (L 28 = true → v 88 = .bool true) ∧ (L 29 = true → v 89 = .bool true) ∧ (L 30 = true → v 90 = .int .i64 l1) ∧ (L 31 = true → v 91 = .int .i64 l1) ∧ (L 32 = true → v 92 = .int .i64 (-l1)) ∧ (L 33 = true → v 93 = .int .i64 (imax l1 (-l1))) ∧ (L 34 = true → v 94 = .int .i64 l2) ∧ (L 35 = true → v 95 = .int .i64 l2) ∧ (L 36 = true → v 96 = .int .i64 (-l2)) ∧ (L 37 = true → v 97 = .int .i64 (imax l2 (-l2))) ∧ (L 38 = true → v 98 = .bool true) ∧ (L 39 = true → v 99 = .bool true) ∧ (L 40 = true → v 100 = .bool true) ∧ (L 41 = true → v 101 = .int .i64 n) ∧ (L 42 = true → v 102 = .int .i64 (-n)) ∧ (L 43 = true → v 103 = .int .i64 (-K)) ∧ (L 44 = true → v 104 = .int .i64 n) ∧ (L 45 = true → v 105 = .int .i64 K) ∧ (L 46 = true → v 106 = .int .i64 (-K)) ∧ (L 47 = true → v 107 = .bool true) ∧ (L 48 = true → v 108 = .bool true) ∧ (L 49 = true → v 109 = .bool true) ∧ (L 50 = true → v 110 = .int .i64 l1) ∧ (L 51 = true → v 111 = .int .i64 (-l1)) ∧ (L 52 = true → v 112 = .int .i64 (-B)) ∧ (L 53 = true → v 113 = .int .i64 l1) ∧ (L 54 = true → v 114 = .int .i64 B) ∧ (L 55 = true → v 115 = .int .i64 (-B)) ∧ (L 56 = true → v 116 = .bool true) ∧ (L 57 = true → v 117 = .bool true) ∧ (L 58 = true → v 12 = .bool true))
        (fun v => ⟨HX, HW.drew, fun h => (by cases h), fun h => (by cases h), fun h => (by cases h), fun h => (by cases h), fun h => (by cases h), fun h => (by cases h), fun h => (by cases h), fun h => (by cases h), fun h => (by cases h), fun h => (by cases h), fun h => (by cases h), fun h => (by cases h), fun h => (by cases h), fun h => (by cases h), fun h => (by cases h), fun h => (by cases h), fun h => (by cases h), fun h => (by cases h), fun h => (by cases h), fun h => (by cases h), fun h => (by cases h), fun h => (by cases h), fun h => (by cases h), fun h => (by cases h), fun h => (by cases h), fun h => (by cases h), fun h => (by cases h), fun h => (by cases h), fun h => (by cases h), fun h => (by cases h), fun h => (by cases h), fun h => (by cases h), fun h => (by cases h), fun h => (by cases h), fun h => (by cases h), fun h => (by cases h), fun h => (by cases h), fun h => (by cases h), fun h => (by cases h), fun h => (by cases h), fun h => (by cases h), fun h => (by cases h), fun h => (by cases h), fun h => (by cases h), fun h => (by cases h), fun h => (by cases h), fun h => (by cases h), fun h => (by cases h), fun h => (by cases h), fun h => (by cases h), fun h => (by cases h), fun h => (by cases h), fun h => (by cases h), fun h => (by cases h), fun h => (by cases h), fun h => (by cases h), fun h => (by cases h), fun h => (by cases h), fun h => (by cases h)⟩) ?_ ?_
      · intro i o hi L v w' hn hR hd
        obtain ⟨HX, HW, r0, r1, r2, r3, r4, r5, r6, r7, r8, r9, r10, r11, r12, r13, r14, r15, r16, r17, r18, r19, r20, r21, r22, r23, r24, r25, r26, r27, r28, r29, r30, r31, r32, r33, r34, r35, r36, r37, r38, r39, r40, r41, r42, r43, r44, r45, r46, r47, r48, r49, r50, r51, r52, r53, r54, r55, r56, r57, r58⟩ := hR
        match i, hi with
        | 0, hi =>
          obtain rfl := Option.some.inj hi
          simp only [fill, Act.put, List.setIfInBounds_toArray, List.set_cons_zero, List.set_cons_succ]
          go_wp2_with (refine wpList_load_blkS HX rfl _ _ rfl rfl Try.underlying34 (by kernel_rfl) ?_)
          exact ⟨(upd v 60 (.agg (fcells 129 (tabV t (fitv t ia) (fitv t ir))))), by kernel_rfl, HX, HW, fun _ => rfl, r1, r2, r3, r4, r5, r6, r7, r8, r9, r10, r11, r12, r13, r14, r15, r16, r17, r18, r19, r20, r21, r22, r23, r24, r25, r26, r27, r28, r29, r30, r31, r32, r33, r34, r35, r36, r37, r38, r39, r40, r41, r42, r43, r44, r45, r46, r47, r48, r49, r50, r51, r52, r53, r54, r55, r56, r57, r58⟩
        | 1, hi =>
          obtain rfl := Option.some.inj hi
          simp only [fill, Act.put, List.setIfInBounds_toArray, List.set_cons_zero, List.set_cons_succ]
          go_wp2_with (fail)
          exact ⟨(upd v 61 (.int .i64 P)), by kernel_rfl, HX, HW, r0, fun _ => rfl, r2, r3, r4, r5, r6, r7, r8, r9, r10, r11, r12, r13, r14, r15, r16, r17, r18, r19, r20, r21, r22, r23, r24, r25, r26, r27, r28, r29, r30, r31, r32, r33, r34, r35, r36, r37, r38, r39, r40, r41, r42, r43, r44, r45, r46, r47, r48, r49, r50, r51, r52, r53, r54, r55, r56, r57, r58⟩
        | 2, hi =>
          obtain rfl := Option.some.inj hi
          simp only [fill, Act.put, List.setIfInBounds_toArray, List.set_cons_zero, List.set_cons_succ]
          go_wp2_with (fail)
          exact ⟨(upd v 62 (.int .i64 I)), by kernel_rfl, HX, HW, r0, r1, fun _ => rfl, r3, r4, r5, r6, r7, r8, r9, r10, r11, r12, r13, r14, r15, r16, r17, r18, r19, r20, r21, r22, r23, r24, r25, r26, r27, r28, r29, r30, r31, r32, r33, r34, r35, r36, r37, r38, r39, r40, r41, r42, r43, r44, r45, r46, r47, r48, r49, r50, r51, r52, r53, r54, r55, r56, r57, r58⟩
        | 3, hi =>
          obtain rfl := Option.some.inj hi
          simp only [fill, Act.put, List.setIfInBounds_toArray, List.set_cons_zero, List.set_cons_succ]
          go_wp2_with (fail)
          exact ⟨(upd v 63 (.bool intra)), by kernel_rfl, HX, HW, r0, r1, r2, fun _ => rfl, r4, r5, r6, r7, r8, r9, r10, r11, r12, r13, r14, r15, r16, r17, r18, r19, r20, r21, r22, r23, r24, r25, r26, r27, r28, r29, r30, r31, r32, r33, r34, r35, r36, r37, r38, r39, r40, r41, r42, r43, r44, r45, r46, r47, r48, r49, r50, r51, r52, r53, r54, r55, r56, r57, r58⟩
        | 4, hi =>
          obtain rfl := Option.some.inj hi
          have d0 := r0 (hd ⟨0, .data⟩ (by simp) rfl)
          have d1 := r1 (hd ⟨1, .data⟩ (by simp) rfl)
          have d2 := r2 (hd ⟨2, .data⟩ (by simp) rfl)
          have d3 := r3 (hd ⟨3, .data⟩ (by simp) rfl)
          simp only [fill, Act.put, List.setIfInBounds_toArray, List.set_cons_zero, List.set_cons_succ, d0, d1, d2, d3]
          go_wp2_with (fail)
          refine (step_any t _ _ P _ intra _ ha' hr').mono ?_
          rintro e w'' ⟨rfl, hb⟩
          rw [← hS1.out]
          go_wp2_with fail
          exact ⟨(upd (upd (upd (upd (upd v 60 (.agg (fcells 129 (tabV t (fitv t ia) (fitv t ir))))) 61 (.int .i64 P)) 62 (.int .i64 I)) 63 (.bool intra)) 64 (.int .i64 S1)), by kernel_rfl, HX.below hb HX.lt, HW.trans (hb.mono HW.size), fun _ => rfl, fun _ => rfl, fun _ => rfl, fun _ => rfl, fun _ => rfl, r5, r6, r7, r8, r9, r10, r11, r12, r13, r14, r15, r16, r17, r18, r19, r20, r21, r22, r23, r24, r25, r26, r27, r28, r29, r30, r31, r32, r33, r34, r35, r36, r37, r38, r39, r40, r41, r42, r43, r44, r45, r46, r47, r48, r49, r50, r51, r52, r53, r54, r55, r56, r57, r58⟩
        | 5, hi =>
          obtain rfl := Option.some.inj hi
          simp only [fill, Act.put, List.setIfInBounds_toArray, List.set_cons_zero, List.set_cons_succ]
          go_wp2_with (refine wpList_load_blkS HX rfl _ _ rfl rfl Try.underlying34 (by kernel_rfl) ?_)
          exact ⟨(upd v 65 (.agg (fcells 129 (tabV t (fitv t ia) (fitv t ir))))), by kernel_rfl, HX, HW, r0, r1, r2, r3, r4, fun _ => rfl, r6, r7, r8, r9, r10, r11, r12, r13, r14, r15, r16, r17, r18, r19, r20, r21, r22, r23, r24, r25, r26, r27, r28, r29, r30, r31, r32, r33, r34, r35, r36, r37, r38, r39, r40, r41, r42, r43, r44, r45, r46, r47, r48, r49, r50, r51, r52, r53, r54, r55, r56, r57, r58⟩
        | 6, hi =>
          obtain rfl := Option.some.inj hi
          simp only [fill, Act.put, List.setIfInBounds_toArray, List.set_cons_zero, List.set_cons_succ]
          go_wp2_with (fail)
          exact ⟨(upd v 66 (.int .i64 Q)), by kernel_rfl, HX, HW, r0, r1, r2, r3, r4, r5, fun _ => rfl, r7, r8, r9, r10, r11, r12, r13, r14, r15, r16, r17, r18, r19, r20, r21, r22, r23, r24, r25, r26, r27, r28, r29, r30, r31, r32, r33, r34, r35, r36, r37, r38, r39, r40, r41, r42, r43, r44, r45, r46, r47, r48, r49, r50, r51, r52, r53, r54, r55, r56, r57, r58⟩
        | 7, hi =>
          obtain rfl := Option.some.inj hi
          simp only [fill, Act.put, List.setIfInBounds_toArray, List.set_cons_zero, List.set_cons_succ]
          go_wp2_with (fail)
          exact ⟨(upd v 67 (.int .i64 I)), by kernel_rfl, HX, HW, r0, r1, r2, r3, r4, r5, r6, fun _ => rfl, r8, r9, r10, r11, r12, r13, r14, r15, r16, r17, r18, r19, r20, r21, r22, r23, r24, r25, r26, r27, r28, r29, r30, r31, r32, r33, r34, r35, r36, r37, r38, r39, r40, r41, r42, r43, r44, r45, r46, r47, r48, r49, r50, r51, r52, r53, r54, r55, r56, r57, r58⟩
        | 8, hi =>
          obtain rfl := Option.some.inj hi
          simp only [fill, Act.put, List.setIfInBounds_toArray, List.set_cons_zero, List.set_cons_succ]
          go_wp2_with (fail)
          exact ⟨(upd v 68 (.bool intra)), by kernel_rfl, HX, HW, r0, r1, r2, r3, r4, r5, r6, r7, fun _ => rfl, r9, r10, r11, r12, r13, r14, r15, r16, r17, r18, r19, r20, r21, r22, r23, r24, r25, r26, r27, r28, r29, r30, r31, r32, r33, r34, r35, r36, r37, r38, r39, r40, r41, r42, r43, r44, r45, r46, r47, r48, r49, r50, r51, r52, r53, r54, r55, r56, r57, r58⟩
        | 9, hi =>
          obtain rfl := Option.some.inj hi
          have d5 := r5 (hd ⟨5, .data⟩ (by simp) rfl)
          have d6 := r6 (hd ⟨6, .data⟩ (by simp) rfl)
          have d7 := r7 (hd ⟨7, .data⟩ (by simp) rfl)
          have d8 := r8 (hd ⟨8, .data⟩ (by simp) rfl)
          simp only [fill, Act.put, List.setIfInBounds_toArray, List.set_cons_zero, List.set_cons_succ, d5, d6, d7, d8]
          go_wp2_with (fail)
          refine (step_any t _ _ Q _ intra _ ha' hr').mono ?_
          rintro e w'' ⟨rfl, hb⟩
          rw [← hS2.out]
          go_wp2_with fail
          exact ⟨(upd (upd (upd (upd (upd v 65 (.agg (fcells 129 (tabV t (fitv t ia) (fitv t ir))))) 66 (.int .i64 Q)) 67 (.int .i64 I)) 68 (.bool intra)) 69 (.int .i64 S2)), by kernel_rfl, HX.below hb HX.lt, HW.trans (hb.mono HW.size), r0, r1, r2, r3, r4, fun _ => rfl, fun _ => rfl, fun _ => rfl, fun _ => rfl, fun _ => rfl, r10, r11, r12, r13, r14, r15, r16, r17, r18, r19, r20, r21, r22, r23, r24, r25, r26, r27, r28, r29, r30, r31, r32, r33, r34, r35, r36, r37, r38, r39, r40, r41, r42, r43, r44, r45, r46, r47, r48, r49, r50, r51, r52, r53, r54, r55, r56, r57, r58⟩
        | 10, hi =>
          obtain rfl := Option.some.inj hi
          have d4 := r4 (hd ⟨4, .data⟩ (by simp) rfl)
          have d9 := r9 (hd ⟨9, .data⟩ (by simp) rfl)
          simp only [fill, Act.put, List.setIfInBounds_toArray, List.set_cons_zero, List.set_cons_succ, d4, d9]
          go_wp2_with (fail)
          exact ⟨(upd (upd (upd v 64 (.int .i64 S1)) 69 (.int .i64 S2)) 70 (.bool true)), by kernel_rfl, HX, HW, r0, r1, r2, r3, fun _ => rfl, r5, r6, r7, r8, fun _ => rfl, fun _ => rfl, r11, r12, r13, r14, r15, r16, r17, r18, r19, r20, r21, r22, r23, r24, r25, r26, r27, r28, r29, r30, r31, r32, r33, r34, r35, r36, r37, r38, r39, r40, r41, r42, r43, r44, r45, r46, r47, r48, r49, r50, r51, r52, r53, r54, r55, r56, r57, r58⟩
        | 11, hi =>
          obtain rfl := Option.some.inj hi
          have d10 := r10 (hd ⟨10, .data⟩ (by simp) rfl)
          simp only [fill, Act.put, List.setIfInBounds_toArray, List.set_cons_zero, List.set_cons_succ, d10]
          go_wp2_with (fail)
          exact ⟨(upd (upd v 70 (.bool true)) 71 (.bool true)), by kernel_rfl, HX, HW, r0, r1, r2, r3, r4, r5, r6, r7, r8, r9, fun _ => rfl, fun _ => rfl, r12, r13, r14, r15, r16, r17, r18, r19, r20, r21, r22, r23, r24, r25, r26, r27, r28, r29, r30, r31, r32, r33, r34, r35, r36, r37, r38, r39, r40, r41, r42, r43, r44, r45, r46, r47, r48, r49, r50, r51, r52, r53, r54, r55, r56, r57, r58⟩
        | 12, hi =>
          obtain rfl := Option.some.inj hi
          have d11 := r11 (hd ⟨11, .guard⟩ (by simp) rfl)
          simp only [fill, Act.put, List.setIfInBounds_toArray, List.set_cons_zero, List.set_cons_succ, d11]
          go_wp2_with (refine wpList_load_blkS_g HX rfl _ _ rfl rfl Try.underlying34 (by kernel_rfl) ?_)
          exact ⟨(upd (upd v 71 (.bool true)) 72 (.agg (fcells 129 (tabV t (fitv t ia) (fitv t ir))))), by kernel_rfl, HX, HW, r0, r1, r2, r3, r4, r5, r6, r7, r8, r9, r10, fun _ => rfl, fun _ => rfl, r13, r14, r15, r16, r17, r18, r19, r20, r21, r22, r23, r24, r25, r26, r27, r28, r29, r30, r31, r32, r33, r34, r35, r36, r37, r38, r39, r40, r41, r42, r43, r44, r45, r46, r47, r48, r49, r50, r51, r52, r53, r54, r55, r56, r57, r58⟩
        | 13, hi =>
          obtain rfl := Option.some.inj hi
          have d11 := r11 (hd ⟨11, .guard⟩ (by simp) rfl)
          simp only [fill, Act.put, List.setIfInBounds_toArray, List.set_cons_zero, List.set_cons_succ, d11]
          go_wp2_with (fail)
          exact ⟨(upd (upd v 71 (.bool true)) 73 (.int .i64 P)), by kernel_rfl, HX, HW, r0, r1, r2, r3, r4, r5, r6, r7, r8, r9, r10, fun _ => rfl, r12, fun _ => rfl, r14, r15, r16, r17, r18, r19, r20, r21, r22, r23, r24, r25, r26, r27, r28, r29, r30, r31, r32, r33, r34, r35, r36, r37, r38, r39, r40, r41, r42, r43, r44, r45, r46, r47, r48, r49, r50, r51, r52, r53, r54, r55, r56, r57, r58⟩
        | 14, hi =>
          obtain rfl := Option.some.inj hi
          have d11 := r11 (hd ⟨11, .guard⟩ (by simp) rfl)
          simp only [fill, Act.put, List.setIfInBounds_toArray, List.set_cons_zero, List.set_cons_succ, d11]
          go_wp2_with (fail)
          exact ⟨(upd (upd v 71 (.bool true)) 74 (.bool intra)), by kernel_rfl, HX, HW, r0, r1, r2, r3, r4, r5, r6, r7, r8, r9, r10, fun _ => rfl, r12, r13, fun _ => rfl, r15, r16, r17, r18, r19, r20, r21, r22, r23, r24, r25, r26, r27, r28, r29, r30, r31, r32, r33, r34, r35, r36, r37, r38, r39, r40, r41, r42, r43, r44, r45, r46, r47, r48, r49, r50, r51, r52, r53, r54, r55, r56, r57, r58⟩
        | 15, hi =>
          obtain rfl := Option.some.inj hi
          have d12 := r12 (hd ⟨12, .data⟩ (by simp) rfl)
          have d13 := r13 (hd ⟨13, .data⟩ (by simp) rfl)
          have d14 := r14 (hd ⟨14, .data⟩ (by simp) rfl)
          have d11 := r11 (hd ⟨11, .guard⟩ (by simp) rfl)
          simp only [fill, Act.put, List.setIfInBounds_toArray, List.set_cons_zero, List.set_cons_succ, d12, d13, d14, d11]
          go_wp2_with (fail)
          refine (error_any t _ _ P intra _ ha' hr').mono ?_
          rintro e w'' ⟨rfl, hb⟩
          rw [← hE1.out]
          go_wp2_with fail
          exact ⟨(upd (upd (upd (upd (upd v 71 (.bool true)) 72 (.agg (fcells 129 (tabV t (fitv t ia) (fitv t ir))))) 73 (.int .i64 P)) 74 (.bool intra)) 75 (.int .i64 E1)), by kernel_rfl, HX.below hb HX.lt, HW.trans (hb.mono HW.size), r0, r1, r2, r3, r4, r5, r6, r7, r8, r9, r10, fun _ => rfl, fun _ => rfl, fun _ => rfl, fun _ => rfl, fun _ => rfl, r16, r17, r18, r19, r20, r21, r22, r23, r24, r25, r26, r27, r28, r29, r30, r31, r32, r33, r34, r35, r36, r37, r38, r39, r40, r41, r42, r43, r44, r45, r46, r47, r48, r49, r50, r51, r52, r53, r54, r55, r56, r57, r58⟩
        | 16, hi =>
          obtain rfl := Option.some.inj hi
          have d11 := r11 (hd ⟨11, .guard⟩ (by simp) rfl)
          simp only [fill, Act.put, List.setIfInBounds_toArray, List.set_cons_zero, List.set_cons_succ, d11]
          go_wp2_with (refine wpList_load_blkS_g HX rfl _ _ rfl rfl Try.underlying34 (by kernel_rfl) ?_)
          exact ⟨(upd (upd v 71 (.bool true)) 76 (.agg (fcells 129 (tabV t (fitv t ia) (fitv t ir))))), by kernel_rfl, HX, HW, r0, r1, r2, r3, r4, r5, r6, r7, r8, r9, r10, fun _ => rfl, r12, r13, r14, r15, fun _ => rfl, r17, r18, r19, r20, r21, r22, r23, r24, r25, r26, r27, r28, r29, r30, r31, r32, r33, r34, r35, r36, r37, r38, r39, r40, r41, r42, r43, r44, r45, r46, r47, r48, r49, r50, r51, r52, r53, r54, r55, r56, r57, r58⟩
        | 17, hi =>
          obtain rfl := Option.some.inj hi
          have d11 := r11 (hd ⟨11, .guard⟩ (by simp) rfl)
          simp only [fill, Act.put, List.setIfInBounds_toArray, List.set_cons_zero, List.set_cons_succ, d11]
          go_wp2_with (fail)
          exact ⟨(upd (upd v 71 (.bool true)) 77 (.int .i64 Q)), by kernel_rfl, HX, HW, r0, r1, r2, r3, r4, r5, r6, r7, r8, r9, r10, fun _ => rfl, r12, r13, r14, r15, r16, fun _ => rfl, r18, r19, r20, r21, r22, r23, r24, r25, r26, r27, r28, r29, r30, r31, r32, r33, r34, r35, r36, r37, r38, r39, r40, r41, r42, r43, r44, r45, r46, r47, r48, r49, r50, r51, r52, r53, r54, r55, r56, r57, r58⟩
        | 18, hi =>
          obtain rfl := Option.some.inj hi
          have d11 := r11 (hd ⟨11, .guard⟩ (by simp) rfl)
          simp only [fill, Act.put, List.setIfInBounds_toArray, List.set_cons_zero, List.set_cons_succ, d11]
          go_wp2_with (fail)
          exact ⟨(upd (upd v 71 (.bool true)) 78 (.bool intra)), by kernel_rfl, HX, HW, r0, r1, r2, r3, r4, r5, r6, r7, r8, r9, r10, fun _ => rfl, r12, r13, r14, r15, r16, r17, fun _ => rfl, r19, r20, r21, r22, r23, r24, r25, r26, r27, r28, r29, r30, r31, r32, r33, r34, r35, r36, r37, r38, r39, r40, r41, r42, r43, r44, r45, r46, r47, r48, r49, r50, r51, r52, r53, r54, r55, r56, r57, r58⟩
        | 19, hi =>
          obtain rfl := Option.some.inj hi
          have d16 := r16 (hd ⟨16, .data⟩ (by simp) rfl)
          have d17 := r17 (hd ⟨17, .data⟩ (by simp) rfl)
          have d18 := r18 (hd ⟨18, .data⟩ (by simp) rfl)
          have d11 := r11 (hd ⟨11, .guard⟩ (by simp) rfl)
          simp only [fill, Act.put, List.setIfInBounds_toArray, List.set_cons_zero, List.set_cons_succ, d16, d17, d18, d11]
          go_wp2_with (fail)
          refine (error_any t _ _ Q intra _ ha' hr').mono ?_
          rintro e w'' ⟨rfl, hb⟩
          rw [← hE2.out]
          go_wp2_with fail
          exact ⟨(upd (upd (upd (upd (upd v 71 (.bool true)) 76 (.agg (fcells 129 (tabV t (fitv t ia) (fitv t ir))))) 77 (.int .i64 Q)) 78 (.bool intra)) 79 (.int .i64 E2)), by kernel_rfl, HX.below hb HX.lt, HW.trans (hb.mono HW.size), r0, r1, r2, r3, r4, r5, r6, r7, r8, r9, r10, fun _ => rfl, r12, r13, r14, r15, fun _ => rfl, fun _ => rfl, fun _ => rfl, fun _ => rfl, r20, r21, r22, r23, r24, r25, r26, r27, r28, r29, r30, r31, r32, r33, r34, r35, r36, r37, r38, r39, r40, r41, r42, r43, r44, r45, r46, r47, r48, r49, r50, r51, r52, r53, r54, r55, r56, r57, r58⟩
        | 20, hi =>
          obtain rfl := Option.some.inj hi
          have d15 := r15 (hd ⟨15, .data⟩ (by simp) rfl)
          have d19 := r19 (hd ⟨19, .data⟩ (by simp) rfl)
          have d11 := r11 (hd ⟨11, .guard⟩ (by simp) rfl)
          simp only [fill, Act.put, List.setIfInBounds_toArray, List.set_cons_zero, List.set_cons_succ, d15, d19, d11]
          go_wp2_with (fail)
          exact ⟨(upd (upd (upd (upd v 71 (.bool true)) 75 (.int .i64 E1)) 79 (.int .i64 E2)) 80 (.bool true)), by kernel_rfl, HX, HW, r0, r1, r2, r3, r4, r5, r6, r7, r8, r9, r10, fun _ => rfl, r12, r13, r14, fun _ => rfl, r16, r17, r18, fun _ => rfl, fun _ => rfl, r21, r22, r23, r24, r25, r26, r27, r28, r29, r30, r31, r32, r33, r34, r35, r36, r37, r38, r39, r40, r41, r42, r43, r44, r45, r46, r47, r48, r49, r50, r51, r52, r53, r54, r55, r56, r57, r58⟩
        | 21, hi =>
          obtain rfl := Option.some.inj hi
          have d11 := r11 (hd ⟨11, .data⟩ (by simp) rfl)
          have d20 := r20 (hd ⟨20, .data⟩ (by simp) rfl)
          simp only [fill, Act.put, List.setIfInBounds_toArray, List.set_cons_zero, List.set_cons_succ, d11, d20]
          go_wp2_with (fail)
          exact ⟨(upd (upd (upd v 71 (.bool true)) 80 (.bool true)) 81 (.bool true)), by kernel_rfl, HX, HW, r0, r1, r2, r3, r4, r5, r6, r7, r8, r9, r10, fun _ => rfl, r12, r13, r14, r15, r16, r17, r18, r19, fun _ => rfl, fun _ => rfl, r22, r23, r24, r25, r26, r27, r28, r29, r30, r31, r32, r33, r34, r35, r36, r37, r38, r39, r40, r41, r42, r43, r44, r45, r46, r47, r48, r49, r50, r51, r52, r53, r54, r55, r56, r57, r58⟩
        | 22, hi =>
          obtain rfl := Option.some.inj hi
          have d21 := r21 (hd ⟨21, .data⟩ (by simp) rfl)
          simp only [fill, Act.put, List.setIfInBounds_toArray, List.set_cons_zero, List.set_cons_succ, d21]
          go_wp2_with (fail)
          exact ⟨(upd (upd v 81 (.bool true)) 82 (.bool true)), by kernel_rfl, HX, HW, r0, r1, r2, r3, r4, r5, r6, r7, r8, r9, r10, r11, r12, r13, r14, r15, r16, r17, r18, r19, r20, fun _ => rfl, fun _ => rfl, r23, r24, r25, r26, r27, r28, r29, r30, r31, r32, r33, r34, r35, r36, r37, r38, r39, r40, r41, r42, r43, r44, r45, r46, r47, r48, r49, r50, r51, r52, r53, r54, r55, r56, r57, r58⟩
        | 23, hi =>
          obtain rfl := Option.some.inj hi
          have d22 := r22 (hd ⟨22, .guard⟩ (by simp) rfl)
          simp only [fill, Act.put, List.setIfInBounds_toArray, List.set_cons_zero, List.set_cons_succ, d22]
          go_wp2_with (fail)
          exact ⟨(upd (upd v 82 (.bool true)) 83 (.int .i64 P)), by kernel_rfl, HX, HW, r0, r1, r2, r3, r4, r5, r6, r7, r8, r9, r10, r11, r12, r13, r14, r15, r16, r17, r18, r19, r20, r21, fun _ => rfl, fun _ => rfl, r24, r25, r26, r27, r28, r29, r30, r31, r32, r33, r34, r35, r36, r37, r38, r39, r40, r41, r42, r43, r44, r45, r46, r47, r48, r49, r50, r51, r52, r53, r54, r55, r56, r57, r58⟩
        | 24, hi =>
          obtain rfl := Option.some.inj hi
          have d23 := r23 (hd ⟨23, .data⟩ (by simp) rfl)
          have d22 := r22 (hd ⟨22, .guard⟩ (by simp) rfl)
          simp only [fill, Act.put, List.setIfInBounds_toArray, List.set_cons_zero, List.set_cons_succ, d23, d22]
          go_wp2_with (fail)
          refine (first_any P _).mono ?_
          rintro e w'' ⟨rfl, rfl⟩
          rw [← hF1.out]
          go_wp2_with fail
          exact ⟨(upd (upd (upd v 82 (.bool true)) 83 (.int .i64 P)) 84 (.int .i64 F1)), by kernel_rfl, HX, HW, r0, r1, r2, r3, r4, r5, r6, r7, r8, r9, r10, r11, r12, r13, r14, r15, r16, r17, r18, r19, r20, r21, fun _ => rfl, fun _ => rfl, fun _ => rfl, r25, r26, r27, r28, r29, r30, r31, r32, r33, r34, r35, r36, r37, r38, r39, r40, r41, r42, r43, r44, r45, r46, r47, r48, r49, r50, r51, r52, r53, r54, r55, r56, r57, r58⟩
        | 25, hi =>
          obtain rfl := Option.some.inj hi
          have d22 := r22 (hd ⟨22, .guard⟩ (by simp) rfl)
          simp only [fill, Act.put, List.setIfInBounds_toArray, List.set_cons_zero, List.set_cons_succ, d22]
          go_wp2_with (fail)
          exact ⟨(upd (upd v 82 (.bool true)) 85 (.int .i64 Q)), by kernel_rfl, HX, HW, r0, r1, r2, r3, r4, r5, r6, r7, r8, r9, r10, r11, r12, r13, r14, r15, r16, r17, r18, r19, r20, r21, fun _ => rfl, r23, r24, fun _ => rfl, r26, r27, r28, r29, r30, r31, r32, r33, r34, r35, r36, r37, r38, r39, r40, r41, r42, r43, r44, r45, r46, r47, r48, r49, r50, r51, r52, r53, r54, r55, r56, r57, r58⟩
        | 26, hi =>
          obtain rfl := Option.some.inj hi
          have d25 := r25 (hd ⟨25, .data⟩ (by simp) rfl)
          have d22 := r22 (hd ⟨22, .guard⟩ (by simp) rfl)
          simp only [fill, Act.put, List.setIfInBounds_toArray, List.set_cons_zero, List.set_cons_succ, d25, d22]
          go_wp2_with (fail)
          refine (first_any Q _).mono ?_
          rintro e w'' ⟨rfl, rfl⟩
          rw [← hF2.out]
          go_wp2_with fail
          exact ⟨(upd (upd (upd v 82 (.bool true)) 85 (.int .i64 Q)) 86 (.int .i64 F2)), by kernel_rfl, HX, HW, r0, r1, r2, r3, r4, r5, r6, r7, r8, r9, r10, r11, r12, r13, r14, r15, r16, r17, r18, r19, r20, r21, fun _ => rfl, r23, r24, fun _ => rfl, fun _ => rfl, r27, r28, r29, r30, r31, r32, r33, r34, r35, r36, r37, r38, r39, r40, r41, r42, r43, r44, r45, r46, r47, r48, r49, r50, r51, r52, r53, r54, r55, r56, r57, r58⟩
        | 27, hi =>
          obtain rfl := Option.some.inj hi
          have d24 := r24 (hd ⟨24, .data⟩ (by simp) rfl)
          have d26 := r26 (hd ⟨26, .data⟩ (by simp) rfl)
          have d22 := r22 (hd ⟨22, .guard⟩ (by simp) rfl)
          simp only [fill, Act.put, List.setIfInBounds_toArray, List.set_cons_zero, List.set_cons_succ, d24, d26, d22]
          go_wp2_with (fail)
          exact ⟨(upd (upd (upd (upd v 82 (.bool true)) 84 (.int .i64 F1)) 86 (.int .i64 F2)) 87 (.bool true)), by kernel_rfl, HX, HW, r0, r1, r2, r3, r4, r5, r6, r7, r8, r9, r10, r11, r12, r13, r14, r15, r16, r17, r18, r19, r20, r21, fun _ => rfl, r23, fun _ => rfl, r25, fun _ => rfl, fun _ => rfl, r28, r29, r30, r31, r32, r33, r34, r35, r36, r37, r38, r39, r40, r41, r42, r43, r44, r45, r46, r47, r48, r49, r50, r51, r52, r53, r54, r55, r56, r57, r58⟩
        | 28, hi =>
          obtain rfl := Option.some.inj hi
          have d22 := r22 (hd ⟨22, .data⟩ (by simp) rfl)
          have d27 := r27 (hd ⟨27, .data⟩ (by simp) rfl)
          simp only [fill, Act.put, List.setIfInBounds_toArray, List.set_cons_zero, List.set_cons_succ, d22, d27]
          go_wp2_with (fail)
          exact ⟨(upd (upd (upd v 82 (.bool true)) 87 (.bool true)) 88 (.bool true)), by kernel_rfl, HX, HW, r0, r1, r2, r3, r4, r5, r6, r7, r8, r9, r10, r11, r12, r13, r14, r15, r16, r17, r18, r19, r20, r21, fun _ => rfl, r23, r24, r25, r26, fun _ => rfl, fun _ => rfl, r29, r30, r31, r32, r33, r34, r35, r36, r37, r38, r39, r40, r41, r42, r43, r44, r45, r46, r47, r48, r49, r50, r51, r52, r53, r54, r55, r56, r57, r58⟩
        | 29, hi =>
          obtain rfl := Option.some.inj hi
          have d28 := r28 (hd ⟨28, .data⟩ (by simp) rfl)
          simp only [fill, Act.put, List.setIfInBounds_toArray, List.set_cons_zero, List.set_cons_succ, d28]
          go_wp2_with (fail)
          exact ⟨(upd (upd v 88 (.bool true)) 89 (.bool true)), by kernel_rfl, HX, HW, r0, r1, r2, r3, r4, r5, r6, r7, r8, r9, r10, r11, r12, r13, r14, r15, r16, r17, r18, r19, r20, r21, r22, r23, r24, r25, r26, r27, fun _ => rfl, fun _ => rfl, r30, r31, r32, r33, r34, r35, r36, r37, r38, r39, r40, r41, r42, r43, r44, r45, r46, r47, r48, r49, r50, r51, r52, r53, r54, r55, r56, r57, r58⟩
        | 30, hi =>
          obtain rfl := Option.some.inj hi
          have d29 := r29 (hd ⟨29, .guard⟩ (by simp) rfl)
          simp only [fill, Act.put, List.setIfInBounds_toArray, List.set_cons_zero, List.set_cons_succ, d29]
          go_wp2_with (fail)
          exact ⟨(upd (upd v 89 (.bool true)) 90 (.int .i64 l1)), by kernel_rfl, HX, HW, r0, r1, r2, r3, r4, r5, r6, r7, r8, r9, r10, r11, r12, r13, r14, r15, r16, r17, r18, r19, r20, r21, r22, r23, r24, r25, r26, r27, r28, fun _ => rfl, fun _ => rfl, r31, r32, r33, r34, r35, r36, r37, r38, r39, r40, r41, r42, r43, r44, r45, r46, r47, r48, r49, r50, r51, r52, r53, r54, r55, r56, r57, r58⟩
        | 31, hi =>
          obtain rfl := Option.some.inj hi
          have d29 := r29 (hd ⟨29, .guard⟩ (by simp) rfl)
          simp only [fill, Act.put, List.setIfInBounds_toArray, List.set_cons_zero, List.set_cons_succ, d29]
          go_wp2_with (fail)
          exact ⟨(upd (upd v 89 (.bool true)) 91 (.int .i64 l1)), by kernel_rfl, HX, HW, r0, r1, r2, r3, r4, r5, r6, r7, r8, r9, r10, r11, r12, r13, r14, r15, r16, r17, r18, r19, r20, r21, r22, r23, r24, r25, r26, r27, r28, fun _ => rfl, r30, fun _ => rfl, r32, r33, r34, r35, r36, r37, r38, r39, r40, r41, r42, r43, r44, r45, r46, r47, r48, r49, r50, r51, r52, r53, r54, r55, r56, r57, r58⟩
        | 32, hi =>
          obtain rfl := Option.some.inj hi
          have d31 := r31 (hd ⟨31, .data⟩ (by simp) rfl)
          have d29 := r29 (hd ⟨29, .guard⟩ (by simp) rfl)
          simp only [fill, Act.put, List.setIfInBounds_toArray, List.set_cons_zero, List.set_cons_succ, d31, d29]
          go_wp2_with (fail)
          exact ⟨(upd (upd (upd v 89 (.bool true)) 91 (.int .i64 l1)) 92 (.int .i64 (-l1))), by kernel_rfl, HX, HW, r0, r1, r2, r3, r4, r5, r6, r7, r8, r9, r10, r11, r12, r13, r14, r15, r16, r17, r18, r19, r20, r21, r22, r23, r24, r25, r26, r27, r28, fun _ => rfl, r30, fun _ => rfl, fun _ => rfl, r33, r34, r35, r36, r37, r38, r39, r40, r41, r42, r43, r44, r45, r46, r47, r48, r49, r50, r51, r52, r53, r54, r55, r56, r57, r58⟩
        | 33, hi =>
          obtain rfl := Option.some.inj hi
          have d30 := r30 (hd ⟨30, .data⟩ (by simp) rfl)
          have d32 := r32 (hd ⟨32, .data⟩ (by simp) rfl)
          have d29 := r29 (hd ⟨29, .guard⟩ (by simp) rfl)
          simp only [fill, Act.put, List.setIfInBounds_toArray, List.set_cons_zero, List.set_cons_succ, d30, d32, d29]
          go_wp2_with (fail)
          exact ⟨(upd (upd (upd (upd v 89 (.bool true)) 90 (.int .i64 l1)) 92 (.int .i64 (-l1))) 93 (.int .i64 (imax l1 (-l1)))), by kernel_rfl, HX, HW, r0, r1, r2, r3, r4, r5, r6, r7, r8, r9, r10, r11, r12, r13, r14, r15, r16, r17, r18, r19, r20, r21, r22, r23, r24, r25, r26, r27, r28, fun _ => rfl, fun _ => rfl, r31, fun _ => rfl, fun _ => rfl, r34, r35, r36, r37, r38, r39, r40, r41, r42, r43, r44, r45, r46, r47, r48, r49, r50, r51, r52, r53, r54, r55, r56, r57, r58⟩
        | 34, hi =>
          obtain rfl := Option.some.inj hi
          have d29 := r29 (hd ⟨29, .guard⟩ (by simp) rfl)
          simp only [fill, Act.put, List.setIfInBounds_toArray, List.set_cons_zero, List.set_cons_succ, d29]
          go_wp2_with (fail)
          exact ⟨(upd (upd v 89 (.bool true)) 94 (.int .i64 l2)), by kernel_rfl, HX, HW, r0, r1, r2, r3, r4, r5, r6, r7, r8, r9, r10, r11, r12, r13, r14, r15, r16, r17, r18, r19, r20, r21, r22, r23, r24, r25, r26, r27, r28, fun _ => rfl, r30, r31, r32, r33, fun _ => rfl, r35, r36, r37, r38, r39, r40, r41, r42, r43, r44, r45, r46, r47, r48, r49, r50, r51, r52, r53, r54, r55, r56, r57, r58⟩
        | 35, hi =>
          obtain rfl := Option.some.inj hi
          have d29 := r29 (hd ⟨29, .guard⟩ (by simp) rfl)
          simp only [fill, Act.put, List.setIfInBounds_toArray, List.set_cons_zero, List.set_cons_succ, d29]
          go_wp2_with (fail)
          exact ⟨(upd (upd v 89 (.bool true)) 95 (.int .i64 l2)), by kernel_rfl, HX, HW, r0, r1, r2, r3, r4, r5, r6, r7, r8, r9, r10, r11, r12, r13, r14, r15, r16, r17, r18, r19, r20, r21, r22, r23, r24, r25, r26, r27, r28, fun _ => rfl, r30, r31, r32, r33, r34, fun _ => rfl, r36, r37, r38, r39, r40, r41, r42, r43, r44, r45, r46, r47, r48, r49, r50, r51, r52, r53, r54, r55, r56, r57, r58⟩
        | 36, hi =>
          obtain rfl := Option.some.inj hi
          have d35 := r35 (hd ⟨35, .data⟩ (by simp) rfl)
          have d29 := r29 (hd ⟨29, .guard⟩ (by simp) rfl)
          simp only [fill, Act.put, List.setIfInBounds_toArray, List.set_cons_zero, List.set_cons_succ, d35, d29]
          go_wp2_with (fail)
          exact ⟨(upd (upd (upd v 89 (.bool true)) 95 (.int .i64 l2)) 96 (.int .i64 (-l2))), by kernel_rfl, HX, HW, r0, r1, r2, r3, r4, r5, r6, r7, r8, r9, r10, r11, r12, r13, r14, r15, r16, r17, r18, r19, r20, r21, r22, r23, r24, r25, r26, r27, r28, fun _ => rfl, r30, r31, r32, r33, r34, fun _ => rfl, fun _ => rfl, r37, r38, r39, r40, r41, r42, r43, r44, r45, r46, r47, r48, r49, r50, r51, r52, r53, r54, r55, r56, r57, r58⟩
        | 37, hi =>
          obtain rfl := Option.some.inj hi
          have d34 := r34 (hd ⟨34, .data⟩ (by simp) rfl)
          have d36 := r36 (hd ⟨36, .data⟩ (by simp) rfl)
          have d29 := r29 (hd ⟨29, .guard⟩ (by simp) rfl)
          simp only [fill, Act.put, List.setIfInBounds_toArray, List.set_cons_zero, List.set_cons_succ, d34, d36, d29]
          go_wp2_with (fail)
          exact ⟨(upd (upd (upd (upd v 89 (.bool true)) 94 (.int .i64 l2)) 96 (.int .i64 (-l2))) 97 (.int .i64 (imax l2 (-l2)))), by kernel_rfl, HX, HW, r0, r1, r2, r3, r4, r5, r6, r7, r8, r9, r10, r11, r12, r13, r14, r15, r16, r17, r18, r19, r20, r21, r22, r23, r24, r25, r26, r27, r28, fun _ => rfl, r30, r31, r32, r33, fun _ => rfl, r35, fun _ => rfl, fun _ => rfl, r38, r39, r40, r41, r42, r43, r44, r45, r46, r47, r48, r49, r50, r51, r52, r53, r54, r55, r56, r57, r58⟩
        | 38, hi =>
          obtain rfl := Option.some.inj hi
          have d33 := r33 (hd ⟨33, .data⟩ (by simp) rfl)
          have d37 := r37 (hd ⟨37, .data⟩ (by simp) rfl)
          have d29 := r29 (hd ⟨29, .guard⟩ (by simp) rfl)
          simp only [fill, Act.put, List.setIfInBounds_toArray, List.set_cons_zero, List.set_cons_succ, d33, d37, d29]
          go_wp2_with (fail)
          exact ⟨(upd (upd (upd (upd v 89 (.bool true)) 93 (.int .i64 (imax l1 (-l1)))) 97 (.int .i64 (imax l2 (-l2)))) 98 (.bool true)), by kernel_rfl, HX, HW, r0, r1, r2, r3, r4, r5, r6, r7, r8, r9, r10, r11, r12, r13, r14, r15, r16, r17, r18, r19, r20, r21, r22, r23, r24, r25, r26, r27, r28, fun _ => rfl, r30, r31, r32, fun _ => rfl, r34, r35, r36, fun _ => rfl, fun _ => rfl, r39, r40, r41, r42, r43, r44, r45, r46, r47, r48, r49, r50, r51, r52, r53, r54, r55, r56, r57, r58⟩
        | 39, hi =>
          obtain rfl := Option.some.inj hi
          have d29 := r29 (hd ⟨29, .data⟩ (by simp) rfl)
          have d38 := r38 (hd ⟨38, .data⟩ (by simp) rfl)
          simp only [fill, Act.put, List.setIfInBounds_toArray, List.set_cons_zero, List.set_cons_succ, d29, d38]
          go_wp2_with (fail)
          exact ⟨(upd (upd (upd v 89 (.bool true)) 98 (.bool true)) 99 (.bool true)), by kernel_rfl, HX, HW, r0, r1, r2, r3, r4, r5, r6, r7, r8, r9, r10, r11, r12, r13, r14, r15, r16, r17, r18, r19, r20, r21, r22, r23, r24, r25, r26, r27, r28, fun _ => rfl, r30, r31, r32, r33, r34, r35, r36, r37, fun _ => rfl, fun _ => rfl, r40, r41, r42, r43, r44, r45, r46, r47, r48, r49, r50, r51, r52, r53, r54, r55, r56, r57, r58⟩
        | 40, hi =>
          obtain rfl := Option.some.inj hi
          have d39 := r39 (hd ⟨39, .data⟩ (by simp) rfl)
          simp only [fill, Act.put, List.setIfInBounds_toArray, List.set_cons_zero, List.set_cons_succ, d39]
          go_wp2_with (fail)
          exact ⟨(upd (upd v 99 (.bool true)) 100 (.bool true)), by kernel_rfl, HX, HW, r0, r1, r2, r3, r4, r5, r6, r7, r8, r9, r10, r11, r12, r13, r14, r15, r16, r17, r18, r19, r20, r21, r22, r23, r24, r25, r26, r27, r28, r29, r30, r31, r32, r33, r34, r35, r36, r37, r38, fun _ => rfl, fun _ => rfl, r41, r42, r43, r44, r45, r46, r47, r48, r49, r50, r51, r52, r53, r54, r55, r56, r57, r58⟩
        | 41, hi =>
          obtain rfl := Option.some.inj hi
          have d40 := r40 (hd ⟨40, .guard⟩ (by simp) rfl)
          simp only [fill, Act.put, List.setIfInBounds_toArray, List.set_cons_zero, List.set_cons_succ, d40]
          go_wp2_with (fail)
          exact ⟨(upd (upd v 100 (.bool true)) 101 (.int .i64 n)), by kernel_rfl, HX, HW, r0, r1, r2, r3, r4, r5, r6, r7, r8, r9, r10, r11, r12, r13, r14, r15, r16, r17, r18, r19, r20, r21, r22, r23, r24, r25, r26, r27, r28, r29, r30, r31, r32, r33, r34, r35, r36, r37, r38, r39, fun _ => rfl, fun _ => rfl, r42, r43, r44, r45, r46, r47, r48, r49, r50, r51, r52, r53, r54, r55, r56, r57, r58⟩
        | 42, hi =>
          obtain rfl := Option.some.inj hi
          have d41 := r41 (hd ⟨41, .data⟩ (by simp) rfl)
          have d40 := r40 (hd ⟨40, .guard⟩ (by simp) rfl)
          simp only [fill, Act.put, List.setIfInBounds_toArray, List.set_cons_zero, List.set_cons_succ, d41, d40]
          go_wp2_with (fail)
          exact ⟨(upd (upd (upd v 100 (.bool true)) 101 (.int .i64 n)) 102 (.int .i64 (-n))), by kernel_rfl, HX, HW, r0, r1, r2, r3, r4, r5, r6, r7, r8, r9, r10, r11, r12, r13, r14, r15, r16, r17, r18, r19, r20, r21, r22, r23, r24, r25, r26, r27, r28, r29, r30, r31, r32, r33, r34, r35, r36, r37, r38, r39, fun _ => rfl, fun _ => rfl, fun _ => rfl, r43, r44, r45, r46, r47, r48, r49, r50, r51, r52, r53, r54, r55, r56, r57, r58⟩
        | 43, hi =>
          obtain rfl := Option.some.inj hi
          have d42 := r42 (hd ⟨42, .data⟩ (by simp) rfl)
          have d40 := r40 (hd ⟨40, .guard⟩ (by simp) rfl)
          simp only [fill, Act.put, List.setIfInBounds_toArray, List.set_cons_zero, List.set_cons_succ, d42, d40]
          go_wp2_with (fail)
          refine (level_q (-n) 7 _ (by omega) (by omega)).mono ?_
          rintro e w'' ⟨rfl, rfl⟩
          rw [qlev_neg, ← hK.out]
          go_wp2_with fail
          exact ⟨(upd (upd (upd v 100 (.bool true)) 102 (.int .i64 (-n))) 103 (.int .i64 (-K))), by kernel_rfl, HX, HW, r0, r1, r2, r3, r4, r5, r6, r7, r8, r9, r10, r11, r12, r13, r14, r15, r16, r17, r18, r19, r20, r21, r22, r23, r24, r25, r26, r27, r28, r29, r30, r31, r32, r33, r34, r35, r36, r37, r38, r39, fun _ => rfl, r41, fun _ => rfl, fun _ => rfl, r44, r45, r46, r47, r48, r49, r50, r51, r52, r53, r54, r55, r56, r57, r58⟩
        | 44, hi =>
          obtain rfl := Option.some.inj hi
          have d40 := r40 (hd ⟨40, .guard⟩ (by simp) rfl)
          simp only [fill, Act.put, List.setIfInBounds_toArray, List.set_cons_zero, List.set_cons_succ, d40]
          go_wp2_with (fail)
          exact ⟨(upd (upd v 100 (.bool true)) 104 (.int .i64 n)), by kernel_rfl, HX, HW, r0, r1, r2, r3, r4, r5, r6, r7, r8, r9, r10, r11, r12, r13, r14, r15, r16, r17, r18, r19, r20, r21, r22, r23, r24, r25, r26, r27, r28, r29, r30, r31, r32, r33, r34, r35, r36, r37, r38, r39, fun _ => rfl, r41, r42, r43, fun _ => rfl, r45, r46, r47, r48, r49, r50, r51, r52, r53, r54, r55, r56, r57, r58⟩
        | 45, hi =>
          obtain rfl := Option.some.inj hi
          have d44 := r44 (hd ⟨44, .data⟩ (by simp) rfl)
          have d40 := r40 (hd ⟨40, .guard⟩ (by simp) rfl)
          simp only [fill, Act.put, List.setIfInBounds_toArray, List.set_cons_zero, List.set_cons_succ, d44, d40]
          go_wp2_with (fail)
          refine (level_q n 7 _ (by omega) (by omega)).mono ?_
          rintro e w'' ⟨rfl, rfl⟩
          rw [← hK.out]
          go_wp2_with fail
          exact ⟨(upd (upd (upd v 100 (.bool true)) 104 (.int .i64 n)) 105 (.int .i64 K)), by kernel_rfl, HX, HW, r0, r1, r2, r3, r4, r5, r6, r7, r8, r9, r10, r11, r12, r13, r14, r15, r16, r17, r18, r19, r20, r21, r22, r23, r24, r25, r26, r27, r28, r29, r30, r31, r32, r33, r34, r35, r36, r37, r38, r39, fun _ => rfl, r41, r42, r43, fun _ => rfl, fun _ => rfl, r46, r47, r48, r49, r50, r51, r52, r53, r54, r55, r56, r57, r58⟩
        | 46, hi =>
          obtain rfl := Option.some.inj hi
          have d45 := r45 (hd ⟨45, .data⟩ (by simp) rfl)
          have d40 := r40 (hd ⟨40, .guard⟩ (by simp) rfl)
          simp only [fill, Act.put, List.setIfInBounds_toArray, List.set_cons_zero, List.set_cons_succ, d45, d40]
          go_wp2_with (fail)
          exact ⟨(upd (upd (upd v 100 (.bool true)) 105 (.int .i64 K)) 106 (.int .i64 (-K))), by kernel_rfl, HX, HW, r0, r1, r2, r3, r4, r5, r6, r7, r8, r9, r10, r11, r12, r13, r14, r15, r16, r17, r18, r19, r20, r21, r22, r23, r24, r25, r26, r27, r28, r29, r30, r31, r32, r33, r34, r35, r36, r37, r38, r39, fun _ => rfl, r41, r42, r43, r44, fun _ => rfl, fun _ => rfl, r47, r48, r49, r50, r51, r52, r53, r54, r55, r56, r57, r58⟩
        | 47, hi =>
          obtain rfl := Option.some.inj hi
          have d43 := r43 (hd ⟨43, .data⟩ (by simp) rfl)
          have d46 := r46 (hd ⟨46, .data⟩ (by simp) rfl)
          have d40 := r40 (hd ⟨40, .guard⟩ (by simp) rfl)
          simp only [fill, Act.put, List.setIfInBounds_toArray, List.set_cons_zero, List.set_cons_succ, d43, d46, d40]
          go_wp2_with (fail)
          exact ⟨(upd (upd (upd (upd v 100 (.bool true)) 103 (.int .i64 (-K))) 106 (.int .i64 (-K))) 107 (.bool true)), by kernel_rfl, HX, HW, r0, r1, r2, r3, r4, r5, r6, r7, r8, r9, r10, r11, r12, r13, r14, r15, r16, r17, r18, r19, r20, r21, r22, r23, r24, r25, r26, r27, r28, r29, r30, r31, r32, r33, r34, r35, r36, r37, r38, r39, fun _ => rfl, r41, r42, fun _ => rfl, r44, r45, fun _ => rfl, fun _ => rfl, r48, r49, r50, r51, r52, r53, r54, r55, r56, r57, r58⟩
        | 48, hi =>
          obtain rfl := Option.some.inj hi
          have d40 := r40 (hd ⟨40, .data⟩ (by simp) rfl)
          have d47 := r47 (hd ⟨47, .data⟩ (by simp) rfl)
          simp only [fill, Act.put, List.setIfInBounds_toArray, List.set_cons_zero, List.set_cons_succ, d40, d47]
          go_wp2_with (fail)
          exact ⟨(upd (upd (upd v 100 (.bool true)) 107 (.bool true)) 108 (.bool true)), by kernel_rfl, HX, HW, r0, r1, r2, r3, r4, r5, r6, r7, r8, r9, r10, r11, r12, r13, r14, r15, r16, r17, r18, r19, r20, r21, r22, r23, r24, r25, r26, r27, r28, r29, r30, r31, r32, r33, r34, r35, r36, r37, r38, r39, fun _ => rfl, r41, r42, r43, r44, r45, r46, fun _ => rfl, fun _ => rfl, r49, r50, r51, r52, r53, r54, r55, r56, r57, r58⟩
        | 49, hi =>
          obtain rfl := Option.some.inj hi
          have d48 := r48 (hd ⟨48, .data⟩ (by simp) rfl)
          simp only [fill, Act.put, List.setIfInBounds_toArray, List.set_cons_zero, List.set_cons_succ, d48]
          go_wp2_with (fail)
          exact ⟨(upd (upd v 108 (.bool true)) 109 (.bool true)), by kernel_rfl, HX, HW, r0, r1, r2, r3, r4, r5, r6, r7, r8, r9, r10, r11, r12, r13, r14, r15, r16, r17, r18, r19, r20, r21, r22, r23, r24, r25, r26, r27, r28, r29, r30, r31, r32, r33, r34, r35, r36, r37, r38, r39, r40, r41, r42, r43, r44, r45, r46, r47, fun _ => rfl, fun _ => rfl, r50, r51, r52, r53, r54, r55, r56, r57, r58⟩
        | 50, hi =>
          obtain rfl := Option.some.inj hi
          have d49 := r49 (hd ⟨49, .guard⟩ (by simp) rfl)
          simp only [fill, Act.put, List.setIfInBounds_toArray, List.set_cons_zero, List.set_cons_succ, d49]
          go_wp2_with (fail)
          exact ⟨(upd (upd v 109 (.bool true)) 110 (.int .i64 l1)), by kernel_rfl, HX, HW, r0, r1, r2, r3, r4, r5, r6, r7, r8, r9, r10, r11, r12, r13, r14, r15, r16, r17, r18, r19, r20, r21, r22, r23, r24, r25, r26, r27, r28, r29, r30, r31, r32, r33, r34, r35, r36, r37, r38, r39, r40, r41, r42, r43, r44, r45, r46, r47, r48, fun _ => rfl, fun _ => rfl, r51, r52, r53, r54, r55, r56, r57, r58⟩
        | 51, hi =>
          obtain rfl := Option.some.inj hi
          have d50 := r50 (hd ⟨50, .data⟩ (by simp) rfl)
          have d49 := r49 (hd ⟨49, .guard⟩ (by simp) rfl)
          simp only [fill, Act.put, List.setIfInBounds_toArray, List.set_cons_zero, List.set_cons_succ, d50, d49]
          go_wp2_with (fail)
          exact ⟨(upd (upd (upd v 109 (.bool true)) 110 (.int .i64 l1)) 111 (.int .i64 (-l1))), by kernel_rfl, HX, HW, r0, r1, r2, r3, r4, r5, r6, r7, r8, r9, r10, r11, r12, r13, r14, r15, r16, r17, r18, r19, r20, r21, r22, r23, r24, r25, r26, r27, r28, r29, r30, r31, r32, r33, r34, r35, r36, r37, r38, r39, r40, r41, r42, r43, r44, r45, r46, r47, r48, fun _ => rfl, fun _ => rfl, fun _ => rfl, r52, r53, r54, r55, r56, r57, r58⟩
        | 52, hi =>
          obtain rfl := Option.some.inj hi
          have d51 := r51 (hd ⟨51, .data⟩ (by simp) rfl)
          have d49 := r49 (hd ⟨49, .guard⟩ (by simp) rfl)
          simp only [fill, Act.put, List.setIfInBounds_toArray, List.set_cons_zero, List.set_cons_succ, d51, d49]
          go_wp2_with (fail)
          refine (back_q (-l1) 7 _).mono ?_
          rintro e w'' ⟨rfl, rfl⟩
          rw [qbk_neg, ← hB.out]
          go_wp2_with fail
          exact ⟨(upd (upd (upd v 109 (.bool true)) 111 (.int .i64 (-l1))) 112 (.int .i64 (-B))), by kernel_rfl, HX, HW, r0, r1, r2, r3, r4, r5, r6, r7, r8, r9, r10, r11, r12, r13, r14, r15, r16, r17, r18, r19, r20, r21, r22, r23, r24, r25, r26, r27, r28, r29, r30, r31, r32, r33, r34, r35, r36, r37, r38, r39, r40, r41, r42, r43, r44, r45, r46, r47, r48, fun _ => rfl, r50, fun _ => rfl, fun _ => rfl, r53, r54, r55, r56, r57, r58⟩
        | 53, hi =>
          obtain rfl := Option.some.inj hi
          have d49 := r49 (hd ⟨49, .guard⟩ (by simp) rfl)
          simp only [fill, Act.put, List.setIfInBounds_toArray, List.set_cons_zero, List.set_cons_succ, d49]
          go_wp2_with (fail)
          exact ⟨(upd (upd v 109 (.bool true)) 113 (.int .i64 l1)), by kernel_rfl, HX, HW, r0, r1, r2, r3, r4, r5, r6, r7, r8, r9, r10, r11, r12, r13, r14, r15, r16, r17, r18, r19, r20, r21, r22, r23, r24, r25, r26, r27, r28, r29, r30, r31, r32, r33, r34, r35, r36, r37, r38, r39, r40, r41, r42, r43, r44, r45, r46, r47, r48, fun _ => rfl, r50, r51, r52, fun _ => rfl, r54, r55, r56, r57, r58⟩
        | 54, hi =>
          obtain rfl := Option.some.inj hi
          have d53 := r53 (hd ⟨53, .data⟩ (by simp) rfl)
          have d49 := r49 (hd ⟨49, .guard⟩ (by simp) rfl)
          simp only [fill, Act.put, List.setIfInBounds_toArray, List.set_cons_zero, List.set_cons_succ, d53, d49]
          go_wp2_with (fail)
          refine (back_q l1 7 _).mono ?_
          rintro e w'' ⟨rfl, rfl⟩
          rw [← hB.out]
          go_wp2_with fail
          exact ⟨(upd (upd (upd v 109 (.bool true)) 113 (.int .i64 l1)) 114 (.int .i64 B)), by kernel_rfl, HX, HW, r0, r1, r2, r3, r4, r5, r6, r7, r8, r9, r10, r11, r12, r13, r14, r15, r16, r17, r18, r19, r20, r21, r22, r23, r24, r25, r26, r27, r28, r29, r30, r31, r32, r33, r34, r35, r36, r37, r38, r39, r40, r41, r42, r43, r44, r45, r46, r47, r48, fun _ => rfl, r50, r51, r52, fun _ => rfl, fun _ => rfl, r55, r56, r57, r58⟩
        | 55, hi =>
          obtain rfl := Option.some.inj hi
          have d54 := r54 (hd ⟨54, .data⟩ (by simp) rfl)
          have d49 := r49 (hd ⟨49, .guard⟩ (by simp) rfl)
          simp only [fill, Act.put, List.setIfInBounds_toArray, List.set_cons_zero, List.set_cons_succ, d54, d49]
          go_wp2_with (fail)
          exact ⟨(upd (upd (upd v 109 (.bool true)) 114 (.int .i64 B)) 115 (.int .i64 (-B))), by kernel_rfl, HX, HW, r0, r1, r2, r3, r4, r5, r6, r7, r8, r9, r10, r11, r12, r13, r14, r15, r16, r17, r18, r19, r20, r21, r22, r23, r24, r25, r26, r27, r28, r29, r30, r31, r32, r33, r34, r35, r36, r37, r38, r39, r40, r41, r42, r43, r44, r45, r46, r47, r48, fun _ => rfl, r50, r51, r52, r53, fun _ => rfl, fun _ => rfl, r56, r57, r58⟩
        | 56, hi =>
          obtain rfl := Option.some.inj hi
          have d52 := r52 (hd ⟨52, .data⟩ (by simp) rfl)
          have d55 := r55 (hd ⟨55, .data⟩ (by simp) rfl)
          have d49 := r49 (hd ⟨49, .guard⟩ (by simp) rfl)
          simp only [fill, Act.put, List.setIfInBounds_toArray, List.set_cons_zero, List.set_cons_succ, d52, d55, d49]
          go_wp2_with (fail)
          exact ⟨(upd (upd (upd (upd v 109 (.bool true)) 112 (.int .i64 (-B))) 115 (.int .i64 (-B))) 116 (.bool true)), by kernel_rfl, HX, HW, r0, r1, r2, r3, r4, r5, r6, r7, r8, r9, r10, r11, r12, r13, r14, r15, r16, r17, r18, r19, r20, r21, r22, r23, r24, r25, r26, r27, r28, r29, r30, r31, r32, r33, r34, r35, r36, r37, r38, r39, r40, r41, r42, r43, r44, r45, r46, r47, r48, fun _ => rfl, r50, r51, fun _ => rfl, r53, r54, fun _ => rfl, fun _ => rfl, r57, r58⟩
        | 57, hi =>
          obtain rfl := Option.some.inj hi
          have d49 := r49 (hd ⟨49, .data⟩ (by simp) rfl)
          have d56 := r56 (hd ⟨56, .data⟩ (by simp) rfl)
          simp only [fill, Act.put, List.setIfInBounds_toArray, List.set_cons_zero, List.set_cons_succ, d49, d56]
          go_wp2_with (fail)
          exact ⟨(upd (upd (upd v 109 (.bool true)) 116 (.bool true)) 117 (.bool true)), by kernel_rfl, HX, HW, r0, r1, r2, r3, r4, r5, r6, r7, r8, r9, r10, r11, r12, r13, r14, r15, r16, r17, r18, r19, r20, r21, r22, r23, r24, r25, r26, r27, r28, r29, r30, r31, r32, r33, r34, r35, r36, r37, r38, r39, r40, r41, r42, r43, r44, r45, r46, r47, r48, fun _ => rfl, r50, r51, r52, r53, r54, r55, fun _ => rfl, fun _ => rfl, r58⟩
        | 58, hi =>
          obtain rfl := Option.some.inj hi
          have d57 := r57 (hd ⟨57, .data⟩ (by simp) rfl)
          simp only [fill, Act.put, List.setIfInBounds_toArray, List.set_cons_zero, List.set_cons_succ, d57]
          go_wp2_with (fail)
          exact ⟨(upd (upd v 117 (.bool true)) 12 (.bool true)), by kernel_rfl, HX, HW, r0, r1, r2, r3, r4, r5, r6, r7, r8, r9, r10, r11, r12, r13, r14, r15, r16, r17, r18, r19, r20, r21, r22, r23, r24, r25, r26, r27, r28, r29, r30, r31, r32, r33, r34, r35, r36, r37, r38, r39, r40, r41, r42, r43, r44, r45, r46, r47, r48, r49, r50, r51, r52, r53, r54, r55, r56, fun _ => rfl, fun _ => rfl⟩
        | n + 59, hi => cases hi
      · intro L v w' hL hR
        obtain ⟨HX, HW, rest⟩ := hR
        have e58 := rest.2.2.2.2.2.2.2.2.2.2.2.2.2.2.2.2.2.2.2.2.2.2.2.2.2.2.2.2.2.2.2.2.2.2.2.2.2.2.2.2.2.2.2.2.2.2.2.2.2.2.2.2.2.2.2.2.2.2 (hL 58 (by decide))
        clear rest hL
        simp only [fill, Act.put, List.setIfInBounds_toArray, List.set_cons_zero, List.set_cons_succ, e58]
        go_wp2_with fail
        go_ret
        exact ⟨rfl, HW⟩
end Go.Proofs.Ytdgdpicfloekeaa

/- Walk of the law's Fit: a table that may be, of any. -/
import Derived.Test.YtbldgpemocnboaaTab2
import Derived.Test.YtbldgpemocnboaaRel
namespace Go.Proofs.Ytbldgpemocnboaa
open Go.RowKit
attribute [local go_sem ↓] run_imax run_imin

theorem wpList_build0 {P : Program} {ops : Array Oper} {rest : List Oper} {o : Oper} {a : Act} {w : World} {Q : Exit → Act → World → Prop} (hgd : o.guard = none) (T : TypeId) (ho : o.op = .build T #[]) (v : Value)
    (hz : ∀ w : World, (Instr.build T #[]).run P w = .ok v w)
    (h : wpList P ops Q rest (a.put o.dst v) w) : wpList P ops Q (o :: rest) a w :=
  wpList_plain hgd fun _ hK => by
    unfold Oper.wp execOp
    simp only [ho, Array.map_empty, hz, Sem.run_bind, Sem.run_pure, Result.andThen_ok]
    exact hK _ _ h
theorem buildTab (w : World) : (Instr.build TAB #[]).run Try.prog w = .ok (.agg (fcells 129 (tabV false (fun _ => 0) (fun _ => 0)))) w := by kernel_rfl

theorem tabV_one {t : Bool} {ia ir : Nat → Int} (j : Nat) : (tabV t ia ir j).oneCell' = true := by
  unfold tabV; split <;> (try split) <;> rfl
theorem fit_false (ia ir : Nat → Int) : tabV false (fitv false ia) (fitv false ir) = tabV false (fun _ => 0) (fun _ => 0) := by
  congr 1 <;> (funext j; rfl)
theorem fit_true (ia ir : Nat → Int) : ∀ j, j < 129 → tabV true (fit1 64 ia) (fit1 64 ir) j = tabV true (fitv true ia) (fitv true ir) j := by
  intro j hj
  unfold tabV fit1 fitv
  by_cases e0 : j = 0
  · rw [if_pos e0, if_pos e0]
  · by_cases e2 : j < 65
    · rw [if_neg e0, if_neg e0, if_pos e2, if_pos e2, if_pos (by omega), if_pos rfl]
    · rw [if_neg e0, if_neg e0, if_neg e2, if_neg e2, if_pos (by omega), if_pos rfl]
theorem fit1_zero (f : Nat → Int) : fit1 0 f = f := by funext j; unfold fit1; rw [if_neg (by omega)]

set_option maxRecDepth 100000 in
set_option maxHeartbeats 4000000 in
theorem fit_any (t : Bool) (ia ir : Nat → Int) (w : World) (ha : ∀ j, j < 64 → 0 ≤ ia j ∧ ia j ≤ 255) (hr : ∀ j, j < 64 → 0 ≤ ir j ∧ ir j ≤ 255) :
    Calls Try.prog 21 #[.agg (fcells 129 (tabV t ia ir))] w fun e w' => e = .returned (.agg (fcells 129 (tabV t (fitv t ia) (fitv t ir)))) ∧ Below w.heap.size w w' := by
  have HT : Blk ((w.alloc (.cells (fcells 129 (tabV t ia ir)) TAB)).alloc (.cells (fcells 129 (tabV false (fun _ => 0) (fun _ => 0))) TAB)) w.heap.size TAB 129 (tabV t ia ir) := (Blk.new_at _ _ _ rfl).alloc _
  have HZ : Blk ((w.alloc (.cells (fcells 129 (tabV t ia ir)) TAB)).alloc (.cells (fcells 129 (tabV false (fun _ => 0) (fun _ => 0))) TAB)) (w.heap.size + 1) TAB 129 (tabV false (fun _ => 0) (fun _ => 0)) := Blk.new_at _ _ _ (by simp)
  have HW : Below w.heap.size w ((w.alloc (.cells (fcells 129 (tabV t ia ir)) TAB)).alloc (.cells (fcells 129 (tabV false (fun _ => 0) (fun _ => 0))) TAB)) := ((Below.refl _ _).alloc (Nat.le_refl _) _).alloc (by simp) _
  have c0 := HT.tab0
  cases t
  · rw [fit_false]
    go_enter Try.func21, Try.ntmps21
    go_wp2_with (first | (refine wpList_alloc_blk rfl TAB rfl _ _ allocTab ?_) | (refine wpList_build0 rfl TAB rfl _ buildTab ?_) | (refine wpList_store_blk HZ rfl _ _ _ rfl rfl rfl (by kernel_rfl) (fun j _ => tabV_one j) ?_))
    exact bodyPost_ret (v := .agg (fcells 129 _)) (results_blkS rfl _ (HZ.setRow_same rfl) rfl Try.underlying24 (by kernel_rfl)) rfl ⟨rfl, below_setRow HW (by omega) _⟩
  · go_enter Try.func21, Try.ntmps21
    go_wp2_with (refine wpList_alloc_blk rfl TAB rfl _ _ allocTab ?_)
    generalize (w.alloc (.cells (fcells 129 (tabV true ia ir)) TAB)).alloc (.cells (fcells 129 (tabV false (fun _ => 0) (fun _ => 0))) TAB) = w2 at *
    clear c0
    go_loopw [8] (fun i wr => ∃ k : Nat, k ≤ 64 ∧ i = .int .i64 k ∧ Blk wr w.heap.size TAB 129 (tabV true (fit1 k ia) (fit1 k ir)) ∧ Blk wr (w.heap.size + 1) TAB 129 (tabV false (fun _ => 0) (fun _ => 0)) ∧ Below w.heap.size w wr) (fun i _ => 64 - (intOf i).toNat)
    case atStart => exact ⟨0, by omega, rfl, by rw [fit1_zero, fit1_zero]; exact HT, HZ, HW⟩
    case round =>
      clear HT HZ HW
      obtain ⟨k, hk, rfl, HT, HZ, HW⟩ := hrel
      by_cases hk8 : k < 64
      · have b1 := ha k hk8
        have b2 := hr k hk8
        have i1 : (0 : Int) ≤ k := by omega
        have i2 : (k : Int) < 64 := by omega
        have hd : decide ((k : Int) < 64) = true := by simp; omega
        clear ha hr
        go_wp2_with fail
        refine wp_region_slots2 (by kernel_rfl) (by kernel_rfl) [11, 12, 13, 14, 15, 16, 17, 18, 19, 20, 21, 22, 23, 24, 25, 26] (fun L v w' => (Blk w' w.heap.size TAB 129 (tabV true (fit1 (cond (L 14) (k + 1) k) ia) (fit1 (cond (L 17) (k + 1) k) ir))) ∧ (Blk w' (w.heap.size + 1) TAB 129 (tabV false (fun _ => 0) (fun _ => 0))) ∧ (Below w.heap.size w w') ∧ (L 6 = true → L 5 = true) ∧ (L 14 = true → L 5 = true) ∧ (L 11 = true → L 10 = true) ∧ (L 17 = true → L 10 = true) ∧ (L 0 = true → v 11 = .int .i64 (k : Int)) ∧ (L 1 = true → v 12 = .int .i64 (k : Int)) ∧ (L 2 = true → v 13 = .int .i64 (k : Int)) ∧ (L 3 = true → v 14 = .pointer (some ⟨w.heap.size, 1, none⟩)) ∧ (L 4 = true → v 15 = .pointer (some ⟨w.heap.size, 1 + k, none⟩)) ∧ (L 5 = true → v 16 = .int .u8 (ia k)) ∧ (L 6 = true → v 17 = .int .u8 (imax (ia k) 8)) ∧ (L 7 = true → v 18 = .int .i64 (k : Int)) ∧ (L 8 = true → v 19 = .pointer (some ⟨w.heap.size, 65, none⟩)) ∧ (L 9 = true → v 20 = .pointer (some ⟨w.heap.size, 65 + k, none⟩)) ∧ (L 10 = true → v 21 = .int .u8 (ir k)) ∧ (L 11 = true → v 22 = .int .u8 (imax (ir k) 8)) ∧ (L 12 = true → v 23 = .pointer (some ⟨w.heap.size, 1, none⟩)) ∧ (L 13 = true → v 24 = .pointer (some ⟨w.heap.size, 1 + k, none⟩)) ∧ (L 15 = true → v 25 = .pointer (some ⟨w.heap.size, 65, none⟩)) ∧ (L 16 = true → v 26 = .pointer (some ⟨w.heap.size, 65 + k, none⟩)))
          (fun v => ⟨HT, HZ, HW.drew, (fun h => by cases h), (fun h => by cases h), (fun h => by cases h), (fun h => by cases h), fun h => (by cases h), fun h => (by cases h), fun h => (by cases h), fun h => (by cases h), fun h => (by cases h), fun h => (by cases h), fun h => (by cases h), fun h => (by cases h), fun h => (by cases h), fun h => (by cases h), fun h => (by cases h), fun h => (by cases h), fun h => (by cases h), fun h => (by cases h), fun h => (by cases h), fun h => (by cases h)⟩) ?_ ?_
        · intro i o hi L v w' hn hR hd
          obtain ⟨HT, HZ, HW, I1, I2, I3, I4, r0, r1, r2, r3, r4, r5, r6, r7, r8, r9, r10, r11, r12, r13, r15, r16⟩ := hR
          match i, hi with
          | 0, hi =>
            obtain rfl := Option.some.inj hi
            simp only [fill, Act.put, List.setIfInBounds_toArray, List.set_cons_zero, List.set_cons_succ]
            go_wp2_with (fail)
            exact ⟨(upd v 11 (.int .i64 (k : Int))), by kernel_rfl, HT, HZ, HW, I1, I2, I3, I4, fun _ => rfl, r1, r2, r3, r4, r5, r6, r7, r8, r9, r10, r11, r12, r13, r15, r16⟩
          | 1, hi =>
            obtain rfl := Option.some.inj hi
            simp only [fill, Act.put, List.setIfInBounds_toArray, List.set_cons_zero, List.set_cons_succ]
            go_wp2_with (fail)
            exact ⟨(upd v 12 (.int .i64 (k : Int))), by kernel_rfl, HT, HZ, HW, I1, I2, I3, I4, r0, fun _ => rfl, r2, r3, r4, r5, r6, r7, r8, r9, r10, r11, r12, r13, r15, r16⟩
          | 2, hi =>
            obtain rfl := Option.some.inj hi
            simp only [fill, Act.put, List.setIfInBounds_toArray, List.set_cons_zero, List.set_cons_succ]
            go_wp2_with (fail)
            exact ⟨(upd v 13 (.int .i64 (k : Int))), by kernel_rfl, HT, HZ, HW, I1, I2, I3, I4, r0, r1, fun _ => rfl, r3, r4, r5, r6, r7, r8, r9, r10, r11, r12, r13, r15, r16⟩
          | 3, hi =>
            obtain rfl := Option.some.inj hi
            simp only [fill, Act.put, List.setIfInBounds_toArray, List.set_cons_zero, List.set_cons_succ]
            go_wp2_with (fail)
            exact ⟨(upd v 14 (.pointer (some ⟨w.heap.size, 1, none⟩))), by kernel_rfl, HT, HZ, HW, I1, I2, I3, I4, r0, r1, r2, fun _ => rfl, r4, r5, r6, r7, r8, r9, r10, r11, r12, r13, r15, r16⟩
          | 4, hi =>
            obtain rfl := Option.some.inj hi
            have d3 := r3 (hd ⟨3, .data⟩ (by simp) rfl)
            have d2 := r2 (hd ⟨2, .data⟩ (by simp) rfl)
            simp only [fill, Act.put, List.setIfInBounds_toArray, List.set_cons_zero, List.set_cons_succ, d3, d2]
            go_wp2_with (fail)
            exact ⟨(upd (upd (upd v 13 (.int .i64 (k : Int))) 14 (.pointer (some ⟨w.heap.size, 1, none⟩))) 15 (.pointer (some ⟨w.heap.size, 1 + k, none⟩))), by kernel_rfl, HT, HZ, HW, I1, I2, I3, I4, r0, r1, fun _ => rfl, fun _ => rfl, fun _ => rfl, r5, r6, r7, r8, r9, r10, r11, r12, r13, r15, r16⟩
          | 5, hi =>
            obtain rfl := Option.some.inj hi
            have d4 := r4 (hd ⟨4, .data⟩ (by simp) rfl)
            have h0 : L 14 = false := by
              cases h : L 14 with
              | false => rfl
              | true => exact absurd (I2 h) (by rw [show L 5 = false from hn]; simp)
            have c1 : w'.cell? ⟨w.heap.size, 1 + k, none⟩ = some (.int .u8 (ia k)) := by
              have := HT.tabA hk8
              rw [h0] at this
              simpa [fit1] using this
            simp only [fill, Act.put, List.setIfInBounds_toArray, List.set_cons_zero, List.set_cons_succ, d4]
            go_wp2_with (fail)
            exact ⟨(upd (upd v 15 (.pointer (some ⟨w.heap.size, 1 + k, none⟩))) 16 (.int .u8 (ia k))), by kernel_rfl, HT, HZ, HW, fun _ => rfl, fun _ => rfl, I3, I4, r0, r1, r2, r3, fun _ => rfl, fun _ => rfl, r6, r7, r8, r9, r10, r11, r12, r13, r15, r16⟩
          | 6, hi =>
            obtain rfl := Option.some.inj hi
            have d5 := r5 (hd ⟨5, .data⟩ (by simp) rfl)
            simp only [fill, Act.put, List.setIfInBounds_toArray, List.set_cons_zero, List.set_cons_succ, d5]
            go_wp2_with (fail)
            exact ⟨(upd (upd v 16 (.int .u8 (ia k))) 17 (.int .u8 (imax (ia k) 8))), by kernel_rfl, HT, HZ, HW, fun _ => hd ⟨5, .data⟩ (by simp) rfl, I2, I3, I4, r0, r1, r2, r3, r4, fun _ => rfl, fun _ => rfl, r7, r8, r9, r10, r11, r12, r13, r15, r16⟩
          | 7, hi =>
            obtain rfl := Option.some.inj hi
            simp only [fill, Act.put, List.setIfInBounds_toArray, List.set_cons_zero, List.set_cons_succ]
            go_wp2_with (fail)
            exact ⟨(upd v 18 (.int .i64 (k : Int))), by kernel_rfl, HT, HZ, HW, I1, I2, I3, I4, r0, r1, r2, r3, r4, r5, r6, fun _ => rfl, r8, r9, r10, r11, r12, r13, r15, r16⟩
          | 8, hi =>
            obtain rfl := Option.some.inj hi
            simp only [fill, Act.put, List.setIfInBounds_toArray, List.set_cons_zero, List.set_cons_succ]
            go_wp2_with (fail)
            exact ⟨(upd v 19 (.pointer (some ⟨w.heap.size, 65, none⟩))), by kernel_rfl, HT, HZ, HW, I1, I2, I3, I4, r0, r1, r2, r3, r4, r5, r6, r7, fun _ => rfl, r9, r10, r11, r12, r13, r15, r16⟩
          | 9, hi =>
            obtain rfl := Option.some.inj hi
            have d8 := r8 (hd ⟨8, .data⟩ (by simp) rfl)
            have d7 := r7 (hd ⟨7, .data⟩ (by simp) rfl)
            simp only [fill, Act.put, List.setIfInBounds_toArray, List.set_cons_zero, List.set_cons_succ, d8, d7]
            go_wp2_with (fail)
            exact ⟨(upd (upd (upd v 18 (.int .i64 (k : Int))) 19 (.pointer (some ⟨w.heap.size, 65, none⟩))) 20 (.pointer (some ⟨w.heap.size, 65 + k, none⟩))), by kernel_rfl, HT, HZ, HW, I1, I2, I3, I4, r0, r1, r2, r3, r4, r5, r6, fun _ => rfl, fun _ => rfl, fun _ => rfl, r10, r11, r12, r13, r15, r16⟩
          | 10, hi =>
            obtain rfl := Option.some.inj hi
            have d9 := r9 (hd ⟨9, .data⟩ (by simp) rfl)
            have h0 : L 17 = false := by
              cases h : L 17 with
              | false => rfl
              | true => exact absurd (I4 h) (by rw [show L 10 = false from hn]; simp)
            have c1 : w'.cell? ⟨w.heap.size, 65 + k, none⟩ = some (.int .u8 (ir k)) := by
              have := HT.tabR hk8
              rw [h0] at this
              simpa [fit1] using this
            simp only [fill, Act.put, List.setIfInBounds_toArray, List.set_cons_zero, List.set_cons_succ, d9]
            go_wp2_with (fail)
            exact ⟨(upd (upd v 20 (.pointer (some ⟨w.heap.size, 65 + k, none⟩))) 21 (.int .u8 (ir k))), by kernel_rfl, HT, HZ, HW, I1, I2, fun _ => rfl, fun _ => rfl, r0, r1, r2, r3, r4, r5, r6, r7, r8, fun _ => rfl, fun _ => rfl, r11, r12, r13, r15, r16⟩
          | 11, hi =>
            obtain rfl := Option.some.inj hi
            have d10 := r10 (hd ⟨10, .data⟩ (by simp) rfl)
            simp only [fill, Act.put, List.setIfInBounds_toArray, List.set_cons_zero, List.set_cons_succ, d10]
            go_wp2_with (fail)
            exact ⟨(upd (upd v 21 (.int .u8 (ir k))) 22 (.int .u8 (imax (ir k) 8))), by kernel_rfl, HT, HZ, HW, I1, I2, fun _ => hd ⟨10, .data⟩ (by simp) rfl, I4, r0, r1, r2, r3, r4, r5, r6, r7, r8, r9, fun _ => rfl, fun _ => rfl, r12, r13, r15, r16⟩
          | 12, hi =>
            obtain rfl := Option.some.inj hi
            simp only [fill, Act.put, List.setIfInBounds_toArray, List.set_cons_zero, List.set_cons_succ]
            go_wp2_with (fail)
            exact ⟨(upd v 23 (.pointer (some ⟨w.heap.size, 1, none⟩))), by kernel_rfl, HT, HZ, HW, I1, I2, I3, I4, r0, r1, r2, r3, r4, r5, r6, r7, r8, r9, r10, r11, fun _ => rfl, r13, r15, r16⟩
          | 13, hi =>
            obtain rfl := Option.some.inj hi
            have d12 := r12 (hd ⟨12, .data⟩ (by simp) rfl)
            have d0 := r0 (hd ⟨0, .data⟩ (by simp) rfl)
            simp only [fill, Act.put, List.setIfInBounds_toArray, List.set_cons_zero, List.set_cons_succ, d12, d0]
            go_wp2_with (fail)
            exact ⟨(upd (upd (upd v 11 (.int .i64 (k : Int))) 23 (.pointer (some ⟨w.heap.size, 1, none⟩))) 24 (.pointer (some ⟨w.heap.size, 1 + k, none⟩))), by kernel_rfl, HT, HZ, HW, I1, I2, I3, I4, fun _ => rfl, r1, r2, r3, r4, r5, r6, r7, r8, r9, r10, r11, fun _ => rfl, fun _ => rfl, r15, r16⟩
          | 14, hi =>
            obtain rfl := Option.some.inj hi
            have d13 := r13 (hd ⟨13, .data⟩ (by simp) rfl)
            have d6 := r6 (hd ⟨6, .data⟩ (by simp) rfl)
            have hn : L 14 = false := hn
            rw [hn] at HT
            have c1 := HT.tabA hk8
            have f1 := HT.free (1 + k)
            simp only [fill, Act.put, List.setIfInBounds_toArray, List.set_cons_zero, List.set_cons_succ, d13, d6]
            go_wp2_with (fail)
            exact ⟨(upd (upd v 17 (.int .u8 (imax (ia k) 8))) 24 (.pointer (some ⟨w.heap.size, 1 + k, none⟩))), by kernel_rfl, HT.fitA hk8, HZ.other (by omega) _ _, HW.setCell (p := ⟨w.heap.size, 1 + k, none⟩) (Nat.le_refl _) _, I1, fun _ => I1 (hd ⟨6, .data⟩ (by simp) rfl), I3, I4, r0, r1, r2, r3, r4, r5, fun _ => rfl, r7, r8, r9, r10, r11, r12, fun _ => rfl, r15, r16⟩
          | 15, hi =>
            obtain rfl := Option.some.inj hi
            simp only [fill, Act.put, List.setIfInBounds_toArray, List.set_cons_zero, List.set_cons_succ]
            go_wp2_with (fail)
            exact ⟨(upd v 25 (.pointer (some ⟨w.heap.size, 65, none⟩))), by kernel_rfl, HT, HZ, HW, I1, I2, I3, I4, r0, r1, r2, r3, r4, r5, r6, r7, r8, r9, r10, r11, r12, r13, fun _ => rfl, r16⟩
          | 16, hi =>
            obtain rfl := Option.some.inj hi
            have d15 := r15 (hd ⟨15, .data⟩ (by simp) rfl)
            have d1 := r1 (hd ⟨1, .data⟩ (by simp) rfl)
            simp only [fill, Act.put, List.setIfInBounds_toArray, List.set_cons_zero, List.set_cons_succ, d15, d1]
            go_wp2_with (fail)
            exact ⟨(upd (upd (upd v 12 (.int .i64 (k : Int))) 25 (.pointer (some ⟨w.heap.size, 65, none⟩))) 26 (.pointer (some ⟨w.heap.size, 65 + k, none⟩))), by kernel_rfl, HT, HZ, HW, I1, I2, I3, I4, r0, fun _ => rfl, r2, r3, r4, r5, r6, r7, r8, r9, r10, r11, r12, r13, fun _ => rfl, fun _ => rfl⟩
          | 17, hi =>
            obtain rfl := Option.some.inj hi
            have d16 := r16 (hd ⟨16, .data⟩ (by simp) rfl)
            have d11 := r11 (hd ⟨11, .data⟩ (by simp) rfl)
            have hn : L 17 = false := hn
            rw [hn] at HT
            have c1 := HT.tabR hk8
            have f1 := HT.free (65 + k)
            simp only [fill, Act.put, List.setIfInBounds_toArray, List.set_cons_zero, List.set_cons_succ, d16, d11]
            go_wp2_with (fail)
            exact ⟨(upd (upd v 22 (.int .u8 (imax (ir k) 8))) 26 (.pointer (some ⟨w.heap.size, 65 + k, none⟩))), by kernel_rfl, HT.fitR hk8, HZ.other (by omega) _ _, HW.setCell (p := ⟨w.heap.size, 65 + k, none⟩) (Nat.le_refl _) _, I1, I2, I3, fun _ => I3 (hd ⟨11, .data⟩ (by simp) rfl), r0, r1, r2, r3, r4, r5, r6, r7, r8, r9, r10, fun _ => rfl, r12, r13, r15, fun _ => rfl⟩
          | n + 18, hi => cases hi
        · intro L v w' hL hR
          obtain ⟨HT, HZ, HW, -⟩ := hR
          rw [hL 14 (by decide), hL 17 (by decide)] at HT
          simp only [fill, Act.put, List.setIfInBounds_toArray, List.set_cons_zero, List.set_cons_succ]
          clear hL
          go_wp2_with fail
          exact ⟨⟨k + 1, by omega, by go_num, HT, HZ, HW⟩, by simp [intOf]; omega⟩
      · obtain rfl : k = 64 := by omega
        have HT := HT.congr (fit_true ia ir)
        go_wp2_with (first | (refine wpList_load_blkS HT rfl _ _ rfl rfl Try.underlying24 (by kernel_rfl) ?_) | (refine wpList_store_blk HZ rfl _ _ _ rfl rfl rfl (by kernel_rfl) (fun j _ => tabV_one j) ?_))
        exact bodyPost_ret (v := .agg (fcells 129 _)) (results_blkS rfl _ (HZ.setRow_same rfl) rfl Try.underlying24 (by kernel_rfl)) rfl ⟨rfl, below_setRow HW (by omega) _⟩
end Go.Proofs.Ytbldgpemocnboaa

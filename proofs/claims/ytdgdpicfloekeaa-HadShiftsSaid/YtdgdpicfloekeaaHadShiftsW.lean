/- Walk of the law HadShifts: true at every input. -/
import Derived.Test.YtdgdpicfloekeaaThree
import Derived.StillTailTactics
import Derived.BigQuiet
import Derived.Deep.QuietTactic
namespace Go.Proofs.Ytdgdpicfloekeaa
open Go.RowKit
attribute [local go_sem ↓] run_imax run_imin

set_option maxRecDepth 100000 in
set_option maxHeartbeats 4000000 in
theorem hadShifts_walk (a : Nat → Int) (c : Int) (w : World) (ha : ∀ j, j < 64 → -32768 ≤ a j ∧ a j ≤ 32767) (hc : -32768 ≤ c ∧ c ≤ 32767) :
    Calls Try.prog 6 #[.agg (fcells 64 (i16val a)), .int .i16 c] w fun e w' => e = .returned (.bool true) ∧ Below w.heap.size w w' := by
  go_enter Try.func6, Try.ntmps6
  go_wp2_with fail
  refine (awake7 _).mono ?_
  rintro e w1 ⟨rfl, hb1⟩
  have HA : Blk w1 w.heap.size 27 64 (i16val a) := (Blk.new_at _ _ _ rfl).below hb1 (by simp)
  have HW : Below w.heap.size w w1 := ((Below.refl _ _).alloc (Nat.le_refl _) _).trans (hb1.mono (by simp))
  have hlt := HA.lt
  clear hb1
  go_wp2_with (refine wpList_alloc_blk rfl 28 rfl _ _ alloc28 ?_)
  obtain ⟨w2, hw2⟩ : ∃ w2, w2 = ((w1.alloc (.cells (fcells 64 (ival fun _ => 0)) 28)).alloc (.cells (fcells 64 (ival fun _ => 0)) 28)).alloc (.cells (fcells 64 (ival fun _ => 0)) 28) := ⟨_, rfl⟩
  have HX : Blk w2 w1.heap.size 28 64 (ival fun _ => 0) := by rw [hw2]; exact ((Blk.new_at _ _ _ rfl).alloc _).alloc _
  have HY : Blk w2 (w1.heap.size + 1) 28 64 (ival fun _ => 0) := by rw [hw2]; exact (Blk.new_at _ _ _ (by simp)).alloc _
  have HZ : Blk w2 (w1.heap.size + 1 + 1) 28 64 (ival fun _ => 0) := by rw [hw2]; exact Blk.new_at _ _ _ (by simp)
  have HA : Blk w2 w.heap.size 27 64 (i16val a) := by rw [hw2]; exact ((HA.alloc _).alloc _).alloc _
  have HW : Below w.heap.size w w2 := by rw [hw2]; exact ((HW.alloc HW.size _).alloc (by have := HW.size; simp; omega) _).alloc (by have := HW.size; simp; omega) _
  rw [← hw2]; clear hw2
  generalize w1.heap.size = bx at *
  go_loopw [17] (fun i wr => ∃ k : Nat, k ≤ 64 ∧ i = .int .i64 k ∧ Blk wr w.heap.size 27 64 (i16val a) ∧
      Blk wr bx 28 64 (fillV k (ival a) (ival fun _ => 0)) ∧ Blk wr (bx + 1) 28 64 (fillV k (ival fun j => a j + c) (ival fun _ => 0)) ∧ Blk wr (bx + 1 + 1) 28 64 (fillV k (ival fun i => a (i / 8 * 8 + 7 - i % 8)) (ival fun _ => 0)) ∧ Below w.heap.size w wr)
    (fun i _ => 64 - (intOf i).toNat)
  case atStart => exact ⟨0, by omega, rfl, HA, HX.fill_none, HY.fill_none, HZ.fill_none, HW⟩
  case round =>
    clear HA HX HY HZ HW
    obtain ⟨k, hk, rfl, HA, HX, HY, HZ, HW⟩ := hrel
    by_cases hk8 : k < 64
    · have b1 := ha k hk8
      have hd : decide ((k : Int) < 64) = true := by simp; omega
      go_wp2_with fail
      refine wp_region_slots2 (by kernel_rfl) (by kernel_rfl) [20, 21, 22, 23, 24, 25, 26, 27, 28, 29, 30, 31, 32, 33, 34] (fun L v w' => (Blk w' w.heap.size 27 64 (i16val a)) ∧ (Blk w' bx 28 64 (cond (L 14) (fillV (k + 1) (ival a) (ival fun _ => 0)) (fillV k (ival a) (ival fun _ => 0)))) ∧ (Blk w' (bx + 1) 28 64 (cond (L 16) (fillV (k + 1) (ival fun j => a j + c) (ival fun _ => 0)) (fillV k (ival fun j => a j + c) (ival fun _ => 0)))) ∧ (Blk w' (bx + 1 + 1) 28 64 (fillV k (ival fun i => a (i / 8 * 8 + 7 - i % 8)) (ival fun _ => 0))) ∧ (Below w.heap.size w w') ∧ (L 0 = true → v 20 = .int .i64 (k : Int)) ∧ (L 1 = true → v 21 = .int .i64 (k : Int)) ∧ (L 2 = true → v 22 = .int .i64 (k : Int)) ∧ (L 3 = true → v 23 = .pointer (some ⟨w.heap.size, k, none⟩)) ∧ (L 4 = true → v 24 = .int .i16 (a k)) ∧ (L 5 = true → v 25 = .int .i64 (a k)) ∧ (L 6 = true → v 26 = .int .i64 (k : Int)) ∧ (L 7 = true → v 27 = .pointer (some ⟨w.heap.size, k, none⟩)) ∧ (L 8 = true → v 28 = .int .i16 (a k)) ∧ (L 9 = true → v 29 = .int .i64 (a k)) ∧ (L 10 = true → v 30 = .int .i16 c) ∧ (L 11 = true → v 31 = .int .i64 c) ∧ (L 12 = true → v 32 = .int .i64 (a k + c)) ∧ (L 13 = true → v 33 = .pointer (some ⟨bx, k, none⟩)) ∧ (L 15 = true → v 34 = .pointer (some ⟨bx + 1, k, none⟩)))
        (fun v => ⟨HA, HX, HY, HZ, HW.drew, fun h => (by cases h), fun h => (by cases h), fun h => (by cases h), fun h => (by cases h), fun h => (by cases h), fun h => (by cases h), fun h => (by cases h), fun h => (by cases h), fun h => (by cases h), fun h => (by cases h), fun h => (by cases h), fun h => (by cases h), fun h => (by cases h), fun h => (by cases h), fun h => (by cases h)⟩) ?_ ?_
      · intro i o hi L v w' hn hR hd
        obtain ⟨HA, HX, HY, HZ, HW, r0, r1, r2, r3, r4, r5, r6, r7, r8, r9, r10, r11, r12, r13, r15⟩ := hR
        match i, hi with
        | 0, hi =>
          obtain rfl := Option.some.inj hi
          simp only [fill, Act.put, List.setIfInBounds_toArray, List.set_cons_zero, List.set_cons_succ]
          go_wp2_with (fail)
          exact ⟨(upd v 20 (.int .i64 (k : Int))), by kernel_rfl, HA, HX, HY, HZ, HW, fun _ => rfl, r1, r2, r3, r4, r5, r6, r7, r8, r9, r10, r11, r12, r13, r15⟩
        | 1, hi =>
          obtain rfl := Option.some.inj hi
          simp only [fill, Act.put, List.setIfInBounds_toArray, List.set_cons_zero, List.set_cons_succ]
          go_wp2_with (fail)
          exact ⟨(upd v 21 (.int .i64 (k : Int))), by kernel_rfl, HA, HX, HY, HZ, HW, r0, fun _ => rfl, r2, r3, r4, r5, r6, r7, r8, r9, r10, r11, r12, r13, r15⟩
        | 2, hi =>
          obtain rfl := Option.some.inj hi
          simp only [fill, Act.put, List.setIfInBounds_toArray, List.set_cons_zero, List.set_cons_succ]
          go_wp2_with (fail)
          exact ⟨(upd v 22 (.int .i64 (k : Int))), by kernel_rfl, HA, HX, HY, HZ, HW, r0, r1, fun _ => rfl, r3, r4, r5, r6, r7, r8, r9, r10, r11, r12, r13, r15⟩
        | 3, hi =>
          obtain rfl := Option.some.inj hi
          have d2 := r2 (hd ⟨2, .data⟩ (by simp) rfl)
          simp only [fill, Act.put, List.setIfInBounds_toArray, List.set_cons_zero, List.set_cons_succ, d2]
          go_wp2_with (fail)
          exact ⟨(upd (upd v 22 (.int .i64 (k : Int))) 23 (.pointer (some ⟨w.heap.size, k, none⟩))), by kernel_rfl, HA, HX, HY, HZ, HW, r0, r1, fun _ => rfl, fun _ => rfl, r4, r5, r6, r7, r8, r9, r10, r11, r12, r13, r15⟩
        | 4, hi =>
          obtain rfl := Option.some.inj hi
          have d3 := r3 (hd ⟨3, .data⟩ (by simp) rfl)
          have c1 : w'.cell? ⟨w.heap.size, k, none⟩ = some (.int .i16 (a k)) := HA.cell hk8
          simp only [fill, Act.put, List.setIfInBounds_toArray, List.set_cons_zero, List.set_cons_succ, d3]
          go_wp2_with (fail)
          exact ⟨(upd (upd v 23 (.pointer (some ⟨w.heap.size, k, none⟩))) 24 (.int .i16 (a k))), by kernel_rfl, HA, HX, HY, HZ, HW, r0, r1, r2, fun _ => rfl, fun _ => rfl, r5, r6, r7, r8, r9, r10, r11, r12, r13, r15⟩
        | 5, hi =>
          obtain rfl := Option.some.inj hi
          have d4 := r4 (hd ⟨4, .data⟩ (by simp) rfl)
          simp only [fill, Act.put, List.setIfInBounds_toArray, List.set_cons_zero, List.set_cons_succ, d4]
          go_wp2_with (fail)
          exact ⟨(upd (upd v 24 (.int .i16 (a k))) 25 (.int .i64 (a k))), by kernel_rfl, HA, HX, HY, HZ, HW, r0, r1, r2, r3, fun _ => rfl, fun _ => rfl, r6, r7, r8, r9, r10, r11, r12, r13, r15⟩
        | 6, hi =>
          obtain rfl := Option.some.inj hi
          simp only [fill, Act.put, List.setIfInBounds_toArray, List.set_cons_zero, List.set_cons_succ]
          go_wp2_with (fail)
          exact ⟨(upd v 26 (.int .i64 (k : Int))), by kernel_rfl, HA, HX, HY, HZ, HW, r0, r1, r2, r3, r4, r5, fun _ => rfl, r7, r8, r9, r10, r11, r12, r13, r15⟩
        | 7, hi =>
          obtain rfl := Option.some.inj hi
          have d6 := r6 (hd ⟨6, .data⟩ (by simp) rfl)
          simp only [fill, Act.put, List.setIfInBounds_toArray, List.set_cons_zero, List.set_cons_succ, d6]
          go_wp2_with (fail)
          exact ⟨(upd (upd v 26 (.int .i64 (k : Int))) 27 (.pointer (some ⟨w.heap.size, k, none⟩))), by kernel_rfl, HA, HX, HY, HZ, HW, r0, r1, r2, r3, r4, r5, fun _ => rfl, fun _ => rfl, r8, r9, r10, r11, r12, r13, r15⟩
        | 8, hi =>
          obtain rfl := Option.some.inj hi
          have d7 := r7 (hd ⟨7, .data⟩ (by simp) rfl)
          have c1 : w'.cell? ⟨w.heap.size, k, none⟩ = some (.int .i16 (a k)) := HA.cell hk8
          simp only [fill, Act.put, List.setIfInBounds_toArray, List.set_cons_zero, List.set_cons_succ, d7]
          go_wp2_with (fail)
          exact ⟨(upd (upd v 27 (.pointer (some ⟨w.heap.size, k, none⟩))) 28 (.int .i16 (a k))), by kernel_rfl, HA, HX, HY, HZ, HW, r0, r1, r2, r3, r4, r5, r6, fun _ => rfl, fun _ => rfl, r9, r10, r11, r12, r13, r15⟩
        | 9, hi =>
          obtain rfl := Option.some.inj hi
          have d8 := r8 (hd ⟨8, .data⟩ (by simp) rfl)
          simp only [fill, Act.put, List.setIfInBounds_toArray, List.set_cons_zero, List.set_cons_succ, d8]
          go_wp2_with (fail)
          exact ⟨(upd (upd v 28 (.int .i16 (a k))) 29 (.int .i64 (a k))), by kernel_rfl, HA, HX, HY, HZ, HW, r0, r1, r2, r3, r4, r5, r6, r7, fun _ => rfl, fun _ => rfl, r10, r11, r12, r13, r15⟩
        | 10, hi =>
          obtain rfl := Option.some.inj hi
          simp only [fill, Act.put, List.setIfInBounds_toArray, List.set_cons_zero, List.set_cons_succ]
          go_wp2_with (fail)
          exact ⟨(upd v 30 (.int .i16 c)), by kernel_rfl, HA, HX, HY, HZ, HW, r0, r1, r2, r3, r4, r5, r6, r7, r8, r9, fun _ => rfl, r11, r12, r13, r15⟩
        | 11, hi =>
          obtain rfl := Option.some.inj hi
          have d10 := r10 (hd ⟨10, .data⟩ (by simp) rfl)
          simp only [fill, Act.put, List.setIfInBounds_toArray, List.set_cons_zero, List.set_cons_succ, d10]
          go_wp2_with (fail)
          exact ⟨(upd (upd v 30 (.int .i16 c)) 31 (.int .i64 c)), by kernel_rfl, HA, HX, HY, HZ, HW, r0, r1, r2, r3, r4, r5, r6, r7, r8, r9, fun _ => rfl, fun _ => rfl, r12, r13, r15⟩
        | 12, hi =>
          obtain rfl := Option.some.inj hi
          have d9 := r9 (hd ⟨9, .data⟩ (by simp) rfl)
          have d11 := r11 (hd ⟨11, .data⟩ (by simp) rfl)
          simp only [fill, Act.put, List.setIfInBounds_toArray, List.set_cons_zero, List.set_cons_succ, d9, d11]
          go_wp2_with (fail)
          exact ⟨(upd (upd (upd v 29 (.int .i64 (a k))) 31 (.int .i64 c)) 32 (.int .i64 (a k + c))), by kernel_rfl, HA, HX, HY, HZ, HW, r0, r1, r2, r3, r4, r5, r6, r7, r8, fun _ => rfl, r10, fun _ => rfl, fun _ => rfl, r13, r15⟩
        | 13, hi =>
          obtain rfl := Option.some.inj hi
          have d0 := r0 (hd ⟨0, .data⟩ (by simp) rfl)
          simp only [fill, Act.put, List.setIfInBounds_toArray, List.set_cons_zero, List.set_cons_succ, d0]
          go_wp2_with (fail)
          exact ⟨(upd (upd v 20 (.int .i64 (k : Int))) 33 (.pointer (some ⟨bx, k, none⟩))), by kernel_rfl, HA, HX, HY, HZ, HW, fun _ => rfl, r1, r2, r3, r4, r5, r6, r7, r8, r9, r10, r11, r12, fun _ => rfl, r15⟩
        | 14, hi =>
          obtain rfl := Option.some.inj hi
          have d13 := r13 (hd ⟨13, .data⟩ (by simp) rfl)
          have d5 := r5 (hd ⟨5, .data⟩ (by simp) rfl)
          have hn : L 14 = false := hn
          rw [hn] at HX
          have c1 : w'.cell? ⟨bx, k, none⟩ = some (.int .i64 0) := HX.fill_cell hk8
          have f1 := HX.free k
          simp only [fill, Act.put, List.setIfInBounds_toArray, List.set_cons_zero, List.set_cons_succ, d13, d5]
          go_wp2_with (fail)
          exact ⟨(upd (upd v 25 (.int .i64 (a k))) 33 (.pointer (some ⟨bx, k, none⟩))), by kernel_rfl, HA.other (by omega) _ _, HX.fill, HY.other (by omega) _ _, HZ.other (by omega) _ _, HW.setCell (p := ⟨bx, k, none⟩) (by show _ ≤ bx; omega) _, r0, r1, r2, r3, r4, fun _ => rfl, r6, r7, r8, r9, r10, r11, r12, fun _ => rfl, r15⟩
        | 15, hi =>
          obtain rfl := Option.some.inj hi
          have d1 := r1 (hd ⟨1, .data⟩ (by simp) rfl)
          simp only [fill, Act.put, List.setIfInBounds_toArray, List.set_cons_zero, List.set_cons_succ, d1]
          go_wp2_with (fail)
          exact ⟨(upd (upd v 21 (.int .i64 (k : Int))) 34 (.pointer (some ⟨bx + 1, k, none⟩))), by kernel_rfl, HA, HX, HY, HZ, HW, r0, fun _ => rfl, r2, r3, r4, r5, r6, r7, r8, r9, r10, r11, r12, r13, fun _ => rfl⟩
        | 16, hi =>
          obtain rfl := Option.some.inj hi
          have d15 := r15 (hd ⟨15, .data⟩ (by simp) rfl)
          have d12 := r12 (hd ⟨12, .data⟩ (by simp) rfl)
          have hn : L 16 = false := hn
          rw [hn] at HY
          have c1 : w'.cell? ⟨bx + 1, k, none⟩ = some (.int .i64 0) := HY.fill_cell hk8
          have f1 := HY.free k
          simp only [fill, Act.put, List.setIfInBounds_toArray, List.set_cons_zero, List.set_cons_succ, d15, d12]
          go_wp2_with (fail)
          exact ⟨(upd (upd v 32 (.int .i64 (a k + c))) 34 (.pointer (some ⟨bx + 1, k, none⟩))), by kernel_rfl, HA.other (by omega) _ _, HX.other (by omega) _ _, HY.fill, HZ.other (by omega) _ _, HW.setCell (p := ⟨bx + 1, k, none⟩) (by show _ ≤ bx + 1; omega) _, r0, r1, r2, r3, r4, r5, r6, r7, r8, r9, r10, r11, fun _ => rfl, r13, fun _ => rfl⟩
        | n + 17, hi => cases hi
      · intro L v w' hL hR
        obtain ⟨HA, HX, HY, HZ, HW, -⟩ := hR
        rw [hL 14 (by decide)] at HX
        rw [hL 16 (by decide)] at HY
        simp only [fill, Act.put, List.setIfInBounds_toArray, List.set_cons_zero, List.set_cons_succ]
        clear hL
        have e1 : Int.tdiv (k : Int) 8 = ((k / 8 : Nat) : Int) := rfl
        have e2 : Int.tmod (k : Int) 8 = ((k % 8 : Nat) : Int) := rfl
        have hm : k / 8 * 8 + 7 - k % 8 < 64 := by omega
        have e3 : ((k / 8 : Nat) : Int) * 8 + 7 - ((k % 8 : Nat) : Int) = ((k / 8 * 8 + 7 - k % 8 : Nat) : Int) := by omega
        have m1 : ((k / 8 : Nat) : Int) ≤ 7 := by omega
        have m2 : (0 : Int) ≤ ((k / 8 : Nat) : Int) := by omega
        have m3 : ((k % 8 : Nat) : Int) ≤ 7 := by omega
        have m4 : (0 : Int) ≤ ((k % 8 : Nat) : Int) := by omega
        have c1 : w'.cell? ⟨w.heap.size, k / 8 * 8 + 7 - k % 8, none⟩ = some (.int .i16 (a (k / 8 * 8 + 7 - k % 8))) := HA.cell hm
        have b2 := ha _ hm
        have c2 : w'.cell? ⟨bx + 1 + 1, k, none⟩ = some (.int .i64 0) := HZ.fill_cell hk8
        have f2 := HZ.free k
        go_wp2_with fail
        exact ⟨⟨k + 1, by omega, by go_num, HA.other (by omega) _ _, HX.other (by omega) _ _, HY.other (by omega) _ _, HZ.fill, HW.setCell (p := ⟨bx + 1 + 1, k, none⟩) (by show _ ≤ bx + 1 + 1; omega) _⟩, by simp [intOf]; omega⟩
    · obtain rfl : k = 64 := by omega
      have HX := HX.fill_all
      have HY := HY.fill_all
      have HZ := HZ.fill_all
      have hax : ∀ j, j < 64 → -65536 ≤ a j ∧ a j ≤ 65536 := fun j hj => by have := ha j hj; omega
      have hbx : ∀ j, j < 64 → -65536 ≤ (fun j => a j + c) j ∧ (fun j => a j + c) j ≤ 65536 := fun j hj => by have := ha j hj; dsimp only; omega
      have hcx : ∀ j, j < 64 → -65536 ≤ (fun i => a (i / 8 * 8 + 7 - i % 8)) j ∧ (fun i => a (i / 8 * 8 + 7 - i % 8)) j ≤ 65536 := fun j hj => by have := ha (j / 8 * 8 + 7 - j % 8) (by omega); dsimp only; omega
      have hf1 : ∀ j, j < 64 → -4194304 ≤ fwdF a j ∧ fwdF a j ≤ 4194304 := fun j hj => by have := rowsF_bd (rowsF_bd hax) j hj; unfold fwdF; omega
      go_wp2_with fail
      generalize hby : bx + 1 = by_ at *
      generalize hbz : by_ + 1 = bz at *
      refine wp_region_slots2 (by kernel_rfl) (by kernel_rfl) [48, 49, 50, 51, 52, 53, 9, 10, 11] (fun L v w' => Blk w' bx 28 64 (ival a) ∧ Blk w' by_ 28 64 (ival (fun j => a j + c)) ∧ Blk w' bz 28 64 (ival (fun i => a (i / 8 * 8 + 7 - i % 8))) ∧ Below w.heap.size w w' ∧ (L 0 = true → v 48 = .agg (fcells 64 (ival a))) ∧ (L 1 = true → v 49 = .agg (fcells 64 (ival (fwdF a)))) ∧ (L 2 = true → v 50 = .agg (fcells 64 (ival (fun j => a j + c)))) ∧ (L 3 = true → v 51 = .agg (fcells 64 (ival (fwdF (fun j => a j + c))))) ∧ (L 4 = true → v 52 = .agg (fcells 64 (ival (fun i => a (i / 8 * 8 + 7 - i % 8))))) ∧ (L 5 = true → v 53 = .agg (fcells 64 (ival (fwdF (fun i => a (i / 8 * 8 + 7 - i % 8)))))) ∧ Slot w' (L 6) (L 9) (v 9) bz (ival (fwdF a)) ∧ Slot w' (L 7) (L 10) (v 10) bz (ival (fwdF (fun j => a j + c))) ∧ Slot w' (L 8) (L 11) (v 11) bz (ival (fwdF (fun i => a (i / 8 * 8 + 7 - i % 8)))) ∧ (L 6 = true → L 7 = true → v 9 ≠ v 10) ∧ (L 6 = true → L 8 = true → v 9 ≠ v 11) ∧ (L 7 = true → L 8 = true → v 10 ≠ v 11))
        (fun v => ⟨HX, HY, HZ, HW.drew, fun h => (by cases h), fun h => (by cases h), fun h => (by cases h), fun h => (by cases h), fun h => (by cases h), fun h => (by cases h), Slot.none _ _ _ _, Slot.none _ _ _ _, Slot.none _ _ _ _, fun h => (by cases h), fun h => (by cases h), fun h => (by cases h)⟩) ?_ ?_
      · intro i o hi L v w' hn hR hd
        obtain ⟨HX, HY, HZ, HW, r0, r1, r2, r3, r4, r5, s6, s7, s8, n1, n2, n3⟩ := hR
        match i, hi with
        | 0, hi =>
          obtain rfl := Option.some.inj hi
          simp only [fill, Act.put, List.setIfInBounds_toArray, List.set_cons_zero, List.set_cons_succ]
          go_wp2_with (refine wpList_load_blk HX rfl _ _ rfl rfl und28 (by kernel_rfl) ?_)
          exact ⟨upd v 48 (av a), by kernel_rfl, HX, HY, HZ, HW, fun _ => rfl, r1, r2, r3, r4, r5, s6, s7, s8, n1, n2, n3⟩
        | 1, hi =>
          obtain rfl := Option.some.inj hi
          have d0 := r0 (hd ⟨0, .data⟩ (by simp) rfl)
          simp only [fill, Act.put, List.setIfInBounds_toArray, List.set_cons_zero, List.set_cons_succ, d0]
          go_wp2_with fail
          refine (forward_any a _ 65536 (by omega) hax).mono ?_
          rintro e w'' ⟨rfl, hb⟩
          go_wp2_with fail
          exact ⟨upd (upd v 48 (av a)) 49 (av (fwdF a)), by kernel_rfl, HX.below hb HX.lt, HY.below hb HY.lt, HZ.below hb HZ.lt, HW.trans (hb.mono HW.size), fun _ => rfl, fun _ => rfl, r2, r3, r4, r5, s6.below hb, s7.below hb, s8.below hb, n1, n2, n3⟩
        | 2, hi =>
          obtain rfl := Option.some.inj hi
          simp only [fill, Act.put, List.setIfInBounds_toArray, List.set_cons_zero, List.set_cons_succ]
          go_wp2_with (refine wpList_load_blk HY rfl _ _ rfl rfl und28 (by kernel_rfl) ?_)
          exact ⟨upd v 50 (av (fun j => a j + c)), by kernel_rfl, HX, HY, HZ, HW, r0, r1, fun _ => rfl, r3, r4, r5, s6, s7, s8, n1, n2, n3⟩
        | 3, hi =>
          obtain rfl := Option.some.inj hi
          have d0 := r2 (hd ⟨2, .data⟩ (by simp) rfl)
          simp only [fill, Act.put, List.setIfInBounds_toArray, List.set_cons_zero, List.set_cons_succ, d0]
          go_wp2_with fail
          refine (forward_any (fun j => a j + c) _ 65536 (by omega) hbx).mono ?_
          rintro e w'' ⟨rfl, hb⟩
          go_wp2_with fail
          exact ⟨upd (upd v 50 (av (fun j => a j + c))) 51 (av (fwdF (fun j => a j + c))), by kernel_rfl, HX.below hb HX.lt, HY.below hb HY.lt, HZ.below hb HZ.lt, HW.trans (hb.mono HW.size), r0, r1, fun _ => rfl, fun _ => rfl, r4, r5, s6.below hb, s7.below hb, s8.below hb, n1, n2, n3⟩
        | 4, hi =>
          obtain rfl := Option.some.inj hi
          simp only [fill, Act.put, List.setIfInBounds_toArray, List.set_cons_zero, List.set_cons_succ]
          go_wp2_with (refine wpList_load_blk HZ rfl _ _ rfl rfl und28 (by kernel_rfl) ?_)
          exact ⟨upd v 52 (av (fun i => a (i / 8 * 8 + 7 - i % 8))), by kernel_rfl, HX, HY, HZ, HW, r0, r1, r2, r3, fun _ => rfl, r5, s6, s7, s8, n1, n2, n3⟩
        | 5, hi =>
          obtain rfl := Option.some.inj hi
          have d0 := r4 (hd ⟨4, .data⟩ (by simp) rfl)
          simp only [fill, Act.put, List.setIfInBounds_toArray, List.set_cons_zero, List.set_cons_succ, d0]
          go_wp2_with fail
          refine (forward_any (fun i => a (i / 8 * 8 + 7 - i % 8)) _ 65536 (by omega) hcx).mono ?_
          rintro e w'' ⟨rfl, hb⟩
          go_wp2_with fail
          exact ⟨upd (upd v 52 (av (fun i => a (i / 8 * 8 + 7 - i % 8)))) 53 (av (fwdF (fun i => a (i / 8 * 8 + 7 - i % 8)))), by kernel_rfl, HX.below hb HX.lt, HY.below hb HY.lt, HZ.below hb HZ.lt, HW.trans (hb.mono HW.size), r0, r1, r2, r3, fun _ => rfl, fun _ => rfl, s6.below hb, s7.below hb, s8.below hb, n1, n2, n3⟩
        | 6, hi =>
          obtain rfl := Option.some.inj hi
          simp only [fill, Act.put, List.setIfInBounds_toArray, List.set_cons_zero, List.set_cons_succ]
          go_wp2_with (refine wpList_alloc_blk rfl 28 rfl _ _ alloc28 ?_)
          have hn : L 6 = false := hn
          rw [hn] at s6
          exact ⟨upd v 9 (.pointer (some ⟨w'.heap.size, 0, none⟩)), by kernel_rfl, HX.alloc _, HY.alloc _, HZ.alloc _, HW.alloc HW.size _, r0, r1, r2, r3, r4, r5, s6.new HZ.lt _, s7.alloc _, s8.alloc _, fun _ h => (s7.fresh h).symm, fun _ h => (s8.fresh h).symm, n3⟩
        | 7, hi =>
          obtain rfl := Option.some.inj hi
          simp only [fill, Act.put, List.setIfInBounds_toArray, List.set_cons_zero, List.set_cons_succ]
          go_wp2_with (refine wpList_alloc_blk rfl 28 rfl _ _ alloc28 ?_)
          have hn : L 7 = false := hn
          rw [hn] at s7
          exact ⟨upd v 10 (.pointer (some ⟨w'.heap.size, 0, none⟩)), by kernel_rfl, HX.alloc _, HY.alloc _, HZ.alloc _, HW.alloc HW.size _, r0, r1, r2, r3, r4, r5, s6.alloc _, s7.new HZ.lt _, s8.alloc _, fun h _ => s6.fresh h, n2, fun _ h => (s8.fresh h).symm⟩
        | 8, hi =>
          obtain rfl := Option.some.inj hi
          simp only [fill, Act.put, List.setIfInBounds_toArray, List.set_cons_zero, List.set_cons_succ]
          go_wp2_with (refine wpList_alloc_blk rfl 28 rfl _ _ alloc28 ?_)
          have hn : L 8 = false := hn
          rw [hn] at s8
          exact ⟨upd v 11 (.pointer (some ⟨w'.heap.size, 0, none⟩)), by kernel_rfl, HX.alloc _, HY.alloc _, HZ.alloc _, HW.alloc HW.size _, r0, r1, r2, r3, r4, r5, s6.alloc _, s7.alloc _, s8.new HZ.lt _, n1, fun h _ => s6.fresh h, fun h _ => s7.fresh h⟩
        | 9, hi =>
          obtain rfl := Option.some.inj hi
          have m6 := hd ⟨6, .phase⟩ (by simp) rfl
          have m7 := hd ⟨7, .phase⟩ (by simp) rfl
          have m8 := hd ⟨8, .phase⟩ (by simp) rfl
          have d0 := r1 (hd ⟨1, .data⟩ (by simp) rfl)
          obtain ⟨bq, gq, eq1, ltq, B, -⟩ := s6.2 m6
          have N1 := n1 m6 m7
          have N2 := n2 m6 m8
          have N3 := n3 m7 m8
          simp only [fill, Act.put, List.setIfInBounds_toArray, List.set_cons_zero, List.set_cons_succ, d0, eq1]
          go_wp2_with (refine wpList_store_blk B rfl _ _ _ rfl rfl rfl (by kernel_rfl) (fun j _ => rfl) ?_)
          exact ⟨upd (upd v 49 (av (fwdF a))) 9 (.pointer (some ⟨bq, 0, none⟩)), by kernel_rfl, HX.setRow (by omega) _, HY.setRow (by omega) _, HZ.setRow (by omega) _, below_setRow HW (by omega) _, r0, fun _ => rfl, r2, r3, r4, r5, ⟨fun _ => m6, fun _ => ⟨bq, _, rfl, ltq, B.setRow_same rfl, fun _ => rfl⟩⟩, s7.setRow (fun _ q => N1 (by rw [eq1, q])) _, s8.setRow (fun _ q => N2 (by rw [eq1, q])) _, fun _ _ => fun q => N1 (eq1.trans q), fun _ _ => fun q => N2 (eq1.trans q), n3⟩
        | 10, hi =>
          obtain rfl := Option.some.inj hi
          have m6 := hd ⟨6, .phase⟩ (by simp) rfl
          have m7 := hd ⟨7, .phase⟩ (by simp) rfl
          have m8 := hd ⟨8, .phase⟩ (by simp) rfl
          have d0 := r3 (hd ⟨3, .data⟩ (by simp) rfl)
          obtain ⟨bq, gq, eq1, ltq, B, -⟩ := s7.2 m7
          have N1 := n1 m6 m7
          have N2 := n2 m6 m8
          have N3 := n3 m7 m8
          simp only [fill, Act.put, List.setIfInBounds_toArray, List.set_cons_zero, List.set_cons_succ, d0, eq1]
          go_wp2_with (refine wpList_store_blk B rfl _ _ _ rfl rfl rfl (by kernel_rfl) (fun j _ => rfl) ?_)
          exact ⟨upd (upd v 51 (av (fwdF (fun j => a j + c)))) 10 (.pointer (some ⟨bq, 0, none⟩)), by kernel_rfl, HX.setRow (by omega) _, HY.setRow (by omega) _, HZ.setRow (by omega) _, below_setRow HW (by omega) _, r0, r1, r2, fun _ => rfl, r4, r5, s6.setRow (fun _ q => N1 (by rw [q, eq1])) _, ⟨fun _ => m7, fun _ => ⟨bq, _, rfl, ltq, B.setRow_same rfl, fun _ => rfl⟩⟩, s8.setRow (fun _ q => N3 (by rw [eq1, q])) _, fun _ _ => fun q => N1 (q.trans eq1.symm), n2, fun _ _ => fun q => N3 (eq1.trans q)⟩
        | 11, hi =>
          obtain rfl := Option.some.inj hi
          have m6 := hd ⟨6, .phase⟩ (by simp) rfl
          have m7 := hd ⟨7, .phase⟩ (by simp) rfl
          have m8 := hd ⟨8, .phase⟩ (by simp) rfl
          have d0 := r5 (hd ⟨5, .data⟩ (by simp) rfl)
          obtain ⟨bq, gq, eq1, ltq, B, -⟩ := s8.2 m8
          have N1 := n1 m6 m7
          have N2 := n2 m6 m8
          have N3 := n3 m7 m8
          simp only [fill, Act.put, List.setIfInBounds_toArray, List.set_cons_zero, List.set_cons_succ, d0, eq1]
          go_wp2_with (refine wpList_store_blk B rfl _ _ _ rfl rfl rfl (by kernel_rfl) (fun j _ => rfl) ?_)
          exact ⟨upd (upd v 53 (av (fwdF (fun i => a (i / 8 * 8 + 7 - i % 8))))) 11 (.pointer (some ⟨bq, 0, none⟩)), by kernel_rfl, HX.setRow (by omega) _, HY.setRow (by omega) _, HZ.setRow (by omega) _, below_setRow HW (by omega) _, r0, r1, r2, r3, r4, fun _ => rfl, s6.setRow (fun _ q => N2 (by rw [q, eq1])) _, s7.setRow (fun _ q => N3 (by rw [q, eq1])) _, ⟨fun _ => m8, fun _ => ⟨bq, _, rfl, ltq, B.setRow_same rfl, fun _ => rfl⟩⟩, n1, fun _ _ => fun q => N2 (q.trans eq1.symm), fun _ _ => fun q => N3 (q.trans eq1.symm)⟩
        | n + 12, hi => cases hi
      · intro L v w' hL hR
        obtain ⟨HX, HY, HZ, HW, -, -, -, -, -, -, s6, s7, s8, n1, n2, n3⟩ := hR
        have m6 := hL 6 (by decide)
        have m7 := hL 7 (by decide)
        have m8 := hL 8 (by decide)
        obtain ⟨b1, g1, e1, l1, B1, q1⟩ := s6.2 m6
        obtain ⟨b2, g2, e2, l2, B2, q2⟩ := s7.2 m7
        obtain ⟨b3, g3, e3, l3, B3, q3⟩ := s8.2 m8
        obtain rfl := q1 (hL 9 (by decide))
        obtain rfl := q2 (hL 10 (by decide))
        obtain rfl := q3 (hL 11 (by decide))
        simp only [fill, Act.put, List.setIfInBounds_toArray, List.set_cons_zero, List.set_cons_succ, e1, e2, e3]
        clear hL s6 s7 s8 n1 n2 n3 m6 m7 m8 e1 e2 e3
        clear hcx hbx HX HY HZ
        go_wp2_with fail
        go_loopw [12, 13, 14, 54] (fun _ _ _ i wi => ∃ k : Nat, k ≤ 64 ∧ i = .int .i64 k ∧
            Blk wi b1 28 64 (ival (fwdF a)) ∧ Blk wi b2 28 64 (ival (fwdF fun j => a j + c)) ∧ Blk wi b3 28 64 (ival (fwdF fun i => a (i / 8 * 8 + 7 - i % 8))) ∧ Below w.heap.size w wi) (fun _ _ _ i _ => 64 - (intOf i).toNat)
        case atStart => exact ⟨0, by omega, rfl, B1, B2, B3, HW⟩
        case round =>
          clear B1 B2 B3 HW
          obtain ⟨k, hk, rfl, B1, B2, B3, HW⟩ := hrel
          by_cases hk8 : k < 64
          · have c1 : wr.cell? ⟨b1, k, none⟩ = some (.int .i64 (fwdF a k)) := B1.cell hk8
            have c2 : wr.cell? ⟨b2, k, none⟩ = some (.int .i64 (if k = 0 then fwdF a k + 64 * c else fwdF a k)) := by
              rw [← fwd_shift a c k hk8]; exact B2.cell hk8
            have c3 : wr.cell? ⟨b3, k, none⟩ = some (.int .i64 (if k % 2 = 1 then -fwdF a k else fwdF a k)) := by
              rw [← fwd_turn a k]; exact B3.cell hk8
            have b1' := hf1 k hk8
            have i1 : (0 : Int) ≤ k := by omega
            have i2 : (k : Int) < 64 := by omega
            have hd : decide ((k : Int) < 64) = true := by simp; omega
            have e2 : Int.tmod (k : Int) 2 = ((k % 2 : Nat) : Int) := rfl
            clear hf1 hax ha
            generalize fwdF a k = P1 at *
            by_cases h0 : k = 0
            · subst h0
              simp only [if_true] at c2 c3
              go_wp2_with fail
              exact ⟨⟨1, by omega, by go_num, B1, B2, B3, HW⟩, by simp [intOf]⟩
            · rw [if_neg h0] at c2
              have h0' : ¬ (k : Int) = 0 := by omega
              by_cases ho : k % 2 = 1
              · rw [if_pos ho] at c3
                rw [ho] at e2
                go_wp2_with fail
                exact ⟨⟨k + 1, by omega, by go_num, B1, B2, B3, HW⟩, by simp [intOf]; omega⟩
              · rw [if_neg ho] at c3
                rw [show k % 2 = 0 by omega] at e2
                go_wp2_with fail
                exact ⟨⟨k + 1, by omega, by go_num, B1, B2, B3, HW⟩, by simp [intOf]; omega⟩
          · obtain rfl : k = 64 := by omega
            go_wp2_with fail
            go_ret
            exact ⟨by simp, HW⟩
end Go.Proofs.Ytdgdpicfloekeaa

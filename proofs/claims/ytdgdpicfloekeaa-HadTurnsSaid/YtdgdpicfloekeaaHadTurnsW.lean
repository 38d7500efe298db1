/- Walk of the law HadTurns: true at every input. -/
import Derived.Test.YtdgdpicfloekeaaHad5
import Derived.Test.YtdgdpicfloekeaaReg
import Derived.Test.YtdgdpicfloekeaaEq
import Derived.Deep.MidRow
namespace Go.Proofs.Ytdgdpicfloekeaa
open Go.RowKit
attribute [local go_sem ↓] run_imax run_imin

def two (f g : Nat → Value) (j : Nat) : Value := if j < 64 then f j else g (j - 64)
theorem run_build2 (f g : Nat → Value) (W : World) :
    (Instr.buildSlice 45 2 #[(0, .agg (fcells 64 f)), (1, .agg (fcells 64 g))]).run Try.prog W = .ok (.slice (some ⟨W.heap.size, 0, none⟩) 2 2) (W.alloc (.cells (fcells 128 (two f g)) 28)) := by kernel_rfl

theorem wpList_build2 {ops : Array Oper} {rest : List Oper} {o : Oper} {a : Act} {w : World} {Q : Exit → Act → World → Prop} {f g : Nat → Value} (hgd : o.guard = none) (x y : Operand)
    (ho : o.op = .buildSlice 45 2 #[(0, x), (1, y)]) (hx : a.eval x = .agg (fcells 64 f)) (hy : a.eval y = .agg (fcells 64 g))
    (h : wpList Try.prog ops Q rest (a.put o.dst (.slice (some ⟨w.heap.size, 0, none⟩) 2 2)) (w.alloc (.cells (fcells 128 (two f g)) 28))) : wpList Try.prog ops Q (o :: rest) a w :=
  wpList_plain hgd fun _ hK => by
    unfold Oper.wp execOp
    have e : (#[(0, x), (1, y)].map fun (p : Nat × Operand) => (p.1, a.eval p.2)) = #[(0, a.eval x), (1, a.eval y)] := by simp
    simp only [ho, e, hx, hy, run_build2, Sem.run_bind, Sem.run_pure, Result.andThen_ok]
    exact hK _ _ h

def i16val (f : Nat → Int) (j : Nat) : Value := .int .i16 (f j)
theorem und27 : Try.prog.underlying 27 = some (.array 64 26) := by kernel_rfl
/-- 64 ints as a value. -/
def av (f : Nat → Int) : Value := .agg (fcells 64 (ival f))
def pick2 (i : Nat) (f g : Nat → Int) : Nat → Int := if i = 0 then f else g
theorem two_range {w : World} {b : Nat} {T : TypeId} {f g : Nat → Int} (h : Blk w b T 128 (two (ival f) (ival g))) (i : Nat) (hi : i < 2) :
    w.rangeAt b (i * 64) ((List.range 64).map (ival (pick2 i f g))) := by
  unfold pick2
  intro j v hv
  have hj : j < 64 := by
    have := (List.getElem?_eq_some_iff.1 hv).1
    simpa using this
  rw [h.cell (by omega)]
  rw [List.getElem?_map, List.getElem?_range hj] at hv
  rw [← hv]
  unfold two
  by_cases e : i = 0
  · subst e; rw [if_pos (by omega)]; simp
  · obtain rfl : i = 1 := by omega
    rw [if_neg (by omega)]; simp

theorem wpList_load_two {ops : Array Oper} {rest : List Oper} {o : Oper} {a : Act} {w : World} {Q : Exit → Act → World → Prop} {b : Nat} {T : TypeId} {f g : Nat → Int} {i : Nat}
    (H : Blk w b T 128 (two (ival f) (ival g))) (hi : i < 2) (hgd : o.guard = none) (x : Operand) (ho : o.op = .load 28 x) (hx : a.eval x = .pointer (some ⟨b, i * 64, none⟩))
    (h : wpList Try.prog ops Q rest (a.put o.dst (.agg (fcells 64 (ival (pick2 i f g))))) w) : wpList Try.prog ops Q (o :: rest) a w :=
  wpList_load_mid hgd _ x ho b (i * 64) hx _ _ (two_range H i hi) und28 rfl (by rw [List.length_map, List.length_range]; kernel_rfl) h

theorem eq_ff28 {f g : Nat → Int} (e : ∀ j, j < 64 → f j = g j) (W : World) : (Op.equalIn 10000 28 (.agg (fcells 64 (ival f))) (.agg (fcells 64 (ival g)))).run Try.prog W = .ok true W := by
  have h := run_eq_ints (P := Try.prog) W 28 3 64 .i64 f g und28 (by kernel_rfl) (by kernel_rfl) (by kernel_rfl)
  have e2 : ((List.range 64).all fun j => f j == g j) = true := by
    rw [List.all_eq_true]; intro j hj; rw [e j (by simpa using hj)]; simp
  rw [e2] at h
  exact h

set_option maxRecDepth 100000 in
set_option maxHeartbeats 2000000 in
theorem hadTurns_walk (f c : Nat → Int) (w : World) (hc : ∀ j, j < 64 → -32768 ≤ c j ∧ c j ≤ 32767) :
    Calls Try.prog 10 #[.agg (fcells 64 (ival f)), .agg (fcells 64 (i16val c))] w fun e w' => e = .returned (.bool true) ∧ Below w.heap.size w w' := by
  have hnb := near_bd f
  go_enter Try.func10, Try.ntmps10
  go_wp2_with fail
  refine (awake7 _).mono ?_
  rintro e w1 ⟨rfl, hb1⟩
  have HB : Blk w1 w.heap.size 28 64 (ival f) := ((Blk.new_at _ _ _ rfl).alloc _).below hb1 (by simp; omega)
  have HC : Blk w1 (w.heap.size + 1) 27 64 (i16val c) := (Blk.new_at _ _ _ (by simp)).below hb1 (by simp)
  have HW : Below w.heap.size w w1 := (((Below.refl _ _).alloc (Nat.le_refl _) _).alloc (by simp) _).trans (hb1.mono (by simp; omega))
  have hlt := HC.lt
  clear hb1
  go_wp2_with (first | (refine wpList_alloc_blk rfl 28 rfl _ _ alloc28 ?_) | (refine wpList_load_blk (HC.alloc _) rfl _ _ rfl rfl und27 (by kernel_rfl) ?_))
  have HX : Blk (w1.alloc (.cells (fcells 64 (ival fun _ => 0)) 28)) w1.heap.size 28 64 (ival fun _ => 0) := Blk.new_at _ _ _ rfl
  have HB := HB.alloc (.cells (fcells 64 (ival fun _ => 0)) 28)
  have HW := HW.alloc HW.size (.cells (fcells 64 (ival fun _ => 0)) 28)
  clear HC
  generalize w1.heap.size = bx at *
  go_loopw [13] (fun i wr => ∃ k : Nat, k ≤ 64 ∧ i = .int .i64 k ∧ Blk wr w.heap.size 28 64 (ival f) ∧ Blk wr bx 28 64 (fillV k (ival c) (ival fun _ => 0)) ∧ Below w.heap.size w wr) (fun i _ => 64 - (intOf i).toNat)
  case atStart => exact ⟨0, by omega, rfl, HB, HX.fill_none, HW⟩
  case round =>
    clear HB HX HW
    obtain ⟨k, hk, rfl, HB, HX, HW⟩ := hrel
    by_cases hk8 : k < 64
    · have hix : ∀ W, (Instr.index 27 (.agg (fcells 64 (i16val c))) (.int .i64 (k : Int))).run Try.prog W = .ok (.int .i16 (c k)) W := fun W =>
        run_index_fcells W _ _ 64 (i16val c) k und27 (by kernel_rfl) (by kernel_rfl) (by omega) (by omega)
      have c1 : wr.cell? ⟨bx, k, none⟩ = some (.int .i64 0) := HX.fill_cell hk8
      have f1 := HX.free k
      have b1 := hc k hk8
      clear hnb hc
      go_wp2_with fail
      refine ⟨⟨k + 1, by omega, by go_num, HB.other (by omega) _ _, HX.fill, HW.setCell (p := ⟨bx, k, none⟩) (by show _ ≤ bx; omega) _⟩, by simp [intOf]; omega⟩
    · obtain rfl : k = 64 := by omega
      have HX := HX.fill_all
      go_wp2_with fail
      refine wp_region_slots (by kernel_rfl) (by kernel_rfl) [22, 23, 24, 25, 26, 27] (fun L v w' => Blk w' w.heap.size 28 64 (ival f) ∧ Blk w' bx 28 64 (ival c) ∧ Below w.heap.size w w' ∧
          (L 0 = true → v 22 = .agg (fcells 64 (ival f))) ∧ (L 1 = true → v 23 = .agg (fcells 64 (ival (near f)))) ∧ (L 2 = true → v 24 = .agg (fcells 64 (ival c))) ∧
          (L 3 = true → ∃ bs, v 25 = .slice (some ⟨bs, 0, none⟩) 2 2 ∧ Blk w' bs 28 128 (two (ival (near f)) (ival c)) ∧ w.heap.size ≤ bs) ∧ (L 4 = true → v 26 = .int .i64 2) ∧ (L 5 = true → v 27 = .int .i64 0))
          (fun v => ⟨HB, HX, HW.drew, fun h => (by cases h), fun h => (by cases h), fun h => (by cases h), fun h => (by cases h), fun h => (by cases h), fun h => (by cases h)⟩) ?_ ?_
      · intro i o hi L v w' hR hd
        obtain ⟨HB, HX, HW, r0, r1, r2, r3, r4, r5⟩ := hR
        match i, hi with
        | 0, hi =>
          obtain rfl := Option.some.inj hi
          simp only [fill, Act.put, List.setIfInBounds_toArray, List.set_cons_zero, List.set_cons_succ]
          go_wp2_with (refine wpList_load_blk HB rfl _ _ rfl rfl und28 (by kernel_rfl) ?_)
          exact ⟨upd v 22 _, rfl, HB, HX, HW, fun _ => rfl, r1, r2, r3, r4, r5⟩
        | 1, hi =>
          obtain rfl := Option.some.inj hi
          have d0 := r0 (hd ⟨0, .data⟩ (by simp) rfl)
          simp only [fill, Act.put, List.setIfInBounds_toArray, List.set_cons_zero, List.set_cons_succ, d0]
          go_wp2_with fail
          refine (near_any f _).mono ?_
          rintro e w'' ⟨rfl, hb⟩
          go_wp2_with fail
          refine ⟨upd (upd v 22 _) 23 _, rfl, HB.below hb HB.lt, HX.below hb HX.lt, HW.trans (hb.mono HW.size), fun _ => rfl, fun _ => rfl, r2, fun h => ?_, r4, r5⟩
          obtain ⟨bs, h1, h2, h3⟩ := r3 h
          exact ⟨bs, h1, h2.below hb h2.lt, h3⟩
        | 2, hi =>
          obtain rfl := Option.some.inj hi
          simp only [fill, Act.put, List.setIfInBounds_toArray, List.set_cons_zero, List.set_cons_succ]
          go_wp2_with (refine wpList_load_blk HX rfl _ _ rfl rfl und28 (by kernel_rfl) ?_)
          exact ⟨upd v 24 _, rfl, HB, HX, HW, r0, r1, fun _ => rfl, r3, r4, r5⟩
        | 3, hi =>
          obtain rfl := Option.some.inj hi
          have d0 := r1 (hd ⟨1, .data⟩ (by simp) rfl)
          have d1 := r2 (hd ⟨2, .data⟩ (by simp) rfl)
          simp only [fill, Act.put, List.setIfInBounds_toArray, List.set_cons_zero, List.set_cons_succ, d0, d1]
          go_wp2_with (refine wpList_build2 rfl _ _ rfl rfl rfl ?_)
          exact ⟨upd (upd (upd v 23 _) 24 _) 25 _, rfl, HB.alloc _, HX.alloc _, HW.alloc HW.size _, r0, fun _ => rfl, fun _ => rfl, fun _ => ⟨_, rfl, Blk.new_at _ _ _ rfl, HW.size⟩, r4, r5⟩
        | 4, hi =>
          obtain rfl := Option.some.inj hi
          obtain ⟨bs, d0, h2, h3⟩ := r3 (hd ⟨3, .data⟩ (by simp) rfl)
          simp only [fill, Act.put, List.setIfInBounds_toArray, List.set_cons_zero, List.set_cons_succ, d0]
          go_wp2_with fail
          exact ⟨upd (upd v 25 _) 26 _, rfl, HB, HX, HW, r0, r1, r2, fun _ => ⟨bs, rfl, h2, h3⟩, fun _ => rfl, r5⟩
        | 5, hi =>
          obtain rfl := Option.some.inj hi
          simp only [fill, Act.put, List.setIfInBounds_toArray, List.set_cons_zero, List.set_cons_succ]
          go_wp2_with fail
          exact ⟨upd v 27 _, rfl, HB, HX, HW, r0, r1, r2, r3, r4, fun _ => rfl⟩
        | n + 6, hi => cases hi
      · intro L v w' hL hR
        obtain ⟨-, -, HW, -, -, -, r3, r4, r5⟩ := hR
        obtain ⟨bs, d0, HS, hbs⟩ := r3 (hL 3 (by decide))
        have d1 := r4 (hL 4 (by decide))
        have d2 := r5 (hL 5 (by decide))
        clear r3 r4 r5 hL HB HX
        simp only [fill, Act.put, List.setIfInBounds_toArray, List.set_cons_zero, List.set_cons_succ, d0, d1, d2]
        clear d0 d1 d2
        generalize v 22 = s22
        generalize v 23 = s23
        generalize v 24 = s24
        clear v L
        go_wp2_with fail
        go_loopw [27] (fun i wi => ∃ k : Nat, k ≤ 2 ∧ i = .int .i64 k ∧ Blk wi bs 28 128 (two (ival (near f)) (ival c)) ∧ Below w.heap.size w wi) (fun i _ => 2 - (intOf i).toNat)
        case atStart => exact ⟨0, by omega, rfl, HS, HW⟩
        case round =>
          clear HS HW
          obtain ⟨k, hk, rfl, HS, HW⟩ := hrel
          by_cases hk2 : k < 2
          · have hd : decide ((k : Int) < 2) = true := by simp; omega
            go_wp2_with (first | (refine wpList_load_two HS hk2 rfl _ rfl rfl ?_) | (refine wpList_alloc_blk rfl 28 rfl _ _ alloc28 ?_) | (refine wpList_store_blk (Blk.new_at _ _ _ rfl) rfl _ _ _ rfl rfl rfl (by kernel_rfl) (fun j _ => rfl) ?_))
            have HXb : ∀ j, j < 64 → -1099511627776 ≤ pick2 k (near f) c j ∧ pick2 k (near f) c j ≤ 1099511627776 := fun j hj => by
              unfold pick2
              split
              · exact hnb j
              · have := hc j hj; omega
            generalize pick2 k (near f) c = X at *
            have HX : Blk ((wr.alloc (.cells (fcells 64 (ival fun _ => 0)) 28)).setRow wr.heap.size (fcells 64 (ival X))) wr.heap.size 28 64 (ival X) := (Blk.new_at _ _ _ rfl).setRow_same rfl
            have hne : wr.heap.size ≠ bs := by have := HS.lt; omega
            have HS := (HS.alloc (.cells (fcells 64 (ival fun _ => 0)) 28)).setRow hne (fcells 64 (ival X))
            have HW := below_setRow (HW.alloc HW.size (.cells (fcells 64 (ival fun _ => 0)) 28)) (b := wr.heap.size) HW.size (fcells 64 (ival X))
            generalize ((wr.alloc (.cells (fcells 64 (ival fun _ => 0)) 28)).setRow wr.heap.size (fcells 64 (ival X))) = W3 at *
            generalize wr.heap.size = b9 at *
            clear hne
            try simp only [Act.put]
            refine wp_region_slots (by kernel_rfl) (by kernel_rfl) [31, 32, 33, 34, 35, 36, 37, 38, 39, 40, 41, 42] (fun L v w' => Blk w' b9 28 64 (ival X) ∧ Blk w' bs 28 128 (two (ival (near f)) (ival c)) ∧ Below w.heap.size w w' ∧
              (L 0 = true → v 31 = .agg (fcells 64 (ival X))) ∧ (L 1 = true → v 32 = .agg (fcells 64 (ival (fwdF X)))) ∧ (L 2 = true → v 33 = .agg (fcells 64 (ival X))) ∧ (L 3 = true → v 34 = .agg (fcells 64 (ival (reff X)))) ∧
              (L 4 = true → v 35 = .bool false) ∧ (L 5 = true → v 36 = .bool false) ∧
              (L 6 = true → v 37 = .agg (fcells 64 (ival X))) ∧ (L 7 = true → v 38 = .agg (fcells 64 (ival (invF X)))) ∧ (L 8 = true → v 39 = .agg (fcells 64 (ival X))) ∧ (L 9 = true → v 40 = .agg (fcells 64 (ival (invr X)))) ∧
              (L 10 = true → v 41 = .bool false) ∧ (L 11 = true → v 42 = .bool false))
              (fun v => ⟨HX, HS, HW.drew, fun h => (by cases h), fun h => (by cases h), fun h => (by cases h), fun h => (by cases h), fun h => (by cases h), fun h => (by cases h), fun h => (by cases h), fun h => (by cases h), fun h => (by cases h), fun h => (by cases h), fun h => (by cases h), fun h => (by cases h)⟩) ?_ ?_
            · intro i o hi L v w' hR hd
              obtain ⟨HX, HS, HW, r0, r1, r2, r3, r4, r5, r6, r7, r8, r9, r10, r11⟩ := hR
              match i, hi with
              | 0, hi =>
                obtain rfl := Option.some.inj hi
                simp only [fill, Act.put, List.setIfInBounds_toArray, List.set_cons_zero, List.set_cons_succ]
                go_wp2_with (refine wpList_load_blk HX rfl _ _ rfl rfl und28 (by kernel_rfl) ?_)
                exact ⟨upd v 31 (av X), by kernel_rfl, HX, HS, HW, fun _ => rfl, r1, r2, r3, r4, r5, r6, r7, r8, r9, r10, r11⟩
              | 1, hi =>
                obtain rfl := Option.some.inj hi
                have d0 := r0 (hd ⟨0, .data⟩ (by simp) rfl)
                simp only [fill, Act.put, List.setIfInBounds_toArray, List.set_cons_zero, List.set_cons_succ, d0]
                go_wp2_with fail
                refine (forward_any X _ 1099511627776 (by omega) HXb).mono ?_
                rintro e w'' ⟨rfl, hb⟩
                go_wp2_with fail
                exact ⟨upd (upd v 31 (av X)) 32 (av (fwdF X)), by kernel_rfl, HX.below hb HX.lt, HS.below hb HS.lt, HW.trans (hb.mono HW.size), fun _ => rfl, fun _ => rfl, r2, r3, r4, r5, r6, r7, r8, r9, r10, r11⟩
              | 2, hi =>
                obtain rfl := Option.some.inj hi
                simp only [fill, Act.put, List.setIfInBounds_toArray, List.set_cons_zero, List.set_cons_succ]
                go_wp2_with (refine wpList_load_blk HX rfl _ _ rfl rfl und28 (by kernel_rfl) ?_)
                exact ⟨upd v 33 (av X), by kernel_rfl, HX, HS, HW, r0, r1, fun _ => rfl, r3, r4, r5, r6, r7, r8, r9, r10, r11⟩
              | 3, hi =>
                obtain rfl := Option.some.inj hi
                have d2 := r2 (hd ⟨2, .data⟩ (by simp) rfl)
                simp only [fill, Act.put, List.setIfInBounds_toArray, List.set_cons_zero, List.set_cons_succ, d2]
                go_wp2_with fail
                refine (rforward_any X _ 1099511627776 (by omega) HXb).mono ?_
                rintro e w'' ⟨rfl, hb⟩
                go_wp2_with fail
                exact ⟨upd (upd v 33 (av X)) 34 (av (reff X)), by kernel_rfl, HX.below hb HX.lt, HS.below hb HS.lt, HW.trans (hb.mono HW.size), r0, r1, fun _ => rfl, fun _ => rfl, r4, r5, r6, r7, r8, r9, r10, r11⟩
              | 4, hi =>
                obtain rfl := Option.some.inj hi
                have d1 := r1 (hd ⟨1, .data⟩ (by simp) rfl)
                have d3 := r3 (hd ⟨3, .data⟩ (by simp) rfl)
                have hq := eq_ff28 (f := fwdF X) (g := reff X) (fun j _ => (reff_eq X j).symm)
                simp only [fill, Act.put, List.setIfInBounds_toArray, List.set_cons_zero, List.set_cons_succ, d1, d3]
                go_wp2_with fail
                exact ⟨upd (upd (upd v 32 (av (fwdF X))) 34 (av (reff X))) 35 (.bool false), by kernel_rfl, HX, HS, HW, r0, fun _ => rfl, r2, fun _ => rfl, fun _ => rfl, r5, r6, r7, r8, r9, r10, r11⟩
              | 5, hi =>
                obtain rfl := Option.some.inj hi
                have d4 := r4 (hd ⟨4, .data⟩ (by simp) rfl)
                simp only [fill, Act.put, List.setIfInBounds_toArray, List.set_cons_zero, List.set_cons_succ, d4]
                go_wp2_with fail
                exact ⟨upd (upd v 35 (.bool false)) 36 (.bool false), by kernel_rfl, HX, HS, HW, r0, r1, r2, r3, fun _ => rfl, fun _ => rfl, r6, r7, r8, r9, r10, r11⟩
              | 6, hi =>
                obtain rfl := Option.some.inj hi
                have d5 := r5 (hd ⟨5, .guard⟩ (by simp) rfl)
                simp only [fill, Act.put, List.setIfInBounds_toArray, List.set_cons_zero, List.set_cons_succ, d5]
                go_wp2_with (refine wpList_load_blk_g HX rfl _ _ rfl rfl und28 (by kernel_rfl) ?_)
                exact ⟨upd (upd v 36 (.bool false)) 37 (av X), by kernel_rfl, HX, HS, HW, r0, r1, r2, r3, r4, fun _ => rfl, fun _ => rfl, r7, r8, r9, r10, r11⟩
              | 7, hi =>
                obtain rfl := Option.some.inj hi
                have d6 := r6 (hd ⟨6, .data⟩ (by simp) rfl)
                have d5 := r5 (hd ⟨5, .guard⟩ (by simp) rfl)
                simp only [fill, Act.put, List.setIfInBounds_toArray, List.set_cons_zero, List.set_cons_succ, d6, d5]
                go_wp2_with fail
                refine (inverse_any X _ 1099511627776 (by omega) HXb).mono ?_
                rintro e w'' ⟨rfl, hb⟩
                go_wp2_with fail
                exact ⟨upd (upd (upd v 36 (.bool false)) 37 (av X)) 38 (av (invF X)), by kernel_rfl, HX.below hb HX.lt, HS.below hb HS.lt, HW.trans (hb.mono HW.size), r0, r1, r2, r3, r4, fun _ => rfl, fun _ => rfl, fun _ => rfl, r8, r9, r10, r11⟩
              | 8, hi =>
                obtain rfl := Option.some.inj hi
                have d5 := r5 (hd ⟨5, .guard⟩ (by simp) rfl)
                simp only [fill, Act.put, List.setIfInBounds_toArray, List.set_cons_zero, List.set_cons_succ, d5]
                go_wp2_with (refine wpList_load_blk_g HX rfl _ _ rfl rfl und28 (by kernel_rfl) ?_)
                exact ⟨upd (upd v 36 (.bool false)) 39 (av X), by kernel_rfl, HX, HS, HW, r0, r1, r2, r3, r4, fun _ => rfl, r6, r7, fun _ => rfl, r9, r10, r11⟩
              | 9, hi =>
                obtain rfl := Option.some.inj hi
                have d8 := r8 (hd ⟨8, .data⟩ (by simp) rfl)
                have d5 := r5 (hd ⟨5, .guard⟩ (by simp) rfl)
                simp only [fill, Act.put, List.setIfInBounds_toArray, List.set_cons_zero, List.set_cons_succ, d8, d5]
                go_wp2_with fail
                refine (rinverse_any X _ 1099511627776 (by omega) HXb).mono ?_
                rintro e w'' ⟨rfl, hb⟩
                go_wp2_with fail
                exact ⟨upd (upd (upd v 36 (.bool false)) 39 (av X)) 40 (av (invr X)), by kernel_rfl, HX.below hb HX.lt, HS.below hb HS.lt, HW.trans (hb.mono HW.size), r0, r1, r2, r3, r4, fun _ => rfl, r6, r7, fun _ => rfl, fun _ => rfl, r10, r11⟩
              | 10, hi =>
                obtain rfl := Option.some.inj hi
                have d7 := r7 (hd ⟨7, .data⟩ (by simp) rfl)
                have d9 := r9 (hd ⟨9, .data⟩ (by simp) rfl)
                have d5 := r5 (hd ⟨5, .guard⟩ (by simp) rfl)
                have hq := eq_ff28 (f := invF X) (g := invr X) (fun j _ => (invr_eq X j).symm)
                simp only [fill, Act.put, List.setIfInBounds_toArray, List.set_cons_zero, List.set_cons_succ, d7, d9, d5]
                go_wp2_with fail
                exact ⟨upd (upd (upd (upd v 36 (.bool false)) 38 (av (invF X))) 40 (av (invr X))) 41 (.bool false), by kernel_rfl, HX, HS, HW, r0, r1, r2, r3, r4, fun _ => rfl, r6, fun _ => rfl, r8, fun _ => rfl, fun _ => rfl, r11⟩
              | 11, hi =>
                obtain rfl := Option.some.inj hi
                have d5 := r5 (hd ⟨5, .data⟩ (by simp) rfl)
                have d10 := r10 (hd ⟨10, .data⟩ (by simp) rfl)
                simp only [fill, Act.put, List.setIfInBounds_toArray, List.set_cons_zero, List.set_cons_succ, d5, d10]
                go_wp2_with fail
                exact ⟨upd (upd (upd v 36 (.bool false)) 41 (.bool false)) 42 (.bool false), by kernel_rfl, HX, HS, HW, r0, r1, r2, r3, r4, fun _ => rfl, r6, r7, r8, r9, fun _ => rfl, fun _ => rfl⟩
              | n + 12, hi => cases hi
            · intro L v w' hL hR
              obtain ⟨-, HS, HW, -, -, -, -, -, -, -, -, -, -, -, r11⟩ := hR
              have d0 := r11 (hL 11 (by decide))
              clear r11 hL
              simp only [fill, Act.put, List.setIfInBounds_toArray, List.set_cons_zero, List.set_cons_succ, d0]
              go_wp2_with fail
              exact ⟨⟨k + 1, by omega, by go_num, HS, HW⟩, by simp [intOf]; omega⟩
          · obtain rfl : k = 2 := by omega
            go_wp2_with fail
            go_ret
            exact ⟨rfl, HW⟩
end Go.Proofs.Ytdgdpicfloekeaa

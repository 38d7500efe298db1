/- kinescopelaw19.Small.Macro (in a picture made of the one ahead, qp 9), walked: some macroblock, its vectors small. -/
import Derived.Test.YtbldgpemocnboaaLawRef
import Derived.Deep.DeepCutAuto
import Derived.Deep.CutBlock
namespace Go.Proofs.Ytbldgpemocnboaa
open Go.RowKit Go.Sort
attribute [local go_sem ↓] run_imax run_imin

abbrev S19T : TypeId := 124
/-- The 20 cells of a small macroblock. -/
def s19 (kd st : Int) (X Y : Nat → Int) (same ed : Bool) (bits : Nat → Int) (seed : Int) (far : Bool) (j : Nat) : Value :=
  if j = 0 then .int .u8 kd else if j = 1 then .int .u8 st else if j < 11 then wyC X Y same (j - 2) else if j = 11 then .bool ed else if j < 18 then .int .u64 (bits (j - 12)) else if j = 18 then .int .u32 seed else .bool far
theorem s19_ways (kd st : Int) (X Y : Nat → Int) (same ed : Bool) (bits : Nat → Int) (seed : Int) (far : Bool) : (fcells 9 fun j => s19 kd st X Y same ed bits seed far (2 + j)) = fcells 9 (wyC X Y same) := fcells_congr fun j hj => by
  unfold s19; rw [if_neg (by omega), if_neg (by omega), if_pos (by omega), show 2 + j - 2 = j by omega]
def zv : Nat → Int := fun _ => 0
theorem alloc106 (w : World) : (Instr.alloc M106 true (.tuple #[])).run Try.prog w = .ok (.pointer (some ⟨w.heap.size, 0, none⟩)) (w.alloc (.cells (fcells 391 (mmC 0 0 zv zv false zv)) M106)) := by kernel_rfl
theorem build106b (k q : Int) (w : World) : (Instr.build M106 #[(0, .int .u8 k), (1, .int .i64 q)]).run Try.prog w = .ok (.agg (fcells 391 (mmC k q zv zv false zv))) w := by kernel_rfl
theorem mmC_one (kd qp : Int) (X Y : Nat → Int) (ed : Bool) (L : Nat → Int) (j : Nat) : (mmC kd qp X Y ed L j).oneCell' = true := by
  unfold mmC; split <;> (try rfl); split <;> (try rfl); split <;> (try rfl); split <;> rfl
theorem wpList_buildP {P : Program} {ops : Array Oper} {rest : List Oper} {o : Oper} {a : Act} {w : World} {Q : Exit → Act → World → Prop} (hgd : o.guard = none) (T : TypeId) (fs : Array (Nat × Operand)) (ho : o.op = .build T fs) (vs : Array (Nat × Value)) (hvs : (fs.map fun (i, x) => (i, a.eval x)) = vs) (v : Value)
    (hz : ∀ w : World, (Instr.build T vs).run P w = .ok v w) (h : wpList P ops Q rest (a.put o.dst v) w) : wpList P ops Q (o :: rest) a w :=
  wpList_plain hgd fun K hK => by
    have h2 := hK _ _ h
    unfold Oper.wp execOp
    simp only [ho, hvs, hz, Sem.run_bind, Sem.run_pure, Result.andThen_ok]
    exact h2
theorem mmC_set0 (kd k2 qp : Int) (X Y : Nat → Int) (ed : Bool) (L : Nat → Int) (j : Nat) : (if j = 0 then Value.int .u8 k2 else mmC kd qp X Y ed L j) = mmC k2 qp X Y ed L j := by
  unfold mmC
  by_cases e : j = 0
  · rw [if_pos e, if_pos e]
  · rw [if_neg e, if_neg e, if_neg e]
theorem mmC_set1 (kd q2 qp : Int) (X Y : Nat → Int) (ed : Bool) (L : Nat → Int) (j : Nat) : (if j = 1 then Value.int .i64 q2 else mmC kd qp X Y ed L j) = mmC kd q2 X Y ed L j := by
  unfold mmC
  by_cases e : j = 1
  · subst e; rfl
  · rw [if_neg e]
    by_cases e0 : j = 0
    · rw [if_pos e0, if_pos e0]
    · rw [if_neg e0, if_neg e0, if_neg e, if_neg e]
theorem mmC_set6 (kd qp : Int) (X Y : Nat → Int) (ed e2 : Bool) (L : Nat → Int) (j : Nat) : (if j = 6 then Value.bool e2 else mmC kd qp X Y ed L j) = mmC kd qp X Y e2 L j := by
  unfold mmC
  by_cases e : j = 6
  · subst e; rfl
  · rw [if_neg e]
    by_cases e0 : j = 0
    · rw [if_pos e0, if_pos e0]
    rw [if_neg e0, if_neg e0]
    by_cases e1 : j = 1
    · rw [if_pos e1, if_pos e1]
    rw [if_neg e1, if_neg e1]
    by_cases e3 : j < 6
    · rw [if_pos e3, if_pos e3]
    · rw [if_neg e3, if_neg e3, if_neg e, if_neg e]
theorem mmC_lvl (kd qp : Int) (X Y : Nat → Int) (ed : Bool) (L : Nat → Int) (q : Nat) (v : Int) (j : Nat) : (if j = 7 + q then Value.int .i64 v else mmC kd qp X Y ed L j) = mmC kd qp X Y ed (fun i => if i = q then v else L i) j := by
  unfold mmC
  by_cases e : j = 7 + q
  · subst e
    rw [if_pos rfl, if_neg (by omega), if_neg (by omega), if_neg (by omega), if_neg (by omega)]
    show Value.int .i64 v = Value.int .i64 (if 7 + q - 7 = q then v else L (7 + q - 7))
    rw [if_pos (by omega)]
  · rw [if_neg e]
    by_cases e0 : j = 0
    · rw [if_pos e0, if_pos e0]
    rw [if_neg e0, if_neg e0]
    by_cases e1 : j = 1
    · rw [if_pos e1, if_pos e1]
    rw [if_neg e1, if_neg e1]
    by_cases e3 : j < 6
    · rw [if_pos e3, if_pos e3]
    rw [if_neg e3, if_neg e3]
    by_cases e6 : j = 6
    · rw [if_pos e6, if_pos e6]
    rw [if_neg e6, if_neg e6]
    show Value.int .i64 (L (j - 7)) = Value.int .i64 (if j - 7 = q then v else L (j - 7))
    rw [if_neg (by omega)]
theorem mmC_vecs (kd qp : Int) (X Y X2 Y2 : Nat → Int) (ed : Bool) (L : Nat → Int) (j : Nat) : putPart 2 4 (vc4 X2 Y2) (mmC kd qp X Y ed L) j = mmC kd qp X2 Y2 ed L j := by
  unfold putPart mmC vc4
  by_cases e : 2 ≤ j ∧ j < 2 + 4
  · rw [if_pos e, if_neg (by omega), if_neg (by omega), if_pos (by omega)]
  · rw [if_neg e]
    by_cases e0 : j = 0
    · rw [if_pos e0, if_pos e0]
    rw [if_neg e0, if_neg e0]
    by_cases e1 : j = 1
    · rw [if_pos e1, if_pos e1]
    rw [if_neg e1, if_neg e1, if_neg (show ¬ j < 6 by omega), if_neg (show ¬ j < 6 by omega)]
theorem mmC_lvlP (kd qp : Int) (X Y : Nat → Int) (ed : Bool) (L : Nat → Int) (p q : Nat) (hp : p = 7 + q) (v : Int) (j : Nat) : (if j = p then Value.int .i64 v else mmC kd qp X Y ed L j) = mmC kd qp X Y ed (fun i => if i = q then v else L i) j := by
  subst hp; exact mmC_lvl _ _ _ _ _ _ _ _ _
def MacroP (w : World) (e : Ending) (w' : World) : Prop := ∃ (kd qp : Int) (X Y : Nat → Int) (ed : Bool) (L : Nat → Int), e = .returned (.agg (fcells 391 (mmC kd qp X Y ed L))) ∧ V4b X Y ∧ Below w.heap.size w w'
theorem zv_b : V4b zv zv := fun k _ => ⟨⟨by unfold zv; omega, by unfold zv; omega⟩, by unfold zv; omega, by unfold zv; omega⟩
def stA (i : Nat) : Int := if i = 0 then -2 else if i = 1 then -1 else if i = 2 then 1 else 2
theorem steps_any (w : World) : Calls Try.prog 116 #[] w fun e w' => e = .returned (.agg #[.int .i64 (-2), .int .i64 (-1), .int .i64 1, .int .i64 2]) ∧ Below w.heap.size w w' := by
  go_enter Try.func116, Try.ntmps116
  go_wp2_with fail
  exact bodyPost_ret (results_cell_row rfl _ _ _ _ _ (0, 0) _ rfl (Ob.new_at (w := w) 113 #[.int .i64 (-2), .int .i64 (-1), .int .i64 1, .int .i64 2] rfl) Try.underlying113 rfl (by kernel_rfl)) rfl ⟨rfl, by ((repeat (first | exact Below.refl _ _ | assumption | refine Below.setCell ?_ (by first | omega | (simp; done) | (simp; omega)) _ | refine Below.alloc ?_ (by first | omega | (simp; done) | (simp; omega)) _ | refine below_drewN ?_ _ | refine Below.drew ?_ | refine below_setRow ?_ (by first | omega | (simp; done) | (simp; omega)) _)))⟩
set_option maxRecDepth 1000000 in
set_option maxHeartbeats 16000000 in
theorem smallMacro_any (kd st : Int) (X Y : Nat → Int) (same ed : Bool) (bits : Nat → Int) (seed : Int) (far : Bool) (w : World) (hk : 0 ≤ kd ∧ kd ≤ 255) (hst : 0 ≤ st ∧ st ≤ 255) (hB : WyB X Y) (hbits : ∀ j, j < 6 → 0 ≤ bits j ∧ bits j < 18446744073709551616) (hsd : 0 ≤ seed ∧ seed < 4294967296) :
    Calls Try.prog 75 #[.agg (fcells 20 (s19 kd st X Y same ed bits seed far)), .bool true, .int .i64 9] w (MacroP w) := by
  replace hB := Lib.hid hB; replace hbits := Lib.hid hbits
  obtain ⟨k5, hk5, hk5b⟩ : ∃ k5, kd % 5 = k5 ∧ 0 ≤ k5 ∧ k5 < 5 := ⟨_, rfl, by omega, by omega⟩
  obtain ⟨s4, hs4, hs4b⟩ : ∃ s4, st % 4 = s4 ∧ 0 ≤ s4 ∧ s4 < 4 := ⟨_, rfl, by omega, by omega⟩
  go_enter Try.func75, Try.ntmps75
  go_upto_region 1 with (refine wpList_alloc_blk rfl M106 rfl _ _ alloc106 ?_)
  generalize hw1 : (w.alloc (.cells (fcells 20 (s19 kd st X Y same ed bits seed far)) S19T)).alloc (.cells (fcells 391 (mmC 0 0 zv zv false zv)) M106) = w1
  have HI : Blk w1 w.heap.size S19T 20 (s19 kd st X Y same ed bits seed far) := by rw [← hw1]; exact (Blk.new_at _ _ _ rfl).alloc _
  have HR : Blk w1 (w.heap.size + 1) M106 391 (mmC 0 0 zv zv false zv) := by rw [← hw1]; exact Blk.new_at _ _ _ (by simp)
  have HW : Below w.heap.size w w1 := by rw [← hw1]; ((repeat (first | exact Below.refl _ _ | assumption | refine Below.setCell ?_ (by first | omega | (simp; done) | (simp; omega)) _ | refine Below.alloc ?_ (by first | omega | (simp; done) | (simp; omega)) _ | refine below_drewN ?_ _ | refine Below.drew ?_ | refine below_setRow ?_ (by first | omega | (simp; done) | (simp; omega)) _)))
  clear hw1
  have c0 : w1.cell? ⟨w.heap.size, 0, none⟩ = some (.int .u8 kd) := HI.cell (k := 0) (by omega)
  have HZ : Blk (w1.alloc (.cells (fcells 391 (mmC 0 0 zv zv false zv)) M106)) w1.heap.size M106 391 (mmC 0 0 zv zv false zv) := Blk.new_at _ _ _ rfl
  go_upto_region 2 with (first | (refine wpList_alloc_blk rfl M106 rfl _ _ alloc106 ?_) | (refine wpList_store_blk (g := mmC k5 9 zv zv false zv) HZ rfl _ _ _ rfl rfl (by kernel_rfl) (by kernel_rfl) (fun j _ => mmC_one _ _ _ _ _ _ j) ?_))
  have uI := HI.lt; have uR := HR.lt; have uw := HW.size
  generalize hw2 : (w1.alloc (.cells (fcells 391 (mmC 0 0 zv zv false zv)) M106)).setRow w1.heap.size (fcells 391 (mmC k5 9 zv zv false zv)) = w2
  have HM : Blk w2 w1.heap.size M106 391 (mmC k5 9 zv zv false zv) := by rw [← hw2]; exact HZ.setRow_same rfl
  replace HI : Blk w2 w.heap.size S19T 20 (s19 kd st X Y same ed bits seed far) := by rw [← hw2]; exact (HI.alloc _).setRow (by omega) _
  replace HR : Blk w2 (w.heap.size + 1) M106 391 (mmC 0 0 zv zv false zv) := by rw [← hw2]; exact (HR.alloc _).setRow (by omega) _
  replace HW : Below w.heap.size w w2 := by rw [← hw2]; exact below_setRow (HW.alloc uw _) uw _
  have n1 : w1.heap.size ≠ w.heap.size := by omega
  have n2 : w1.heap.size ≠ w.heap.size + 1 := by omega
  have n3 : w.heap.size ≤ w1.heap.size := uw
  clear hw2 HZ c0 uI uR uw
  generalize w1.heap.size = mq at *
  have c0 : w2.cell? ⟨mq, 0, none⟩ = some (.int .u8 k5) := HM.cell (k := 0) (by omega)
  have f0 := HM.free 0
  go_upto_if 27 with fail
  clear c0 f0
  go_cut [] (fun wx => ∃ kd2 qp2 : Int, Blk wx mq M106 391 (mmC kd2 qp2 zv zv false zv) ∧ Blk wx w.heap.size S19T 20 (s19 kd st X Y same ed bits seed far) ∧ Blk wx (w.heap.size + 1) M106 391 (mmC 0 0 zv zv false zv) ∧ Below w.heap.size w wx)
  case first =>
    by_cases h4 : k5 = 4
    · subst h4
      have c0 : w2.cell? ⟨mq, 0, none⟩ = some (.int .u8 4) := HM.cell (k := 0) (by omega)
      have f0 := HM.free 0
      go_upto_region 6 with fail
      generalize hw3 : w2.setCell ⟨mq, 0, none⟩ (.int .u8 3) = w3
      replace HM : Blk w3 mq M106 391 (mmC 3 9 zv zv false zv) := by rw [← hw3]; exact (HM.set 0 _).congr fun j _ => mmC_set0 _ _ _ _ _ _ _ _
      replace HI : Blk w3 w.heap.size S19T 20 (s19 kd st X Y same ed bits seed far) := by rw [← hw3]; exact HI.other n1 _ _
      replace HR : Blk w3 (w.heap.size + 1) M106 391 (mmC 0 0 zv zv false zv) := by rw [← hw3]; exact HR.other n2 _ _
      replace HW : Below w.heap.size w w3 := by rw [← hw3]; exact HW.setCell n3 _
      clear hw3 c0 f0
      have e0 : ∀ p : Regrown, (Sort.grow (redrawn w3 p.d) p.os).cell? ⟨w.heap.size, 1, none⟩ = some (.int .u8 st) := fun p => (HI.re p).cell (k := 1) (by omega)
      rcases (show s4 = 0 ∨ s4 = 1 ∨ s4 = 2 ∨ s4 = 3 by omega) with rfl | rfl | rfl | rfl
      · have hix : ∀ W, (Instr.index 113 (.agg #[.int .i64 (-2), .int .i64 (-1), .int .i64 1, .int .i64 2]) (.int .u8 0)).run Try.prog W = .ok (.int .i64 (-2)) W := fun W => by kernel_rfl
        go_wp2_with fail
        refine wp_region_quiet_below (by kernel_rfl) (by kernel_rfl) ?_
        repeat (go_big_quiet_step ((go_at_call 116; with_reducible exact Calls.regrown_of (steps_any _))))
        refine wpQuiet_nil ?_
        intro wq hwq
        replace hwq := Cls.below hwq
        replace HM := HM.later hwq; replace HI := HI.later hwq; replace HR := HR.later hwq; replace HW := below_step HW hwq
        clear hwq
        have c0 : wq.cell? ⟨mq, 0, none⟩ = some (.int .u8 3) := HM.cell (k := 0) (by omega)
        have c1 : wq.cell? ⟨mq, 1, none⟩ = some (.int .i64 9) := HM.cell (k := 1) (by omega)
        have f0 := HM.free 0; have f1 := HM.free 1
        go_wp2_with fail
        go_meet
        exact ⟨4, 7, (((HM.set 0 _).congr fun j _ => mmC_set0 _ _ _ _ _ _ _ _).set 1 _).congr fun j _ => mmC_set1 _ _ _ _ _ _ _ _, (HI.other n1 _ _).other n1 _ _, (HR.other n2 _ _).other n2 _ _, (HW.setCell n3 _).setCell n3 _⟩
      · have hix : ∀ W, (Instr.index 113 (.agg #[.int .i64 (-2), .int .i64 (-1), .int .i64 1, .int .i64 2]) (.int .u8 1)).run Try.prog W = .ok (.int .i64 (-1)) W := fun W => by kernel_rfl
        go_wp2_with fail
        refine wp_region_quiet_below (by kernel_rfl) (by kernel_rfl) ?_
        repeat (go_big_quiet_step ((go_at_call 116; with_reducible exact Calls.regrown_of (steps_any _))))
        refine wpQuiet_nil ?_
        intro wq hwq
        replace hwq := Cls.below hwq
        replace HM := HM.later hwq; replace HI := HI.later hwq; replace HR := HR.later hwq; replace HW := below_step HW hwq
        clear hwq
        have c0 : wq.cell? ⟨mq, 0, none⟩ = some (.int .u8 3) := HM.cell (k := 0) (by omega)
        have c1 : wq.cell? ⟨mq, 1, none⟩ = some (.int .i64 9) := HM.cell (k := 1) (by omega)
        have f0 := HM.free 0; have f1 := HM.free 1
        go_wp2_with fail
        go_meet
        exact ⟨4, 8, (((HM.set 0 _).congr fun j _ => mmC_set0 _ _ _ _ _ _ _ _).set 1 _).congr fun j _ => mmC_set1 _ _ _ _ _ _ _ _, (HI.other n1 _ _).other n1 _ _, (HR.other n2 _ _).other n2 _ _, (HW.setCell n3 _).setCell n3 _⟩
      · have hix : ∀ W, (Instr.index 113 (.agg #[.int .i64 (-2), .int .i64 (-1), .int .i64 1, .int .i64 2]) (.int .u8 2)).run Try.prog W = .ok (.int .i64 (1)) W := fun W => by kernel_rfl
        go_wp2_with fail
        refine wp_region_quiet_below (by kernel_rfl) (by kernel_rfl) ?_
        repeat (go_big_quiet_step ((go_at_call 116; with_reducible exact Calls.regrown_of (steps_any _))))
        refine wpQuiet_nil ?_
        intro wq hwq
        replace hwq := Cls.below hwq
        replace HM := HM.later hwq; replace HI := HI.later hwq; replace HR := HR.later hwq; replace HW := below_step HW hwq
        clear hwq
        have c0 : wq.cell? ⟨mq, 0, none⟩ = some (.int .u8 3) := HM.cell (k := 0) (by omega)
        have c1 : wq.cell? ⟨mq, 1, none⟩ = some (.int .i64 9) := HM.cell (k := 1) (by omega)
        have f0 := HM.free 0; have f1 := HM.free 1
        go_wp2_with fail
        go_meet
        exact ⟨4, 10, (((HM.set 0 _).congr fun j _ => mmC_set0 _ _ _ _ _ _ _ _).set 1 _).congr fun j _ => mmC_set1 _ _ _ _ _ _ _ _, (HI.other n1 _ _).other n1 _ _, (HR.other n2 _ _).other n2 _ _, (HW.setCell n3 _).setCell n3 _⟩
      · have hix : ∀ W, (Instr.index 113 (.agg #[.int .i64 (-2), .int .i64 (-1), .int .i64 1, .int .i64 2]) (.int .u8 3)).run Try.prog W = .ok (.int .i64 (2)) W := fun W => by kernel_rfl
        go_wp2_with fail
        refine wp_region_quiet_below (by kernel_rfl) (by kernel_rfl) ?_
        repeat (go_big_quiet_step ((go_at_call 116; with_reducible exact Calls.regrown_of (steps_any _))))
        refine wpQuiet_nil ?_
        intro wq hwq
        replace hwq := Cls.below hwq
        replace HM := HM.later hwq; replace HI := HI.later hwq; replace HR := HR.later hwq; replace HW := below_step HW hwq
        clear hwq
        have c0 : wq.cell? ⟨mq, 0, none⟩ = some (.int .u8 3) := HM.cell (k := 0) (by omega)
        have c1 : wq.cell? ⟨mq, 1, none⟩ = some (.int .i64 9) := HM.cell (k := 1) (by omega)
        have f0 := HM.free 0; have f1 := HM.free 1
        go_wp2_with fail
        go_meet
        exact ⟨4, 11, (((HM.set 0 _).congr fun j _ => mmC_set0 _ _ _ _ _ _ _ _).set 1 _).congr fun j _ => mmC_set1 _ _ _ _ _ _ _ _, (HI.other n1 _ _).other n1 _ _, (HR.other n2 _ _).other n2 _ _, (HW.setCell n3 _).setCell n3 _⟩
    · have d4 : (k5 == 4) = false := by simpa using h4
      go_wp2_with fail
      go_meet
      exact ⟨k5, 9, HM, HI, HR, HW⟩
  case rest =>
    clear HM HI HR HW hk5b hs4b hk5 hs4
    obtain ⟨kd2, qp2, HM, HI, HR, HW⟩ := hcut
    have hws := fun W => ways_any X Y same W hB.out
    have hV := wyV_b same X Y
    obtain ⟨U, hU⟩ : ∃ U, wyV same X = U := ⟨_, rfl⟩
    obtain ⟨V, hV2⟩ : ∃ V, wyV same Y = V := ⟨_, rfl⟩
    rw [hU, hV2] at hV hws
    clear hU hV2
    replace hV := Lib.hid hV; replace hws := Lib.hid hws
    go_wp2_with (refine wpList_load_partX (m := 9) (q := 2) HI rfl WYT _ rfl rfl _ Try.underlying66 rfl (by kernel_rfl) (by omega) _ (s19_ways _ _ _ _ _ _ _ _ _) ?_)
    refine (hws.out _).mono ?_
    rintro e w5 ⟨rfl, hb⟩
    replace HM := HM.later hb; replace HI := HI.later hb; replace HR := HR.later hb; replace HW := below_step HW hb
    clear hb
    have HZ : Blk (w5.alloc (.cells (fcells 4 fun _ => .complex .f64 0 0) V63T)) w5.heap.size V63T 4 (fun _ => .complex .f64 0 0) := Blk.new_at _ _ _ rfl
    go_upto_region 10 with (first | (refine wpList_alloc_blk rfl V63T rfl _ _ alloc63 ?_) | (refine wpList_store_blk HZ rfl _ _ _ rfl rfl rfl (by kernel_rfl) (fun j _ => rfl) ?_))
    have uM := HM.lt; have uI := HI.lt; have uR := HR.lt; have uw := HW.size
    generalize hw6 : (w5.alloc (.cells (fcells 4 fun _ => .complex .f64 0 0) V63T)).setRow w5.heap.size (fcells 4 (vc4 U V)) = w6
    have HV : Blk w6 w5.heap.size V63T 4 (vc4 U V) := by rw [← hw6]; exact HZ.setRow_same rfl
    replace HM : Blk w6 mq M106 391 (mmC kd2 qp2 zv zv false zv) := by rw [← hw6]; exact (HM.alloc _).setRow (by omega) _
    replace HI : Blk w6 w.heap.size S19T 20 (s19 kd st X Y same ed bits seed far) := by rw [← hw6]; exact (HI.alloc _).setRow (by omega) _
    replace HR : Blk w6 (w.heap.size + 1) M106 391 (mmC 0 0 zv zv false zv) := by rw [← hw6]; exact (HR.alloc _).setRow (by omega) _
    replace HW : Below w.heap.size w w6 := by rw [← hw6]; exact below_setRow (HW.alloc uw _) uw _
    clear hw6 HZ uM uI uR uw
    generalize w5.heap.size = vq at *
    have c0 : w6.cell? ⟨mq, 0, none⟩ = some (.int .u8 kd2) := HM.cell (k := 0) (by omega)
    go_upto_block 0 with fail
    clear c0
    go_cut [] (fun wx => ∃ (X2 Y2 : Nat → Int) (ed2 : Bool), V4b X2 Y2 ∧ Blk wx mq M106 391 (mmC kd2 qp2 X2 Y2 ed2 zv) ∧ Blk wx w.heap.size S19T 20 (s19 kd st X Y same ed bits seed far) ∧ Blk wx (w.heap.size + 1) M106 391 (mmC 0 0 zv zv false zv) ∧ Below w.heap.size w wx)
    case first =>
      by_cases a0 : kd2 = 0
      · subst a0
        go_wp2_with (first | (refine wpList_load_partX (m := 391) (q := 0) HM rfl M106 _ rfl rfl _ Try.underlying106 rfl (by kernel_rfl) (by omega) _ (fcells_from _ _) ?_) | (refine wpList_store_blk HR rfl _ _ _ rfl rfl rfl (by kernel_rfl) (fun j _ => mmC_one _ _ _ _ _ _ j) ?_))
        (try simp only [Exit.inBlock, Exit.then])
        exact bodyPost_ret (results_blkM rfl _ (HR.setRow_same rfl) rfl Try.underlying106 (by kernel_rfl)) rfl ⟨0, qp2, zv, zv, false, zv, rfl, zv_b, below_setRow HW (by omega) _⟩
      have d0 : (kd2 == 0) = false := by simpa using a0
      by_cases a1 : kd2 = 1
      · subst a1
        have c5 := HV.cell (k := 0) (by omega)
        unfold vc4 vcV at c5
        go_wp2_with fail
        refine (all_any (U 0) (V 0) _).mono ?_
        rintro e w7 ⟨rfl, hb⟩
        replace HM := HM.later hb; replace HI := HI.later hb; replace HR := HR.later hb; replace HW := below_step HW hb
        clear hb
        go_wp2_with (refine wpList_store_part (m := 4) (q := 2) HM rfl _ _ _ rfl rfl rfl (by kernel_rfl) (by omega) (fun j _ => rfl) ?_)
        go_meet
        exact ⟨fun _ => U 0, fun _ => V 0, false, fun k _ => hV.out 0 (by omega), (HM.setRow_same rfl).congr (fun j _ => mmC_vecs _ _ _ _ _ _ _ _ j), HI.setRow n1 _, HR.setRow n2 _, below_setRow HW n3 _⟩
      have d1 : (kd2 == 1) = false := by simpa using a1
      by_cases a2 : kd2 = 2
      · subst a2
        go_wp2_with (first | (refine wpList_load_blk HV rfl V63T _ rfl rfl und63 (by kernel_rfl) ?_) | (refine wpList_store_part (m := 4) (q := 2) HM rfl _ _ _ rfl rfl rfl (by kernel_rfl) (by omega) (fun j _ => rfl) ?_))
        go_meet
        exact ⟨U, V, false, hV.out, (HM.setRow_same rfl).congr (fun j _ => mmC_vecs _ _ _ _ _ _ _ _ j), HI.setRow n1 _, HR.setRow n2 _, below_setRow HW n3 _⟩
      have d2 : (kd2 == 2) = false := by simpa using a2
      have c11 : w6.cell? ⟨w.heap.size, 11, none⟩ = some (.bool ed) := HI.cell (k := 11) (by omega)
      have c6 : w6.cell? ⟨mq, 6, none⟩ = some (.bool false) := HM.cell (k := 6) (by omega)
      have f6 := HM.free 6
      go_wp2_with fail
      go_meet
      exact ⟨zv, zv, ed, zv_b, (HM.set 6 _).congr (fun j _ => mmC_set6 _ _ _ _ _ _ _ j), HI.other n1 _ _, HR.other n2 _ _, HW.setCell n3 _⟩
    case rest =>
      clear HM HI HR HW HV
      obtain ⟨X2, Y2, ed2, hV2, HM, HI, HR, HW⟩ := hcut
      replace hV2 := Lib.hid hV2
      have hal := fun L W => alone_any kd2 qp2 X2 Y2 ed2 L W
      obtain ⟨al, hA⟩ : ∃ al, aloneB kd2 = al := ⟨_, rfl⟩
      rw [hA] at hal
      replace hal := Lib.hid hal; clear hA
      have c18 : wc.cell? ⟨w.heap.size, 18, none⟩ = some (.int .u32 seed) := HI.cell (k := 18) (by omega)
      go_wp2_with fail
      clear c18
      go_loopw [10, 68] (fun n t wr => ∃ (k : Nat) (v : Int) (L : Nat → Int), k ≤ 6 ∧ t = .int .i64 (k : Int) ∧ n = .int .u32 v ∧ 0 ≤ v ∧ v < 4294967296 ∧ Blk wr mq M106 391 (mmC kd2 qp2 X2 Y2 ed2 L) ∧ Blk wr w.heap.size S19T 20 (s19 kd st X Y same ed bits seed far) ∧ Blk wr (w.heap.size + 1) M106 391 (mmC 0 0 zv zv false zv) ∧ Below w.heap.size w wr) (fun n t _ => 6 - (intOf t).toNat)
      case atStart => exact ⟨0, seed, zv, by omega, rfl, rfl, hsd.1, hsd.2, HM, HI, HR, HW⟩
      case round =>
        clear HM HI HR HW
        obtain ⟨k, v, L, hk6, rfl, rfl, hv0, hv1, HM, HI, HR, HW⟩ := hrel
        by_cases hk : k < 6
        · have hd : decide ((k : Int) < 6) = true := by simp; omega
          have k0 : (0 : Int) ≤ k := by omega
          have k1 : (k : Int) < 6 := by omega
          go_wp2_with fail
          clear hd
          go_loopw [10, 71] (fun n t wr => ∃ (i : Nat) (v : Int) (L : Nat → Int), i ≤ 64 ∧ t = .int .i64 (i : Int) ∧ n = .int .u32 v ∧ 0 ≤ v ∧ v < 4294967296 ∧ Blk wr mq M106 391 (mmC kd2 qp2 X2 Y2 ed2 L) ∧ Blk wr w.heap.size S19T 20 (s19 kd st X Y same ed bits seed far) ∧ Blk wr (w.heap.size + 1) M106 391 (mmC 0 0 zv zv false zv) ∧ Below w.heap.size w wr) (fun n t _ => 64 - (intOf t).toNat)
          case atStart => exact ⟨0, v, L, by omega, rfl, rfl, hv0, hv1, HM, HI, HR, HW⟩
          case round =>
            clear HM HI HR HW hv0 hv1
            obtain ⟨i, v, L, hi64, rfl, rfl, hv0, hv1, HM, HI, HR, HW⟩ := hrel
            by_cases hi : i < 64
            · have hd : decide ((i : Int) < 64) = true := by simp; omega
              have i0 : (0 : Int) ≤ i := by omega
              have i1 : (i : Int) < 64 := by omega
              have c4 : wr.cell? ⟨w.heap.size, 12 + k, none⟩ = some (.int .u64 (bits k)) := by have h9 := HI.cell (k := 12 + k) (by omega); rw [h9]; unfold s19; rw [if_neg (by omega), if_neg (by omega), if_neg (by omega), if_neg (by omega), if_pos (by omega), show 12 + k - 12 = k by omega]
              obtain ⟨b0, b1⟩ := hbits.out k hk
              go_upto_if 84 with fail
              have hv2 : 0 ≤ (v * 1664525 % 4294967296 + 1013904223) % 4294967296 ∧ (v * 1664525 % 4294967296 + 1013904223) % 4294967296 < 4294967296 := by omega
              generalize (v * 1664525 % 4294967296 + 1013904223) % 4294967296 = v2 at *
              clear hv0 hv1 hd c4 b0 b1
              obtain ⟨v20, v21⟩ := hv2
              have c7 : wr.cell? ⟨mq, 7 + k * 64 + i, none⟩ = some (.int .i64 (L (k * 64 + i))) := by have h9 := HM.cell (k := 7 + k * 64 + i) (by omega); rw [h9]; unfold mmC; rw [if_neg (by omega), if_neg (by omega), if_neg (by omega), if_neg (by omega), show 7 + k * 64 + i - 7 = k * 64 + i by omega]
              have f7 := HM.free (7 + k * 64 + i)
              have c19 : wr.cell? ⟨w.heap.size, 19, none⟩ = some (.bool far) := HI.cell (k := 19) (by omega)
              cases far
              · go_wp2_with fail
                · exact ⟨⟨i + 1, v2, _, by omega, by go_num, rfl, v20, v21, (HM.set (7 + k * 64 + i) _).congr (fun j _ => mmC_lvlP _ _ _ _ _ _ _ (k * 64 + i) (by omega) _ j), HI.other n1 _ _, HR.other n2 _ _, HW.setCell n3 _⟩, by simp [intOf]; omega⟩
                · exact ⟨⟨i + 1, v2, L, by omega, by go_num, rfl, v20, v21, HM, HI, HR, HW⟩, by simp [intOf]; omega⟩
              · go_wp2_with fail
                · exact ⟨⟨i + 1, v2, _, by omega, by go_num, rfl, v20, v21, (((HM.set (7 + k * 64 + i) _).congr (fun j _ => mmC_lvlP _ _ _ _ _ _ _ (k * 64 + i) (by omega) _ j)).set (7 + k * 64 + i) _).congr (fun j _ => mmC_lvlP _ _ _ _ _ _ _ (k * 64 + i) (by omega) _ j), (HI.other n1 _ _).other n1 _ _, (HR.other n2 _ _).other n2 _ _, (HW.setCell n3 _).setCell n3 _⟩, by simp [intOf]; omega⟩
                · exact ⟨⟨i + 1, v2, L, by omega, by go_num, rfl, v20, v21, HM, HI, HR, HW⟩, by simp [intOf]; omega⟩
            · obtain rfl : i = 64 := by omega
              have hd : decide (((64 : Nat) : Int) < 64) = false := by decide
              go_wp2_with (refine wpList_load_partX (m := 391) (q := 0) HM rfl M106 _ rfl rfl _ Try.underlying106 rfl (by kernel_rfl) (by omega) _ (fcells_from _ _) ?_)
              clear hd
              refine (hal.out L _).mono ?_
              rintro e w8 ⟨rfl, hb⟩
              replace HM := HM.later hb; replace HI := HI.later hb; replace HR := HR.later hb; replace HW := below_step HW hb
              clear hb
              cases al
              · go_wp2_with fail
                exact ⟨⟨k + 1, v, L, by omega, by go_num, rfl, hv0, hv1, HM, HI, HR, HW⟩, by simp [intOf]; omega⟩
              · have c7 : w8.cell? ⟨mq, 7 + k * 64, none⟩ = some (.int .i64 (L (k * 64))) := by have h9 := HM.cell (k := 7 + k * 64) (by omega); rw [h9]; unfold mmC; rw [if_neg (by omega), if_neg (by omega), if_neg (by omega), if_neg (by omega), show 7 + k * 64 - 7 = k * 64 by omega]
                have f7 := HM.free (7 + k * 64)
                go_wp2_with fail
                exact ⟨⟨k + 1, v, _, by omega, by go_num, rfl, hv0, hv1, (HM.set (7 + k * 64) _).congr (fun j _ => mmC_lvlP _ _ _ _ _ _ _ (k * 64) (by omega) _ j), HI.other n1 _ _, HR.other n2 _ _, HW.setCell n3 _⟩, by simp [intOf]; omega⟩
        · obtain rfl : k = 6 := by omega
          have hd : decide (((6 : Nat) : Int) < 6) = false := by decide
          go_wp2_with (first | (refine wpList_load_partX (m := 391) (q := 0) HM rfl M106 _ rfl rfl _ Try.underlying106 rfl (by kernel_rfl) (by omega) _ (fcells_from _ _) ?_) | (refine wpList_store_blk HR rfl _ _ _ rfl rfl rfl (by kernel_rfl) (fun j _ => mmC_one _ _ _ _ _ _ j) ?_))
          exact bodyPost_ret (results_blkM rfl _ (HR.setRow_same rfl) rfl Try.underlying106 (by kernel_rfl)) rfl ⟨kd2, qp2, X2, Y2, ed2, L, rfl, hV2.out, below_setRow HW (by omega) _⟩
end Go.Proofs.Ytbldgpemocnboaa

/- kinescopelaw14.Ways' Vectors; kinescopelaw14.Ref; walked. -/
import Derived.Test.YtbldgpemocnboaaVec
import Derived.Test.YtbldgpemocnboaaRel
import Derived.Deep.DeepCutAuto
import Derived.Deep.CutBlock
namespace Go.Proofs.Ytbldgpemocnboaa
open Go.RowKit Go.Sort
attribute [local go_sem ↓] run_imax run_imin

/-- Four vectors of small numbers, as they come in. -/
def wyC (X Y : Nat → Int) (same : Bool) (j : Nat) : Value := if j < 4 then .int .i8 (X j) else if j < 8 then .int .i8 (Y (j - 4)) else .bool same
def wyV (same : Bool) (X : Nat → Int) (k : Nat) : Int := sm32 (X (if same = true then 0 else k))
def WyB (X Y : Nat → Int) : Prop := ∀ k, k < 4 → (-128 ≤ X k ∧ X k ≤ 127) ∧ (-128 ≤ Y k ∧ Y k ≤ 127)
theorem wyV_b (same : Bool) (X Y : Nat → Int) : V4b (wyV same X) (wyV same Y) := fun k _ => by
  have h1 := sm32_bd (X (if same = true then 0 else k)); have h2 := sm32_bd (Y (if same = true then 0 else k))
  unfold wyV; omega
abbrev WYT : TypeId := 66
abbrev V63T : TypeId := 63
set_option maxRecDepth 100000 in
set_option maxHeartbeats 2000000 in
theorem ways_any (X Y : Nat → Int) (same : Bool) (w : World) (hb : WyB X Y) :
    Calls Try.prog 44 #[.agg (fcells 9 (wyC X Y same))] w fun e w' => e = .returned (.agg (fcells 4 (vc4 (wyV same X) (wyV same Y)))) ∧ Below w.heap.size w w' := by
  replace hb := Lib.hid hb
  go_enter Try.func44, Try.ntmps44
  go_wp2_with (refine wpList_alloc_blk rfl V63T rfl _ _ alloc63 ?_)
  generalize hw2 : ((w.alloc (.cells (fcells 9 (wyC X Y same)) WYT)).alloc (.cells (fcells 4 fun _ => .complex .f64 0 0) V63T)).alloc (.cells (fcells 4 fun _ => .complex .f64 0 0) V63T) = w2
  have HI : Blk w2 w.heap.size WYT 9 (wyC X Y same) := by rw [← hw2]; exact ((Blk.new_at _ _ _ rfl).alloc _).alloc _
  have HR : Blk w2 (w.heap.size + 1) V63T 4 (fun _ => .complex .f64 0 0) := by rw [← hw2]; exact (Blk.new_at _ _ _ (by simp)).alloc _
  have HZ : Blk w2 (w.heap.size + 1 + 1) V63T 4 (fillV 0 (vc4 (wyV same X) (wyV same Y)) (fun _ => .complex .f64 0 0)) := by rw [← hw2]; exact (Blk.new_at _ _ _ (by simp)).congr fun j _ => by unfold fillV; rw [if_neg (by omega)]
  have HW : Below w.heap.size w w2 := by rw [← hw2]; ((repeat (first | exact Below.refl _ _ | assumption | refine Below.setCell ?_ (by first | omega | (simp; done) | (simp; omega)) _ | refine Below.alloc ?_ (by first | omega | (simp; done) | (simp; omega)) _ | refine below_drewN ?_ _ | refine Below.drew ?_ | refine below_setRow ?_ (by first | omega | (simp; done) | (simp; omega)) _)))
  clear hw2
  go_loopw [5] (fun i wr => ∃ k : Nat, k ≤ 4 ∧ i = .int .i64 k ∧ Blk wr w.heap.size WYT 9 (wyC X Y same) ∧ Blk wr (w.heap.size + 1) V63T 4 (fun _ => .complex .f64 0 0) ∧ Blk wr (w.heap.size + 1 + 1) V63T 4 (fillV k (vc4 (wyV same X) (wyV same Y)) (fun _ => .complex .f64 0 0)) ∧ Below w.heap.size w wr) (fun i _ => 4 - (intOf i).toNat)
  case atStart => exact ⟨0, by omega, rfl, HI, HR, HZ, HW⟩
  case round =>
    clear HI HR HZ HW
    obtain ⟨k, hk, rfl, HI, HR, HZ, HW⟩ := hrel
    by_cases hk4 : k < 4
    · have hd : decide ((k : Int) < 4) = true := by simp; omega
      have k0 : (0 : Int) ≤ (k : Int) := by omega
      have k1 : (k : Int) < 4 := by omega
      obtain ⟨⟨bx1, bx2⟩, by1, by2⟩ := hb.out k hk4
      have hsm := fun W => (vsmall_any (X k) (Y k) W ⟨bx1, bx2⟩ ⟨by1, by2⟩).mono (fun e w' h => (⟨h.1, h.2 ▸ Below.refl _ _⟩ : e = .returned (vcV (sm32 (X k)) (sm32 (Y k))) ∧ Below W.heap.size W w'))
      unfold vcV at hsm
      replace hsm := Lib.hid hsm
      have c0 : ∀ p : Regrown, (Sort.grow (redrawn wr p.d) p.os).cell? ⟨w.heap.size, k, none⟩ = some (.int .i8 (X k)) := fun p => by
        have := (HI.re p).cell (k := k) (by omega); unfold wyC at this; rw [if_pos hk4] at this; exact this
      have c1 : ∀ p : Regrown, (Sort.grow (redrawn wr p.d) p.os).cell? ⟨w.heap.size, 4 + k, none⟩ = some (.int .i8 (Y k)) := fun p => by
        have := (HI.re p).cell (k := 4 + k) (by omega); unfold wyC at this; rw [if_neg (by omega), if_pos (by omega), show 4 + k - 4 = k by omega] at this; exact this
      go_wp2_with fail
      apply wp_region_tail_below 10
      case hm => kernel_rfl
      case hB => kernel_rfl
      case hno => kernel_rfl
      case hF =>
        simp only [List.take_succ_cons, List.take_zero]
        repeat (go_big_quiet_step ((go_at_call 60; with_reducible exact Calls.regrown_of (hsm.out _))))
        exact wpQuiet_nil rfl
      case hT =>
        intro w3 hb3
        clear c0 c1 hsm hd
        simp only [List.drop_succ_cons, List.drop_zero]
        replace HI := HI.later hb3; replace HR := HR.later hb3; replace HZ := HZ.later hb3; replace HW := below_step HW hb3
        clear hb3
        have f0 := HZ.fill_cell hk4
        have f1 := HZ.free k
        go_upto_region 6 with fail
        generalize hw4 : w3.setCell ⟨w.heap.size + 1 + 1, k, none⟩ (.complex .f64 (fbits (sm32 (X k))) (fbits (sm32 (Y k)))) = w4
        have HZ2 : Blk w4 (w.heap.size + 1 + 1) V63T 4 (fun j => if j = k then vcV (sm32 (X k)) (sm32 (Y k)) else fillV k (vc4 (wyV same X) (wyV same Y)) (fun _ => .complex .f64 0 0) j) := by rw [← hw4]; exact HZ.set k _
        replace HI : Blk w4 w.heap.size WYT 9 (wyC X Y same) := by rw [← hw4]; exact HI.other (by omega) _ _
        replace HR : Blk w4 (w.heap.size + 1) V63T 4 (fun _ => .complex .f64 0 0) := by rw [← hw4]; exact HR.other (by omega) _ _
        replace HW : Below w.heap.size w w4 := by rw [← hw4]; exact HW.setCell (by show w.heap.size ≤ w.heap.size + 1 + 1; omega) _
        clear hw4 HZ f0 f1
        have g0 := HI.cell (k := 8) (by omega)
        have g1 : wyC X Y same 8 = .bool same := rfl
        rw [g1] at g0
        clear g1
        cases same
        · replace HZ := HZ2.congr (g := fillV (k + 1) (vc4 (wyV false X) (wyV false Y)) (fun _ => .complex .f64 0 0)) fun j _ => by
            unfold fillV
            by_cases e : j = k
            · subst e; rw [if_pos rfl, if_pos (by omega)]; rfl
            · rw [if_neg e]
              by_cases e2 : j < k
              · rw [if_pos e2, if_pos (by omega)]
              · rw [if_neg e2, if_neg (by omega)]
          clear HZ2
          go_wp2_with fail
          exact ⟨⟨k + 1, by omega, by go_num, HI, HR, HZ, HW⟩, by simp [intOf]; omega⟩
        · have c5 := HZ2.cell (k := 0) (by omega)
          have e5 : (if 0 = k then vcV (sm32 (X k)) (sm32 (Y k)) else fillV k (vc4 (wyV true X) (wyV true Y)) (fun _ => .complex .f64 0 0) 0) = .complex .f64 (fbits (sm32 (X 0))) (fbits (sm32 (Y 0))) := by
            by_cases e : 0 = k
            · subst e; rw [if_pos rfl]; rfl
            · rw [if_neg e]; unfold fillV; rw [if_pos (by omega)]; rfl
          rw [e5] at c5
          have c6 := HZ2.cell (k := k) hk4
          rw [if_pos rfl] at c6
          unfold vcV at c6
          have f1 := HZ2.free k
          clear e5
          go_wp2_with fail
          replace HZ := (HZ2.set k (.complex .f64 (fbits (sm32 (X 0))) (fbits (sm32 (Y 0))))).congr (g := fillV (k + 1) (vc4 (wyV true X) (wyV true Y)) (fun _ => .complex .f64 0 0)) fun j _ => by
            unfold fillV
            by_cases e : j = k
            · subst e; rw [if_pos rfl, if_pos (by omega)]; rfl
            · rw [if_neg e]
              by_cases e2 : j < k
              · rw [if_neg e, if_pos e2, if_pos (by omega)]
              · rw [if_neg e, if_neg e2, if_neg (by omega)]
          exact ⟨⟨k + 1, by omega, by go_num, HI.other (by omega) _ _, HR.other (by omega) _ _, HZ, HW.setCell (by show w.heap.size ≤ w.heap.size + 1 + 1; omega) _⟩, by simp [intOf]; omega⟩
    · obtain rfl : k = 4 := by omega
      have hd : decide (((4 : Nat) : Int) < 4) = false := by decide
      go_wp2_with (first | (refine wpList_load_blk HZ.fill_all rfl _ _ rfl rfl und63 (by kernel_rfl) ?_) | (refine wpList_store_blk HR rfl _ _ _ rfl rfl rfl (by kernel_rfl) (fun j _ => rfl) ?_))
      exact bodyPost_ret (results_blk rfl _ (HR.setRow_same rfl) rfl und63 (by kernel_rfl)) rfl ⟨rfl, below_setRow HW (by omega) _⟩
/-- A macroblock, as the document's answer has it. -/
def mcC (al sk : Bool) (qp : Int) (X Y L : Nat → Int) (j : Nat) : Value :=
  if j = 0 then .bool al else if j = 1 then .bool sk else if j = 2 then .int .i64 qp else if j < 7 then .int .i64 (X (j - 3)) else if j < 11 then .int .i64 (Y (j - 7)) else .int .i64 (L (j - 11))
abbrev M115 : TypeId := 115
theorem alloc115 (w : World) : (Instr.alloc M115 true (.tuple #[])).run Try.prog w = .ok (.pointer (some ⟨w.heap.size, 0, none⟩)) (w.alloc (.cells (fcells 395 (mcC false false 0 (fun _ => 0) (fun _ => 0) (fun _ => 0))) M115)) := by kernel_rfl
theorem wpList_load_blkM {P : Program} {ops : Array Oper} {rest : List Oper} {o : Oper} {a : Act} {w : World} {Q : Exit → Act → World → Prop} {b n : Nat} {T : TypeId} {fs : Array Field} {f : Nat → Value}
    (H : Blk w b T n f) (hgd : o.guard = none) (ty : TypeId) (x : Operand) (ho : o.op = .load ty x) (hx : a.eval x = .pointer (some ⟨b, 0, none⟩))
    (hu : P.underlying ty = some (.struct fs)) (hi : (P.info? ty).map (·.size) = some n)
    (h : wpList P ops Q rest (a.put o.dst (.agg (fcells n f))) w) : wpList P ops Q (o :: rest) a w :=
  wpList_load_row hgd ty x ho b hx T (fcells n f) (0, 0) _ H hu rfl (by rw [fcells_size]; exact hi) h
theorem results_blkM {P : Program} {fn : Func} {p : Tmp} {ty : TypeId} (h : fn.results = #[.cell p ty]) (tmps : Array Value) {w : World} {b n : Nat} {T : TypeId} {fs : Array Field} {f : Nat → Value}
    (H : Blk w b T n f) (hp : tmps.getD p undef = .pointer (some ⟨b, 0, none⟩)) (hu : P.underlying ty = some (.struct fs)) (hi : (P.info? ty).map (·.size) = some n) :
    (results fn tmps).run P w = .ok (.agg (fcells n f)) w :=
  results_cell_row h tmps w b T (fcells n f) (0, 0) _ hp H hu rfl (by rw [fcells_size]; exact hi)
theorem mcC_one (al sk : Bool) (qp : Int) (X Y L : Nat → Int) (j : Nat) : (mcC al sk qp X Y L j).oneCell' = true := by
  unfold mcC; split <;> (try rfl); split <;> (try rfl); split <;> (try rfl); split <;> (try rfl); split <;> rfl
/-- The first k are known. -/
def cutF (k : Nat) (X : Nat → Int) (j : Nat) : Int := if j < k then X j else 0
set_option maxRecDepth 100000 in
set_option maxHeartbeats 4000000 in
theorem ref14_any (X Y : Nat → Int) (w : World) (hV : V4b X Y) :
    Calls Try.prog 71 #[.agg (fcells 4 (vc4 X Y))] w fun e w' => e = .returned (.agg (fcells 395 (mcC false false 0 X Y (fun _ => 0)))) ∧ Below w.heap.size w w' := by
  replace hV := Lib.hid hV
  go_enter Try.func71, Try.ntmps71
  have HV0 : Blk (((w.alloc (.cells (fcells 4 (vc4 X Y)) V63T)).alloc (.cells (fcells 395 (mcC false false 0 (fun _ => 0) (fun _ => 0) (fun _ => 0))) M115)).alloc (.cells (fcells 395 (mcC false false 0 (fun _ => 0) (fun _ => 0) (fun _ => 0))) M115)) w.heap.size V63T 4 (vc4 X Y) := ((Blk.new_at _ _ _ rfl).alloc _).alloc _
  go_wp2_with (first | (refine wpList_alloc_blk rfl M115 rfl _ _ alloc115 ?_) | (refine wpList_load_blk HV0 rfl V63T _ rfl rfl und63 (by kernel_rfl) ?_))
  clear HV0
  generalize hw2 : ((w.alloc (.cells (fcells 4 (vc4 X Y)) V63T)).alloc (.cells (fcells 395 (mcC false false 0 (fun _ => 0) (fun _ => 0) (fun _ => 0))) M115)).alloc (.cells (fcells 395 (mcC false false 0 (fun _ => 0) (fun _ => 0) (fun _ => 0))) M115) = w2
  have HR : Blk w2 (w.heap.size + 1) M115 395 (mcC false false 0 (fun _ => 0) (fun _ => 0) (fun _ => 0)) := by rw [← hw2]; exact (Blk.new_at _ _ _ (by simp)).alloc _
  have HZ : Blk w2 (w.heap.size + 1 + 1) M115 395 (mcC false false 0 (cutF 0 X) (cutF 0 Y) (fun _ => 0)) := by rw [← hw2]; exact Blk.new_at _ _ _ (by simp)
  have HW : Below w.heap.size w w2 := by rw [← hw2]; ((repeat (first | exact Below.refl _ _ | assumption | refine Below.setCell ?_ (by first | omega | (simp; done) | (simp; omega)) _ | refine Below.alloc ?_ (by first | omega | (simp; done) | (simp; omega)) _ | refine below_drewN ?_ _ | refine Below.drew ?_ | refine below_setRow ?_ (by first | omega | (simp; done) | (simp; omega)) _)))
  clear hw2
  go_loopw [7] (fun i wr => ∃ k : Nat, k ≤ 4 ∧ i = .int .i64 k ∧ Blk wr (w.heap.size + 1) M115 395 (mcC false false 0 (fun _ => 0) (fun _ => 0) (fun _ => 0)) ∧ Blk wr (w.heap.size + 1 + 1) M115 395 (mcC false false 0 (cutF k X) (cutF k Y) (fun _ => 0)) ∧ Below w.heap.size w wr) (fun i _ => 4 - (intOf i).toNat)
  case atStart => exact ⟨0, by omega, rfl, HR, HZ, HW⟩
  case round =>
    clear HR HZ HW
    obtain ⟨k, hk, rfl, HR, HZ, HW⟩ := hrel
    by_cases hk4 : k < 4
    · have hd : decide ((k : Int) < 4) = true := by simp; omega
      have k0 : (0 : Int) ≤ (k : Int) := by omega
      have k1 : (k : Int) < 4 := by omega
      have hix := fun W => run_index_fcells (P := Try.prog) W V63T 61 4 (vc4 X Y) k und63 (by kernel_rfl) (by kernel_rfl) (by omega) (by omega)
      simp only [Int.toNat_natCast, vc4] at hix
      obtain ⟨⟨b1, b2⟩, b3, b4⟩ := hV.out k hk4
      have hp := fun W => parts_any (X k) (Y k) W (by omega) (by omega)
      replace hp := Lib.hid hp
      have c1 := HZ.cell (k := 3 + k) (by omega)
      have c2 := HZ.cell (k := 7 + k) (by omega)
      have e1 : mcC false false 0 (cutF k X) (cutF k Y) (fun _ => 0) (3 + k) = .int .i64 0 := by
        unfold mcC cutF; rw [if_neg (by omega), if_neg (by omega), if_neg (by omega), if_pos (by omega), if_neg (by omega)]
      have e2 : mcC false false 0 (cutF k X) (cutF k Y) (fun _ => 0) (7 + k) = .int .i64 0 := by
        unfold mcC cutF; rw [if_neg (by omega), if_neg (by omega), if_neg (by omega), if_neg (by omega), if_pos (by omega), if_neg (by omega)]
      rw [e1] at c1; rw [e2] at c2
      have f1 := HZ.free (3 + k)
      have f2 := HZ.free (7 + k)
      clear e1 e2
      go_wp2_with fail
      refine (hp.out _).mono ?_
      rintro e w3 ⟨rfl, rfl⟩
      go_wp2_with fail
      have HZ2 := ((HZ.set (3 + k) (.int .i64 (X k))).set (7 + k) (.int .i64 (Y k))).congr (g := mcC false false 0 (cutF (k + 1) X) (cutF (k + 1) Y) (fun _ => 0)) fun j hj => by
        unfold mcC cutF
        by_cases h0 : j < 3
        · rw [if_neg (by omega), if_neg (by omega)]
          rcases (show j = 0 ∨ j = 1 ∨ j = 2 by omega) with rfl | rfl | rfl <;> rfl
        · by_cases h1 : j < 7
          · rw [if_neg (show ¬ j = 7 + k by omega), if_neg (show ¬ j = 0 by omega), if_neg (show ¬ j = 1 by omega), if_neg (show ¬ j = 2 by omega), if_pos h1]
            rw [if_neg (show ¬ j = 0 by omega), if_neg (show ¬ j = 1 by omega), if_neg (show ¬ j = 2 by omega), if_pos h1]
            by_cases h2 : j = 3 + k
            · rw [if_pos h2, if_pos (by omega), show j - 3 = k by omega]
            · rw [if_neg h2]
              by_cases h3 : j - 3 < k
              · rw [if_pos h3, if_pos (by omega)]
              · rw [if_neg h3, if_neg (by omega)]
          · rw [if_neg (show ¬ j = 3 + k by omega)]
            rw [if_neg (show ¬ j = 0 by omega), if_neg (show ¬ j = 1 by omega), if_neg (show ¬ j = 2 by omega), if_neg h1]
            rw [if_neg (show ¬ j = 0 by omega), if_neg (show ¬ j = 1 by omega), if_neg (show ¬ j = 2 by omega), if_neg h1]
            by_cases h4 : j < 11
            · rw [if_pos h4, if_pos h4]
              by_cases h2 : j = 7 + k
              · rw [if_pos h2, if_pos (by omega), show j - 7 = k by omega]
              · rw [if_neg h2]
                by_cases h3 : j - 7 < k
                · rw [if_pos h3, if_pos (by omega)]
                · rw [if_neg h3, if_neg (by omega)]
            · rw [if_neg (show ¬ j = 7 + k by omega), if_neg h4, if_neg h4]
      exact ⟨⟨k + 1, by omega, by go_num, (HR.other (by omega) _ _).other (by omega) _ _, HZ2, (HW.setCell (by show w.heap.size ≤ w.heap.size + 1 + 1; omega) _).setCell (by show w.heap.size ≤ w.heap.size + 1 + 1; omega) _⟩, by simp [intOf]; omega⟩
    · obtain rfl : k = 4 := by omega
      have hd : decide (((4 : Nat) : Int) < 4) = false := by decide
      replace HZ := HZ.congr (g := mcC false false 0 X Y (fun _ => 0)) fun j _ => by
        unfold mcC cutF
        by_cases h0 : j < 3
        · rcases (show j = 0 ∨ j = 1 ∨ j = 2 by omega) with rfl | rfl | rfl <;> rfl
        · rw [if_neg (show ¬ j = 0 by omega), if_neg (show ¬ j = 1 by omega), if_neg (show ¬ j = 2 by omega)]
          rw [if_neg (show ¬ j = 0 by omega), if_neg (show ¬ j = 1 by omega), if_neg (show ¬ j = 2 by omega)]
          by_cases h1 : j < 7
          · rw [if_pos h1, if_pos h1, if_pos (by omega)]
          · rw [if_neg h1, if_neg h1]
            by_cases h2 : j < 11
            · rw [if_pos h2, if_pos h2, if_pos (by omega)]
            · rw [if_neg h2, if_neg h2]
      go_wp2_with (first | (refine wpList_load_blkM HZ rfl _ _ rfl rfl Try.underlying115 (by kernel_rfl) ?_) | (refine wpList_store_blk HR rfl _ _ _ rfl rfl rfl (by kernel_rfl) (fun j _ => mcC_one _ _ _ _ _ _ j) ?_))
      exact bodyPost_ret (results_blkM rfl _ (HR.setRow_same rfl) rfl Try.underlying115 (by kernel_rfl)) rfl ⟨rfl, below_setRow HW (by omega) _⟩
end Go.Proofs.Ytbldgpemocnboaa

/- The walk of the law CompTouches: true at every input. -/
import Derived.Test.YtbldgpemocnboaaRefTo
namespace Go.Proofs.Ytbldgpemocnboaa
open Go.RowKit Go.Sort
attribute [local go_sem ↓] run_imax run_imin

theorem tmb_of (mb : Int) {M : Nat} (hM : 0 < M) (h : 0 ≤ mb) : ∃ N : Nat, mb.tmod (M : Int) = (N : Int) ∧ N < M := by
  have e1 := Int.tmod_nonneg (M : Int) h
  have e2 := Int.tmod_lt_of_pos mb (show (0 : Int) < (M : Int) by omega)
  exact ⟨(mb.tmod (M : Int)).toNat, by omega, by omega⟩
theorem getD_mem {L : List Int} {i : Nat} (h : i < L.length) : L.getD i 0 ∈ L := by
  rw [List.getD_eq_getElem?_getD, List.getElem?_eq_getElem h]; exact List.getElem_mem h
theorem mem_getD {L : List Int} {x : Int} (h : x ∈ L) : ∃ i, i < L.length ∧ L.getD i 0 = x := by
  obtain ⟨i, hi, e⟩ := List.getElem_of_mem h
  exact ⟨i, hi, by rw [List.getD_eq_getElem?_getD, List.getElem?_eq_getElem hi]; exact e⟩
theorem getD_lt {L : List Int} {i j : Nat} (h : L.Pairwise (· < ·)) (hij : i < j) (hj : j < L.length) : L.getD i 0 < L.getD j 0 := by
  rw [List.pairwise_iff_getElem] at h
  have := h i j (by omega) hj hij
  rw [List.getD_eq_getElem?_getD, List.getElem?_eq_getElem (by omega), List.getD_eq_getElem?_getD, List.getElem?_eq_getElem hj]; exact this
set_option maxRecDepth 1000000 in
set_option maxHeartbeats 16000000 in
theorem compTouches_walk (a0 a1 mb : Int) (X0 Y0 : Nat → Int) (same : Bool) (w : World) (hw0 : 0 ≤ a0 ∧ a0 ≤ 255) (hw1 : 0 ≤ a1 ∧ a1 ≤ 255) (hmb : 0 ≤ mb ∧ mb ≤ 255) (hB : WyB X0 Y0) :
    Calls Try.prog 14 #[.int .u8 a0, .int .u8 a1, .int .u8 mb, .agg (fcells 9 (wyC X0 Y0 same))] w fun e w' => e = .returned (.bool true) ∧ Below w.heap.size w w' := by
  replace hB := Lib.hid hB
  obtain ⟨hmb0, hmb1⟩ := hmb
  obtain ⟨a01, a02⟩ := hw0; obtain ⟨a11, a12⟩ := hw1
  obtain ⟨C, hC⟩ : ∃ C : Nat, 1 + a0 % 5 = (C : Int) := ⟨(1 + a0 % 5).toNat, by omega⟩
  obtain ⟨R, hR⟩ : ∃ R : Nat, 1 + a1 % 5 = (R : Int) := ⟨(1 + a1 % 5).toNat, by omega⟩
  have c1 : 1 ≤ C ∧ C ≤ 5 := by omega
  have r1 : 1 ≤ R ∧ R ≤ 5 := by omega
  obtain ⟨c1, c2⟩ := c1; obtain ⟨r1, r2⟩ := r1
  have hV := wyV_b same X0 Y0
  obtain ⟨X, hXe⟩ : ∃ X, wyV same X0 = X := ⟨_, rfl⟩
  obtain ⟨Y, hYe⟩ : ∃ Y, wyV same Y0 = Y := ⟨_, rfl⟩
  have hws := fun W => ways_any X0 Y0 same W hB.out
  rw [hXe, hYe] at hV hws
  clear hXe hYe
  replace hV := Lib.hid hV; replace hws := Lib.hid hws
  obtain ⟨M, hMe⟩ : ∃ M, C * R = M := ⟨_, rfl⟩
  have hM0 : 0 < M := by rw [← hMe]; exact Nat.mul_pos (by omega) (by omega)
  have hM9 : M ≤ 25 := by rw [← hMe]; exact Nat.mul_le_mul c2 r2
  obtain ⟨N, hN1, hN2⟩ := tmb_of mb hM0 hmb0
  have hMi : (C : Int) * (R : Int) = (M : Int) := by rw [← Int.natCast_mul, hMe]
  have hN3 : mb.tmod (M : Int) = (N : Int) := hN1
  have hz0 : ((M : Int) == 0) = false := by simp; omega
  have hp0 : 0 < (M : Int) := by omega
  replace hMe := Lib.hid hMe; replace hN1 := Lib.hid hN1
  go_enter Try.func14, Try.ntmps14
  have HI : Blk (w.alloc (.cells (fcells 9 (wyC X0 Y0 same)) WYT)) w.heap.size WYT 9 (wyC X0 Y0 same) := Blk.new_at _ _ _ rfl
  have HW : Below w.heap.size w (w.alloc (.cells (fcells 9 (wyC X0 Y0 same)) WYT)) := by ((repeat (first | exact Below.refl _ _ | assumption | refine Below.setCell ?_ (by first | omega | (simp; done) | (simp; omega)) _ | refine Below.alloc ?_ (by first | omega | (simp; done) | (simp; omega)) _ | refine below_drewN ?_ _ | refine Below.drew ?_ | refine below_setRow ?_ (by first | omega | (simp; done) | (simp; omega)) _)))
  go_wp2_with fail
  refine (awake14 _).mono ?_
  rintro e w1 ⟨rfl, hb⟩
  replace HI := HI.later hb; replace HW := below_step HW hb
  clear hb
  go_wp2_with (refine wpList_load_blkM HI rfl WYT _ rfl rfl Try.underlying66 (by kernel_rfl) ?_)
  clear hN3 hz0 hp0 hC hR
  refine (hws.out _).mono ?_
  rintro e w2 ⟨rfl, hb⟩
  replace HW := below_step HW hb
  clear hb HI
  have HZ : Blk (w2.alloc (.cells (fcells 4 fun _ => .complex .f64 0 0) V63T)) w2.heap.size V63T 4 (fun _ => .complex .f64 0 0) := Blk.new_at _ _ _ rfl
  go_upto_region 6 with (first | (refine wpList_alloc_blk rfl V63T rfl _ _ alloc63 ?_) | (refine wpList_store_blk HZ rfl _ _ _ rfl rfl rfl (by kernel_rfl) (fun j _ => rfl) ?_))
  generalize hw3 : (w2.alloc (.cells (fcells 4 fun _ => .complex .f64 0 0) V63T)).setRow w2.heap.size (fcells 4 (vc4 X Y)) = w3
  have HV : Blk w3 w2.heap.size V63T 4 (vc4 X Y) := by rw [← hw3]; exact HZ.setRow_same rfl
  replace HW : Below w.heap.size w w3 := by rw [← hw3]; exact below_setRow (HW.alloc HW.size _) HW.size _
  clear hw3 HZ
  generalize w2.heap.size = vq at *
  go_wp2_with (refine wpList_load_blk HV rfl V63T _ rfl rfl und63 (by kernel_rfl) ?_)
  refine (ref14_any X Y _ hV.out).mono ?_
  rintro e w4 ⟨rfl, hb⟩
  replace HV := HV.later hb; replace HW := below_step HW hb
  clear hb
  go_wp2_with fail
  refine (refTouches_any C R N false false 0 X Y (fun _ => 0) _ (by omega) (by omega) (by omega) (by omega) (by omega) hV.out).mono ?_
  rintro e w5 ⟨gw, F, rfl, hgw, V1, hF, hb⟩
  replace HV := HV.later hb; replace HW := below_step HW hb
  clear hb hgw
  rw [hMe.out] at V1 ⊢
  go_wp2_with (refine wpList_load_blk HV rfl V63T _ rfl rfl und63 (by kernel_rfl) ?_)
  refine (touches_any C R N X Y _ (by omega) (by omega) (by omega) (by omega) (by omega) hV.out).mono ?_
  rintro e w6 ⟨gl, cap, L, rfl, hgl, hL0, hL1, hLp, hLm, V2, hb⟩
  replace HV := HV.later hb; replace V1 := V1.later hb; replace HW := below_step HW hb
  clear hb hgl
  replace hF := Lib.hid hF; replace hLp := Lib.hid hLp; replace hLm := Lib.hid hLm
  have hLz : Hid (∀ i, i < L.length → ∃ z : Nat, L.getD i 0 = (z : Int) ∧ z < M ∧ touched C R N X Y z) := Lib.hid fun i hi => by
    obtain ⟨z, e, h⟩ := (hLm.out _).1 (getD_mem hi)
    exact ⟨z, e, by rw [← hMe.out]; exact touched_lt (by omega) (by omega) h, h⟩
  go_wp2_with (refine wpList_make_vb rfl _ _ 55 rfl 4 (.bool false) 1 Try.underlying55 infoBool rfl .i64 .i64 _ _ M rfl rfl (by simp) (by simp) (by omega) (by unfold maxLen; omega) ?_)
  intro w7 hvb hb
  have n1 : gw ≠ w6.heap.size := by have := V1.lt; omega
  have n2 : gl ≠ w6.heap.size := by have := V2.lt; omega
  have n3 : vq ≠ w6.heap.size := by have := HV.lt; omega
  have n4 : w.heap.size ≤ w6.heap.size := HW.size
  replace HV := HV.later hb; replace V1 := V1.later hb; replace V2 := V2.later hb; replace HW := below_step HW hb
  have V3 : VB w7 w6.heap.size 4 M (blv fun _ => false) := hvb
  clear hvb hb
  generalize w6.heap.size = gs at *
  go_wp2_with fail
  go_loopw [58] (fun t wr => ∃ (i : Nat) (G : Nat → Bool), i ≤ L.length ∧ t = .int .i64 (i : Int) ∧ Hid (∀ z, G z = true ↔ ∃ q, q < i ∧ L.getD q 0 = (z : Int)) ∧ Blk wr vq V63T 4 (vc4 X Y) ∧ VB wr gw 4 M (blv F) ∧ VB wr gl 3 L.length (fun k => .int .i64 (L.getD k 0)) ∧ VB wr gs 4 M (blv G) ∧ Below w.heap.size w wr) (fun t _ => L.length - (intOf t).toNat)
  case atStart => exact ⟨0, _, by omega, rfl, Lib.hid (fun z => ⟨fun h => (by cases h), fun ⟨q, h, _⟩ => by omega⟩), HV, V1, V2, V3, HW⟩
  case round =>
    clear HV V1 V2 V3 HW
    obtain ⟨i, G, hi, rfl, hG, HV, V1, V2, V3, HW⟩ := hrel
    by_cases hiL : i < L.length
    · have hd : decide ((i : Int) < (L.length : Int)) = true := by simp; omega
      obtain ⟨z, hz, hzM, hzt⟩ := hLz.out i hiL
      have c0 := V2.cell hiL
      rw [hz] at c0
      have d0 : decide ((z : Int) < 0) = false := by simp
      have d1 : decide ((M : Int) ≤ (z : Int)) = false := by simp; omega
      have d1n : ¬ M ≤ z := by omega
      have c9 := V3.cell hzM
      have f9 := V3.free z
      unfold blv at c9
      have z1 : (0 : Int) ≤ (z : Int) := by omega
      have z2 : (z : Int) < (M : Int) := by omega
      have hG2 : Hid (∀ y, orB z G y = true ↔ ∃ q, q < i + 1 ∧ L.getD q 0 = (y : Int)) := Lib.hid fun y => by
        rw [orB_iff, hG.out y]
        constructor
        · rintro (⟨q, h1, h2⟩ | h1)
          · exact ⟨q, by omega, h2⟩
          · exact ⟨i, by omega, by rw [hz, h1]⟩
        · rintro ⟨q, h1, h2⟩
          by_cases e : q = i
          · subst e; right; rw [hz] at h2; omega
          · exact Or.inl ⟨q, by omega, h2⟩
      have hstep : ∀ W, VB W gs 4 M (blv G) → VB (W.setCell ⟨gs, z, none⟩ (.bool true)) gs 4 M (blv (orB z G)) := fun W h => (h.set z (.bool true)).congr fun q _ => by
        unfold blv orB
        by_cases e : q = z
        · rw [if_pos e]; simp [e]
        · rw [if_neg e]; simp [e]
      have hstep := Lib.hid hstep
      clear hstep
      replace hz := Lib.hid hz; replace hzt := Lib.hid hzt
      have V3b : VB (wr.setCell ⟨gs, z, none⟩ (.bool true)) gs 4 M (blv (orB z G)) := (V3.set z (.bool true)).congr fun q _ => by
        unfold blv orB
        by_cases e : q = z
        · rw [if_pos e]; simp [e]
        · rw [if_neg e]; simp [e]
      replace V3b := Lib.hid V3b
      by_cases hi0 : i = 0
      · have d2 : ¬ ((0 : Int) < (i : Int)) := by omega
        replace hi0 := Lib.hid hi0
        go_wp2_with fail
        exact ⟨⟨i + 1, _, by omega, by go_num, hG2, HV.other (Ne.symm n3) _ _, V1.other (Ne.symm n1) _ _, V2.other (Ne.symm n2) _ _, V3b.out, HW.setCell n4 _⟩, by simp [intOf]; omega⟩
      · obtain ⟨j, hj⟩ : ∃ j, i = j + 1 := ⟨i - 1, by omega⟩
        obtain ⟨y, hy, hyM, _⟩ := hLz.out j (by omega)
        have hyz := getD_lt hLp.out (show j < i by omega) hiL
        rw [hy, hz.out] at hyz
        have c8 := V2.cell (k := j) (by omega)
        rw [hy] at c8
        have d2 : (0 : Int) < (i : Int) := by omega
        have d3 : decide ((z : Int) ≤ (y : Int)) = false := by simp; omega
        have d3n : ¬ z ≤ y := by omega
        have e9 : (i : Int) - 1 = (j : Int) := by omega
        have j0 : (0 : Int) ≤ (j : Int) := by omega
        have j1 : (j : Int) < (L.length : Int) := by omega
        replace hy := Lib.hid hy; replace hi0 := Lib.hid hi0; replace hj := Lib.hid hj
        clear hyz
        go_wp2_with fail
        exact ⟨⟨i + 1, _, by omega, by go_num, hG2, HV.other (Ne.symm n3) _ _, V1.other (Ne.symm n1) _ _, V2.other (Ne.symm n2) _ _, V3b.out, HW.setCell n4 _⟩, by simp [intOf]; omega⟩
    · obtain rfl : i = L.length := by omega
      have hd : decide ((L.length : Int) < (L.length : Int)) = false := by simp
      have hGF : Hid (∀ z, z < M → G z = F z) := Lib.hid fun z hz => by
        rw [Bool.eq_iff_iff, hG.out z, hF.out z]
        constructor
        · rintro ⟨q, h1, h2⟩
          obtain ⟨z', e, _, h⟩ := hLz.out q h1
          obtain rfl : z = z' := by omega
          exact h
        · intro h
          exact mem_getD ((hLm.out _).2 ⟨z, rfl, h⟩)
      clear V2
      go_wp2_with fail
      go_loopw [91] (fun t wr => ∃ (i : Nat), i ≤ M ∧ t = .int .i64 (i : Int) ∧ Blk wr vq V63T 4 (vc4 X Y) ∧ VB wr gw 4 M (blv F) ∧ VB wr gs 4 M (blv G) ∧ Below w.heap.size w wr) (fun t _ => M - (intOf t).toNat)
      case atStart => exact ⟨0, by omega, rfl, HV, V1, V3, HW⟩
      case round =>
        clear HV V1 V3 HW hd
        obtain ⟨i, hi2, rfl, HV, V1, V3, HW⟩ := hrel
        by_cases hiM : i < M
        · have hd : decide ((i : Int) < (M : Int)) = true := by simp; omega
          have e0 := hGF.out i hiM
          obtain ⟨v, hv⟩ : ∃ v, F i = v := ⟨_, rfl⟩
          have c0 : ∀ p : Regrown, (Sort.grow (redrawn wr p.d) p.os).cell? ⟨gw, i, none⟩ = some (.bool v) := fun p => by rw [← hv]; exact (V1.re p).cell hiM
          have c1 : ∀ p : Regrown, (Sort.grow (redrawn wr p.d) p.os).cell? ⟨gs, i, none⟩ = some (.bool v) := fun p => by rw [← hv, ← e0]; exact (V3.re p).cell hiM
          have i0 : (0 : Int) ≤ (i : Int) := by omega
          have i1 : (i : Int) < (M : Int) := by omega
          replace e0 := Lib.hid e0; replace hv := Lib.hid hv
          cases v
          all_goals
            go_wp2_with fail
            refine wp_region_quiet_below (by kernel_rfl) (by kernel_rfl) ?_
            repeat (go_big_quiet_step (fail))
            refine wpQuiet_nil ?_
            intro wq hwq
            replace hwq := Cls.below hwq
            replace HV := HV.later hwq; replace V1 := V1.later hwq; replace V3 := V3.later hwq; replace HW := below_step HW hwq
            clear hwq c0 c1
            go_wp2_with fail
            exact ⟨⟨i + 1, by omega, by go_num, HV, V1, V3, HW⟩, by simp [intOf]; omega⟩
        · obtain rfl : i = M := by omega
          have hd : decide ((i : Int) < (i : Int)) = false := by simp
          go_wp2_with (refine wpList_load_blk HV rfl V63T _ rfl rfl und63 (by kernel_rfl) ?_)
          refine (reach_any C R N X Y _ (by omega) (by omega) (by omega) hV.out).mono ?_
          rintro e w9 ⟨rfl, hb⟩
          replace HW := below_step HW hb
          go_wp2_with fail
          go_ret
          exact ⟨rfl, HW⟩
end Go.Proofs.Ytbldgpemocnboaa

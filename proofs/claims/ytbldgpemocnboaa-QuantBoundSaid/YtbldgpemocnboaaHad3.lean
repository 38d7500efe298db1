/- Walks of had.back, had.Forward and had.Inverse: exact, where the block's numbers are small enough. -/
import Derived.Test.YtbldgpemocnboaaHad2
namespace Go.Proofs.Ytbldgpemocnboaa
open Go.RowKit
attribute [local go_sem ↓] run_imax run_imin

/-- Which row has a number. -/
def ordI (k : Nat) : Nat := [0, 7, 3, 4, 1, 6, 2, 5].getD k 0
theorem ordI_ord : ∀ k, k < 8 → ordI (ordN k) = k := by decide
theorem ord_ordI : ∀ k, k < 8 → ordN (ordI k) = k := by decide
theorem ordI_lt : ∀ k, k < 8 → ordI k < 8 := by decide

theorem stages_bak8 (a b : Nat → Int) (x : Nat) (hx : x < 8) : stages (fun j => (a (ordI j), b (ordI j))) 8 x = (bak8 a x, bak8 b x) := by
  have h : x = 0 ∨ x = 1 ∨ x = 2 ∨ x = 3 ∨ x = 4 ∨ x = 5 ∨ x = 6 ∨ x = 7 := by omega
  rcases h with rfl | rfl | rfl | rfl | rfl | rfl | rfl | rfl <;>
    (simp [stages, st, ordI, cadd, csub, bak8, sg]; try omega)

theorem bak8_bd {K : Int} {a : Nat → Int} (h : ∀ j, j < 8 → -K ≤ a j ∧ a j ≤ K) (u : Nat) (hu : u < 8) : -(8 * K) ≤ bak8 a u ∧ bak8 a u ≤ 8 * K := by
  have h0 := h 0 (by omega); have h1 := h 1 (by omega); have h2 := h 2 (by omega); have h3 := h 3 (by omega)
  have h4 := h 4 (by omega); have h5 := h 5 (by omega); have h6 := h 6 (by omega); have h7 := h 7 (by omega)
  have h : u = 0 ∨ u = 1 ∨ u = 2 ∨ u = 3 ∨ u = 4 ∨ u = 5 ∨ u = 6 ∨ u = 7 := by omega
  rcases h with rfl | rfl | rfl | rfl | rfl | rfl | rfl | rfl <;> (simp [bak8, sg]; omega)

/-- The rows, turned back; the block lies down. -/
def backF (f : Nat → Int) (k : Nat) : Int := bak8 (fun j => f (8 * (k % 8) + j)) (k / 8)

/-- What the rows' block holds while the pair of rows r, r + 1 is written out. -/
def backPart (f : Nat → Int) (r k p : Nat) : Int := if p % 8 < r ∨ (p % 8 < r + 2 ∧ p / 8 < k) then backF f p else 0
theorem backPart_step (f : Nat → Int) (r k j : Nat) (hr : r < 8) (hr2 : r % 2 = 0) :
    (if j = 8 * k + r + 1 then ival (fun _ => bak8 (fun i => f (8 * r + 8 + i)) k) 0 else if j = 8 * k + r then ival (fun _ => bak8 (fun i => f (8 * r + i)) k) 0 else ival (backPart f r k) j) = ival (backPart f r (k + 1)) j := by
  unfold ival
  by_cases h1 : j = 8 * k + r + 1
  · subst h1
    rw [if_pos rfl]
    unfold backPart backF
    have e1 : (8 * k + r + 1) % 8 = r + 1 := by omega
    have e2 : (8 * k + r + 1) / 8 = k := by omega
    rw [e1, e2, if_pos (Or.inr ⟨by omega, by omega⟩)]
    rfl
  · rw [if_neg h1]
    by_cases h2 : j = 8 * k + r
    · subst h2
      rw [if_pos rfl]
      unfold backPart backF
      have e1 : (8 * k + r) % 8 = r := by omega
      have e2 : (8 * k + r) / 8 = k := by omega
      rw [e1, e2, if_pos (Or.inr ⟨by omega, by omega⟩)]
    · rw [if_neg h2]
      unfold backPart
      congr 1
      by_cases h3 : j % 8 < r ∨ (j % 8 < r + 2 ∧ j / 8 < k)
      · rw [if_pos h3, if_pos (by omega)]
      · rw [if_neg h3, if_neg (by omega)]


set_option maxRecDepth 100000 in
set_option maxHeartbeats 2000000 in
theorem back_any0 (f : Nat → Int) (w : World) (K : Int) (hK : 8 * K < 9007199254740992) (hf : ∀ j, j < 64 → -K ≤ f j ∧ f j ≤ K) :
    Calls Try.prog 94 #[.agg (fcells 64 (ival f))] w fun e w' => e = .returned (.agg (fcells 64 (ival (backF f)))) ∧ Below w.heap.size w w' := by
  go_enter Try.func94, Try.ntmps94
  go_wp2_with (refine wpList_alloc_blk rfl 27 rfl _ _ alloc28 ?_)
  go_loopw [4] (fun i wr => ∃ r : Nat, r ≤ 8 ∧ r % 2 = 0 ∧ i = .int .i64 r ∧ Blk wr w.heap.size 27 64 (ival f) ∧ (∃ g, Blk wr (w.heap.size + 1) 27 64 g) ∧
      Blk wr (w.heap.size + 1 + 1) 27 64 (ival (backPart f r 0)) ∧ Below w.heap.size w wr)
    (fun r _ => 8 - (intOf r).toNat)
  case atStart =>
    exact ⟨0, by omega, rfl, rfl, ((Blk.new_at _ _ _ rfl).alloc _).alloc _, ⟨_, (Blk.new_at _ _ _ (by simp)).alloc _⟩, (Blk.new_at _ _ _ (by simp)).congr (fun j _ => by simp [ival, backPart]),
      (((Below.refl _ _).alloc (Nat.le_refl _) _).alloc (by simp) _).alloc (by simp; omega) _⟩
  case round =>
    obtain ⟨r, hr, hr2, rfl, HB, ⟨g, HR⟩, HO, HW⟩ := hrel
    by_cases hlt : r < 8
    · go_wp2_with (refine wpList_alloc_blk rfl 166 rfl _ _ alloc56 ?_)
      refine (order_any _).mono ?_
      rintro e w0 ⟨rfl, hb0⟩
      go_wp2_with fail
      have hBV := HO.lt
      have HV0 : Blk w0 wr.heap.size 166 8 (fun _ => .complex .f64 0 0) := (Blk.new wr _ _ _).below hb0 (by simp)
      have HB0 : Blk w0 w.heap.size 27 64 (ival f) := (HB.alloc _).below hb0 (by simp; omega)
      have HR0 : Blk w0 (w.heap.size + 1) 27 64 g := (HR.alloc _).below hb0 (by simp; omega)
      have HO0 : Blk w0 (w.heap.size + 1 + 1) 27 64 (ival (backPart f r 0)) := (HO.alloc _).below hb0 (by simp; omega)
      have HW0 : Below w.heap.size w w0 := (HW.alloc (by omega) _).trans (hb0.mono (by simp; omega))
      clear hb0
      clear HB HR HO HW
      generalize wr.heap.size = BV at *
      go_loopw [19] (fun i wi => ∃ k : Nat, k ≤ 8 ∧ i = .int .i64 k ∧ Blk wi w.heap.size 27 64 (ival f) ∧ Blk wi (w.heap.size + 1) 27 64 g ∧
          Blk wi (w.heap.size + 1 + 1) 27 64 (ival (backPart f r 0)) ∧
          Blk wi BV 166 8 (fun j => if ordI j < k then cval (f (8 * r + ordI j), f (8 * r + 8 + ordI j)) else .complex .f64 0 0) ∧ Below w.heap.size w wi)
        (fun i _ => 8 - (intOf i).toNat)
      case atStart => exact ⟨0, by omega, rfl, HB0, HR0, HO0, by simpa using HV0, HW0⟩
      case round =>
        clear HV0 HB0 HR0 HO0 HW0
        obtain ⟨k, hk, rfl, HB, HR, HO, HV, HW⟩ := hrel
        by_cases hk8 : k < 8
        · have c1 := HB.cell (k := 8 * r + k) (by omega)
          have c2 := HB.cell (k := 8 * r + 8 + k) (by omega)
          have ho := ord_lt k hk8
          have hio := ordI_ord k hk8
          have hix : ∀ W, (Instr.index 168 (.agg (fcells 8 ordV)) (.int .i64 (k : Int))).run Try.prog W = .ok (.int .i64 (ordN k)) W := fun W =>
            run_index_fcells W _ _ 8 ordV k und52 (by kernel_rfl) (by kernel_rfl) (by omega) (by omega)
          have c3 := HV.cell ho
          rw [if_neg (by omega)] at c3
          have HV2 := (HV.set (ordN k) (cval (f (8 * r + k), f (8 * r + 8 + k)))).congr (g := fun j => if ordI j < k + 1 then cval (f (8 * r + ordI j), f (8 * r + 8 + ordI j)) else .complex .f64 0 0) (by
            intro j hj
            by_cases e : j = ordN k
            · subst e; simp [hio]
            · have e0 : ordI j ≠ k := fun h => e (by rw [← h, ord_ordI j hj])
              by_cases e2 : ordI j < k
              · simp [e, e2, show ordI j < k + 1 by omega]
              · simp [e, e2, show ¬ ordI j < k + 1 by omega])
          clear hio
          generalize ordN k = o at *
          unfold ival at c1 c2
          have f3 := HV.free o
          have i1 : (0 : Int) ≤ 8 * r + k := by omega
          have i2 : (8 : Int) * r + k < 64 := by omega
          have i3 : (0 : Int) ≤ 8 * r + 8 + k := by omega
          have i4 : (8 : Int) * r + 8 + k < 64 := by omega
          go_wp2
          refine wp_region_still_tail 17 (by kernel_rfl) (by kernel_rfl) ?_
          simp only [List.take_succ_cons, List.take_zero, List.drop_succ_cons, List.drop_zero]
          repeat (refine wpStill_step (fun K hK => ?_); go_simp; (try go_bits); refine hK _ ?_; clear hK K)
          refine wpStill_nil ?_
          change wpList _ _ _ _ _ wr.drew
          go_wp2
          refine ⟨⟨k + 1, by omega, by go_num, HB.other (by omega) _ _, HR.other (by omega) _ _, HO.other (by omega) _ _, HV2, (HW.setCell (p := ⟨BV, o, none⟩) (by show _ ≤ BV; omega) _).drew⟩, by simp [intOf]; omega⟩
        · obtain rfl : k = 8 := by omega
          have HV := HV.congr (g := fun j => cval (f (8 * r + ordI j), f (8 * r + 8 + ordI j))) (fun j hj => by rw [if_pos (ordI_lt j hj)])
          go_wp2_with fail
          have hfb : Bd K (fun j => (f (8 * r + ordI j), f (8 * r + 8 + ordI j))) := fun j hj => ⟨hf _ (by have := ordI_lt j hj; omega), hf _ (by have := ordI_lt j hj; omega)⟩
          have hK0 : 0 ≤ K := by have := hf 0 (by omega); omega
          go_loopw [8] (fun h wi => ∃ n : Nat, (n = 1 ∨ n = 2 ∨ n = 4 ∨ n = 8) ∧ h = .int .i64 n ∧ Blk wi w.heap.size 27 64 (ival f) ∧ Blk wi (w.heap.size + 1) 27 64 g ∧
              Blk wi (w.heap.size + 1 + 1) 27 64 (ival (backPart f r 0)) ∧ Blk wi BV 166 8 (fun j => cval (stages (fun j => (f (8 * r + ordI j), f (8 * r + 8 + ordI j))) n j)) ∧ Below w.heap.size w wi)
            (fun h _ => 8 - (intOf h).toNat)
          case atStart => exact ⟨1, Or.inl rfl, rfl, HB, HR, HO, HV, HW⟩
          case round =>
            clear HB HR HO HV HW
            obtain ⟨n, hn, rfl, HB, HR, HO, HV, HW⟩ := hrel
            by_cases hn8 : n < 8
            · have hn' : n = 1 ∨ n = 2 ∨ n = 4 := by omega
              have hbd : Bd (4 * K) (stages (fun j => (f (8 * r + ordI j), f (8 * r + 8 + ordI j))) n) := fun j hj => by
                have := bd_stages hfb hK0 n hn j hj
                rcases hn' with rfl | rfl | rfl <;> simp at this <;> omega
              have hstep := Lib.hid (stages_step (fun j => (f (8 * r + ordI j), f (8 * r + 8 + ordI j))) n hn')
              generalize stages (fun j => (f (8 * r + ordI j), f (8 * r + 8 + ordI j))) n = F at *
              go_wp2
              go_loopw [46] (fun i wi => ∃ k : Nat, k ≤ 8 ∧ i = .int .i64 k ∧ Blk wi w.heap.size 27 64 (ival f) ∧ Blk wi (w.heap.size + 1) 27 64 g ∧
                  Blk wi (w.heap.size + 1 + 1) 27 64 (ival (backPart f r 0)) ∧ Blk wi BV 166 8 (fun j => cval (stPart n k F j)) ∧ Below w.heap.size w wi)
                (fun i _ => 8 - (intOf i).toNat)
              case atStart => exact ⟨0, by omega, rfl, HB, HR, HO, by simpa [stPart] using HV, HW⟩
              case round =>
                clear HB HR HO HV HW
                obtain ⟨k, hk, rfl, HB, HR, HO, HV, HW⟩ := hrel
                by_cases hk8 : k < 8
                · by_cases hb : k &&& n = 0
                  · have hand : bits .and .i64 (k : Int) (n : Int) = 0 := by rw [bits_and_i64 _ _ (by omega) (by omega), hb]; rfl
                    have hkn : k + n < 8 := pair_lt n hn8 hn' k hk8 hb
                    have e1 : stPart n k F k = F k := if_neg (by rw [hb]; omega)
                    have e2 : stPart n k F (k + n) = F (k + n) := if_neg (by have := pair_hi n hn8 hn' k hk8 hb; omega)
                    have c1 := HV.cell (k := k) (by omega)
                    have c2 := HV.cell (k := k + n) (by omega)
                    rw [e1] at c1; rw [e2] at c2
                    unfold cval at c1 c2
                    have f1 := HV.free k
                    have f2 := HV.free (k + n)
                    have HB2 := HV.set k (.complex .f64 (fbits (cadd (F k) (F (k + n))).1) (fbits (cadd (F k) (F (k + n))).2))
                    have c3 := HB2.cell (k := k + n) (by omega)
                    rw [if_neg (by omega), e2] at c3
                    unfold cval at c3
                    have b1 := hbd k (by omega)
                    have b2 := hbd (k + n) (by omega)
                    have hadd := fun W => cval_add (P := Try.prog) W 61 (F k) (F (k + n)) (8 * K) hK (by omega) (by omega) (by omega) (by omega) (by omega) (by omega)
                    have hsub := fun W => cval_sub (P := Try.prog) W 61 (F k) (F (k + n)) (8 * K) hK (by omega) (by omega) (by omega) (by omega) (by omega) (by omega)
                    have HN := (HB2.set (k + n) (.complex .f64 (fbits (csub (F k) (F (k + n))).1) (fbits (csub (F k) (F (k + n))).2))).congr (g := fun j => cval (stPart n (k + 1) F j)) (by
                      intro j hj
                      rw [← stPart_step n hn8 hn' k hk8 hb F j hj]
                      split
                      · rfl
                      · split <;> rfl)
                    clear e1 e2 b1 b2 HB2
                    go_wp2
                    go_quiet (fail)
                    go_wp2
                    refine ⟨⟨k + 1, by omega, by go_num, (HB.other (by omega) _ _).other (by omega) _ _, (HR.other (by omega) _ _).other (by omega) _ _, (HO.other (by omega) _ _).other (by omega) _ _, HN,
                      ((below_drewN HW _).setCell (p := ⟨BV, k, none⟩) (by show _ ≤ BV; omega) _).setCell (p := ⟨BV, k + n, none⟩) (by show _ ≤ BV; omega) _⟩, by simp [intOf]; omega⟩
                  · have hand : bits .and .i64 (k : Int) (n : Int) = ((k &&& n : Nat) : Int) := bits_and_i64 _ _ (by omega) (by omega)
                    have hne : (((k &&& n : Nat) : Int) == 0) = false := by rw [beq_eq_false_iff_ne]; omega
                    have HN := HV.congr (g := fun j => cval (stPart n (k + 1) F j)) (fun j hj => by rw [stPart_skip n hn8 hn' k hk8 hb F j hj])
                    go_wp2
                    refine ⟨⟨k + 1, by omega, by go_num, HB, HR, HO, HN, HW⟩, by simp [intOf]; omega⟩
                · obtain rfl : k = 8 := by omega
                  have HF' := HV.congr (g := fun j => cval (stages (fun j => (f (8 * r + ordI j), f (8 * r + 8 + ordI j))) (2 * n) j)) (fun j hj => by
                    rw [hstep.out]
                    unfold stPart
                    rw [if_pos (by omega)])
                  go_wp2
                  refine ⟨⟨2 * n, by omega, by go_num, HB, HR, HO, HF', HW⟩, by simp [intOf]; omega⟩
            · obtain rfl : n = 8 := by omega
              clear hn hn8 hfb
              have HV := HV.congr (g := fun j => cval (bak8 (fun j => f (8 * r + j)) j, bak8 (fun j => f (8 * r + 8 + j)) j)) (fun j hj => by
                rw [stages_bak8 (fun j => f (8 * r + j)) (fun j => f (8 * r + 8 + j)) j hj])
              go_wp2_with (refine wpList_load_blk HV rfl _ _ rfl rfl und56 (by kernel_rfl) ?_)
              go_loopw [75] (fun i wi => ∃ k : Nat, k ≤ 8 ∧ i = .int .i64 k ∧ Blk wi w.heap.size 27 64 (ival f) ∧ Blk wi (w.heap.size + 1) 27 64 g ∧
                  Blk wi (w.heap.size + 1 + 1) 27 64 (ival (backPart f r k)) ∧ Below w.heap.size w wi)
                (fun i _ => 8 - (intOf i).toNat)
              case atStart => exact ⟨0, by omega, rfl, HB, HR, HO, HW⟩
              case round =>
                clear HB HR HO HW HV
                obtain ⟨k, hk, rfl, HB, HR, HO, HW⟩ := hrel
                by_cases hk8 : k < 8
                · have hix : ∀ W, (Instr.index 166 (.agg (fcells 8 fun j => cval (bak8 (fun j => f (8 * r + j)) j, bak8 (fun j => f (8 * r + 8 + j)) j))) (.int .i64 (k : Int))).run Try.prog W =
                        .ok (.complex .f64 (fbits (bak8 (fun j => f (8 * r + j)) k)) (fbits (bak8 (fun j => f (8 * r + 8 + j)) k))) W := fun W =>
                    run_index_fcells W _ _ 8 _ k und56 (by kernel_rfl) (by kernel_rfl) (by omega) (by omega)
                  have q1 := bak8_bd (K := K) (a := fun j => f (8 * r + j)) (fun j hj => hf _ (by omega)) k hk8
                  have q2 := bak8_bd (K := K) (a := fun j => f (8 * r + 8 + j)) (fun j hj => hf _ (by omega)) k hk8
                  have v1 := fun W => conv_back W (bak8 (fun j => f (8 * r + j)) k) (by omega)
                  have v2 := fun W => conv_back W (bak8 (fun j => f (8 * r + 8 + j)) k) (by omega)
                  have st := fun j => backPart_step f r k j hlt hr2
                  have HO2 := ((HO.set (8 * k + r) (ival (fun _ => bak8 (fun i => f (8 * r + i)) k) 0)).set (8 * k + r + 1) (ival (fun _ => bak8 (fun i => f (8 * r + 8 + i)) k) 0)).congr (fun j _ => st j)
                  have HO1 := HO.set (8 * k + r) (ival (fun _ => bak8 (fun i => f (8 * r + i)) k) 0)
                  have c1 := HO.cell (k := 8 * k + r) (by omega)
                  have c2 := HO.cell (k := 8 * k + r + 1) (by omega)
                  have c3 := HO1.cell (k := 8 * k + r + 1) (by omega)
                  rw [if_neg (by omega)] at c3
                  have f1 := HO.free (8 * k + r)
                  have f2 := HO.free (8 * k + r + 1)
                  generalize hX : bak8 (fun j => f (8 * r + j)) = X at *
                  generalize hY : bak8 (fun j => f (8 * r + 8 + j)) = Y at *
                  unfold ival at c1 c2 c3
                  clear st HO1 hX hY q1 q2
                  go_wp2
                  refine ⟨⟨k + 1, by omega, by go_num, (HB.other (by omega) _ _).other (by omega) _ _, (HR.other (by omega) _ _).other (by omega) _ _, HO2,
                    (HW.setCell (p := ⟨w.heap.size + 1 + 1, 8 * k + r, none⟩) (by show _ ≤ w.heap.size + 1 + 1; omega) _).setCell (p := ⟨w.heap.size + 1 + 1, 8 * k + r + 1, none⟩) (by show _ ≤ w.heap.size + 1 + 1; omega) _⟩, by simp [intOf]; omega⟩
                · obtain rfl : k = 8 := by omega
                  have HO3 := HO.congr (g := ival (backPart f (r + 2) 0)) (fun j hj => by
                    unfold ival backPart
                    congr 1
                    by_cases h3 : j % 8 < r ∨ (j % 8 < r + 2 ∧ j / 8 < 8)
                    · rw [if_pos h3, if_pos (by omega)]
                    · rw [if_neg h3, if_neg (by omega)])
                  go_wp2
                  refine ⟨⟨r + 2, by omega, by omega, by go_num, HB, ⟨g, HR⟩, HO3, HW⟩, by simp [intOf]; omega⟩
    · obtain rfl : r = 8 := by omega
      have HO3 := HO.congr (g := ival (backF f)) (fun j hj => by
        unfold ival backPart
        rw [if_pos (Or.inl (by omega))])
      go_wp2_with (first | (refine wpList_load_blk HO3 rfl _ _ rfl rfl und28 (by kernel_rfl) ?_) | (refine wpList_store_blk HR rfl _ _ _ rfl rfl rfl (by kernel_rfl) (fun j _ => rfl) ?_))
      exact bodyPost_ret (v := .agg (fcells 64 _)) (results_blk rfl _ (HR.setRow_same rfl) rfl und28 (by kernel_rfl)) rfl ⟨rfl, below_setRow HW (by omega) _⟩
end Go.Proofs.Ytbldgpemocnboaa

/- Walks of had.rows and had.back: each row of a block turned, or turned back, exactly, where the block's numbers are small enough. -/
import Derived.Test.YtbldgpemocnboaaHad1
import Derived.Test.YtbldgpemocnboaaOb
import Derived.StillTailTactics
namespace Go.Proofs.Ytbldgpemocnboaa
open Go.RowKit
attribute [local go_sem ↓] run_imax run_imin

/-- The sign of place x in row u. -/
def sg (u x : Nat) : Int :=
  (([[1, 1, 1, 1, 1, 1, 1, 1], [1, 1, 1, 1, -1, -1, -1, -1], [1, 1, -1, -1, -1, -1, 1, 1], [1, 1, -1, -1, 1, 1, -1, -1],
    [1, -1, -1, 1, 1, -1, -1, 1], [1, -1, -1, 1, -1, 1, 1, -1], [1, -1, 1, -1, -1, 1, -1, 1], [1, -1, 1, -1, 1, -1, 1, -1]] : List (List Int)).getD u []).getD x 1
/-- A row's sum by the signs of row u. -/
def had8 (a : Nat → Int) (u : Nat) : Int := sg u 0 * a 0 + sg u 1 * a 1 + sg u 2 * a 2 + sg u 3 * a 3 + sg u 4 * a 4 + sg u 5 * a 5 + sg u 6 * a 6 + sg u 7 * a 7
/-- Back: a place's sum by the signs of all rows there. -/
def bak8 (a : Nat → Int) (x : Nat) : Int := sg 0 x * a 0 + sg 1 x * a 1 + sg 2 x * a 2 + sg 3 x * a 3 + sg 4 x * a 4 + sg 5 x * a 5 + sg 6 x * a 6 + sg 7 x * a 7

theorem stages_had8 (a b : Nat → Int) (u : Nat) (hu : u < 8) : stages (fun j => (a j, b j)) 8 (ordN u) = (had8 a u, had8 b u) := by
  have h : u = 0 ∨ u = 1 ∨ u = 2 ∨ u = 3 ∨ u = 4 ∨ u = 5 ∨ u = 6 ∨ u = 7 := by omega
  rcases h with rfl | rfl | rfl | rfl | rfl | rfl | rfl | rfl <;>
    (simp [stages, st, ordN, cadd, csub, had8, sg]; try omega)

@[go_sem] theorem floatOfInt_fbits (n : Int) : floatOfInt .f64 n = fbits n := rfl


theorem had8_bd {K : Int} {a : Nat → Int} (h : ∀ j, j < 8 → -K ≤ a j ∧ a j ≤ K) (u : Nat) (hu : u < 8) : -(8 * K) ≤ had8 a u ∧ had8 a u ≤ 8 * K := by
  have h0 := h 0 (by omega); have h1 := h 1 (by omega); have h2 := h 2 (by omega); have h3 := h 3 (by omega)
  have h4 := h 4 (by omega); have h5 := h 5 (by omega); have h6 := h 6 (by omega); have h7 := h 7 (by omega)
  have h : u = 0 ∨ u = 1 ∨ u = 2 ∨ u = 3 ∨ u = 4 ∨ u = 5 ∨ u = 6 ∨ u = 7 := by omega
  rcases h with rfl | rfl | rfl | rfl | rfl | rfl | rfl | rfl <;> (simp [had8, sg]; omega)

theorem eight_had (a b : Nat → Int) (w : World) (K : Int) (hK : 8 * K < 9007199254740992) (ha : ∀ j, j < 8 → -K ≤ a j ∧ a j ≤ K) (hb : ∀ j, j < 8 → -K ≤ b j ∧ b j ≤ K) :
    Calls Try.prog 121 #[.agg (fcells 8 (fun j => cval (a j, b j)))] w fun e w' => e = .returned (.agg (fcells 8 (fun j => cval (had8 a j, had8 b j)))) ∧ Below w.heap.size w w' := by
  refine (eight_any (fun j => (a j, b j)) w K hK (fun j hj => ⟨ha j hj, hb j hj⟩)).mono ?_
  rintro e w' ⟨rfl, h⟩
  refine ⟨?_, h⟩
  rw [fcells_congr (fun j hj => by rw [stages_had8 a b j hj])]

theorem alloc56 (w : World) : (Instr.alloc 166 true (.tuple #[])).run Try.prog w = .ok (.pointer (some ⟨w.heap.size, 0, none⟩)) (w.alloc (.cells (fcells 8 (fun _ => .complex .f64 0 0)) 166)) := by kernel_rfl

/-- The rows, turned; the block lies down. -/
def rowsF (f : Nat → Int) (k : Nat) : Int := had8 (fun j => f (8 * (k % 8) + j)) (k / 8)

/-- What the rows' block holds while the pair of rows r, r + 1 is written out. -/
def rowsPart (f : Nat → Int) (r k p : Nat) : Int := if p % 8 < r ∨ (p % 8 < r + 2 ∧ p / 8 < k) then rowsF f p else 0
theorem rowsPart_step (f : Nat → Int) (r k j : Nat) (hr : r < 8) (hr2 : r % 2 = 0) :
    (if j = 8 * k + r + 1 then ival (fun _ => had8 (fun i => f (8 * r + 8 + i)) k) 0 else if j = 8 * k + r then ival (fun _ => had8 (fun i => f (8 * r + i)) k) 0 else ival (rowsPart f r k) j) = ival (rowsPart f r (k + 1)) j := by
  unfold ival
  by_cases h1 : j = 8 * k + r + 1
  · subst h1
    rw [if_pos rfl]
    unfold rowsPart rowsF
    have e1 : (8 * k + r + 1) % 8 = r + 1 := by omega
    have e2 : (8 * k + r + 1) / 8 = k := by omega
    rw [e1, e2, if_pos (Or.inr ⟨by omega, by omega⟩)]
    rfl
  · rw [if_neg h1]
    by_cases h2 : j = 8 * k + r
    · subst h2
      rw [if_pos rfl]
      unfold rowsPart rowsF
      have e1 : (8 * k + r) % 8 = r := by omega
      have e2 : (8 * k + r) / 8 = k := by omega
      rw [e1, e2, if_pos (Or.inr ⟨by omega, by omega⟩)]
    · rw [if_neg h2]
      unfold rowsPart
      congr 1
      by_cases h3 : j % 8 < r ∨ (j % 8 < r + 2 ∧ j / 8 < k)
      · rw [if_pos h3, if_pos (by omega)]
      · rw [if_neg h3, if_neg (by omega)]

theorem conv_back (W : World) (n : Int) (h : n.natAbs < 2 ^ 53) : (convert 152 3 (.float .f64 (fbits n))).run Try.prog W = .ok (.int .i64 n) W :=
  run_convert_float_int W 152 3 .f64 .i64 (fbits n) n (by kernel_rfl) (by kernel_rfl) (fb_int n h)

set_option maxRecDepth 100000 in
set_option maxHeartbeats 1000000 in
theorem rows_any (f : Nat → Int) (w : World) (K : Int) (hK : 8 * K < 9007199254740992) (hf : ∀ j, j < 64 → -K ≤ f j ∧ f j ≤ K) :
    Calls Try.prog 88 #[.agg (fcells 64 (ival f))] w fun e w' => e = .returned (.agg (fcells 64 (ival (rowsF f)))) ∧ Below w.heap.size w w' := by
  go_enter Try.func88, Try.ntmps88
  go_wp2_with (refine wpList_alloc_blk rfl 27 rfl _ _ alloc28 ?_)
  go_loopw [4] (fun i wr => ∃ r : Nat, r ≤ 8 ∧ r % 2 = 0 ∧ i = .int .i64 r ∧ Blk wr w.heap.size 27 64 (ival f) ∧ (∃ g, Blk wr (w.heap.size + 1) 27 64 g) ∧
      Blk wr (w.heap.size + 1 + 1) 27 64 (ival (rowsPart f r 0)) ∧ Below w.heap.size w wr)
    (fun r _ => 8 - (intOf r).toNat)
  case atStart =>
    exact ⟨0, by omega, rfl, rfl, ((Blk.new_at _ _ _ rfl).alloc _).alloc _, ⟨_, (Blk.new_at _ _ _ (by simp)).alloc _⟩, (Blk.new_at _ _ _ (by simp)).congr (fun j _ => by simp [ival, rowsPart]),
      (((Below.refl _ _).alloc (Nat.le_refl _) _).alloc (by simp) _).alloc (by simp; omega) _⟩
  case round =>
    obtain ⟨r, hr, hr2, rfl, HB, ⟨g, HR⟩, HO, HW⟩ := hrel
    by_cases hlt : r < 8
    · go_wp2_with (refine wpList_alloc_blk rfl 166 rfl _ _ alloc56 ?_)
      have HV0 : Blk (wr.alloc (.cells (fcells 8 (fun _ => .complex .f64 0 0)) 166)) wr.heap.size 166 8 (fun _ => .complex .f64 0 0) := Blk.new _ _ _ _
      have hBV := HO.lt
      have HB0 := HB.alloc (.cells (fcells 8 (fun _ => .complex .f64 0 0)) 166)
      have HR0 := HR.alloc (.cells (fcells 8 (fun _ => .complex .f64 0 0)) 166)
      have HO0 := HO.alloc (.cells (fcells 8 (fun _ => .complex .f64 0 0)) 166)
      have HW0 := HW.alloc (by omega) (.cells (fcells 8 (fun _ => .complex .f64 0 0)) 166)
      clear HB HR HO HW
      generalize wr.heap.size = BV at *
      go_loopw [13] (fun i wi => ∃ k : Nat, k ≤ 8 ∧ i = .int .i64 k ∧ Blk wi w.heap.size 27 64 (ival f) ∧ Blk wi (w.heap.size + 1) 27 64 g ∧
          Blk wi (w.heap.size + 1 + 1) 27 64 (ival (rowsPart f r 0)) ∧
          Blk wi BV 166 8 (fun j => if j < k then cval (f (8 * r + j), f (8 * r + 8 + j)) else .complex .f64 0 0) ∧ Below w.heap.size w wi)
        (fun i _ => 8 - (intOf i).toNat)
      case atStart => exact ⟨0, by omega, rfl, HB0, HR0, HO0, by simpa using HV0, HW0⟩
      case round =>
        clear HV0 HB0 HR0 HO0 HW0
        obtain ⟨k, hk, rfl, HB, HR, HO, HV, HW⟩ := hrel
        by_cases hk8 : k < 8
        · have c1 := HB.cell (k := 8 * r + k) (by omega)
          have c2 := HB.cell (k := 8 * r + 8 + k) (by omega)
          have c3 := HV.cell hk8
          rw [if_neg (by omega)] at c3
          unfold ival at c1 c2
          have f3 := HV.free k
          have i1 : (0 : Int) ≤ 8 * r + k := by omega
          have i2 : (8 : Int) * r + k < 64 := by omega
          have i3 : (0 : Int) ≤ 8 * r + 8 + k := by omega
          have i4 : (8 : Int) * r + 8 + k < 64 := by omega
          have j1 := hf (8 * r + k) (by omega)
          go_wp2
          refine wp_region_still_tail 17 (by kernel_rfl) (by kernel_rfl) ?_
          simp only [List.take_succ_cons, List.take_zero, List.drop_succ_cons, List.drop_zero]
          repeat (refine wpStill_step (fun K hK => ?_); go_simp; (try go_bits); refine hK _ ?_; clear hK K)
          refine wpStill_nil ?_
          change wpList _ _ _ _ _ wr.drew
          have HV2 := (HV.set k (cval (f (8 * r + k), f (8 * r + 8 + k)))).congr (g := fun j => if j < k + 1 then cval (f (8 * r + j), f (8 * r + 8 + j)) else .complex .f64 0 0) (by
            intro j _
            by_cases e : j = k
            · subst e; simp
            · by_cases e2 : j < k
              · simp [e, e2, show j < k + 1 by omega]
              · simp [e, e2, show ¬ j < k + 1 by omega])
          go_wp2
          refine ⟨⟨k + 1, by omega, by go_num, HB.other (by omega) _ _, HR.other (by omega) _ _, HO.other (by omega) _ _, HV2, (HW.setCell (p := ⟨BV, k, none⟩) (by show _ ≤ BV; omega) _).drew⟩, by simp [intOf]; omega⟩
        · obtain rfl : k = 8 := by omega
          go_wp2_with (refine wpList_load_blk HV rfl _ _ rfl rfl und56 (by kernel_rfl) ?_)
          rw [fcells_congr (g := fun j => cval (f (8 * r + j), f (8 * r + 8 + j))) (fun j hj => by rw [if_pos hj])]
          refine (eight_had (fun j => f (8 * r + j)) (fun j => f (8 * r + 8 + j)) _ K hK (fun j hj => hf _ (by omega)) (fun j hj => hf _ (by omega))).mono ?_
          rintro e w1 ⟨rfl, hb1⟩
          have HB := HB.below hb1 HB.lt
          have HR := HR.below hb1 HR.lt
          have HO := HO.below hb1 HO.lt
          have HW := HW.trans (hb1.mono (by have := HW.size; omega))
          have HV := HV.below hb1 HV.lt
          go_wp2_with fail
          go_loopw [37] (fun i wi => ∃ k : Nat, k ≤ 8 ∧ i = .int .i64 k ∧ Blk wi w.heap.size 27 64 (ival f) ∧ Blk wi (w.heap.size + 1) 27 64 g ∧
              Blk wi (w.heap.size + 1 + 1) 27 64 (ival (rowsPart f r k)) ∧ Below w.heap.size w wi)
            (fun i _ => 8 - (intOf i).toNat)
          case atStart => exact ⟨0, by omega, rfl, HB, HR, HO, HW⟩
          case round =>
            clear HB HR HO HW HV hb1
            obtain ⟨k, hk, rfl, HB, HR, HO, HW⟩ := hrel
            by_cases hk8 : k < 8
            · have hix : ∀ W, (Instr.index 166 (.agg (fcells 8 fun j => cval (had8 (fun j => f (8 * r + j)) j, had8 (fun j => f (8 * r + 8 + j)) j))) (.int .i64 (k : Int))).run Try.prog W =
                    .ok (.complex .f64 (fbits (had8 (fun j => f (8 * r + j)) k)) (fbits (had8 (fun j => f (8 * r + 8 + j)) k))) W := fun W =>
                run_index_fcells W _ _ 8 _ k und56 (by kernel_rfl) (by kernel_rfl) (by omega) (by omega)
              have q1 := had8_bd (K := K) (a := fun j => f (8 * r + j)) (fun j hj => hf _ (by omega)) k hk8
              have q2 := had8_bd (K := K) (a := fun j => f (8 * r + 8 + j)) (fun j hj => hf _ (by omega)) k hk8
              have v1 := fun W => conv_back W (had8 (fun j => f (8 * r + j)) k) (by omega)
              have v2 := fun W => conv_back W (had8 (fun j => f (8 * r + 8 + j)) k) (by omega)
              have st := fun j => rowsPart_step f r k j hlt hr2
              have HO2 := ((HO.set (8 * k + r) (ival (fun _ => had8 (fun i => f (8 * r + i)) k) 0)).set (8 * k + r + 1) (ival (fun _ => had8 (fun i => f (8 * r + 8 + i)) k) 0)).congr (fun j _ => st j)
              have HO1 := HO.set (8 * k + r) (ival (fun _ => had8 (fun i => f (8 * r + i)) k) 0)
              have c1 := HO.cell (k := 8 * k + r) (by omega)
              have c2 := HO.cell (k := 8 * k + r + 1) (by omega)
              have c3 := HO1.cell (k := 8 * k + r + 1) (by omega)
              rw [if_neg (by omega)] at c3
              have f1 := HO.free (8 * k + r)
              have f2 := HO.free (8 * k + r + 1)
              generalize hX : had8 (fun j => f (8 * r + j)) = X at *
              generalize hY : had8 (fun j => f (8 * r + 8 + j)) = Y at *
              unfold ival at c1 c2 c3
              clear st HO1 hX hY q1 q2
              go_wp2
              refine ⟨⟨k + 1, by omega, by go_num, (HB.other (by omega) _ _).other (by omega) _ _, (HR.other (by omega) _ _).other (by omega) _ _, HO2,
                (HW.setCell (p := ⟨w.heap.size + 1 + 1, 8 * k + r, none⟩) (by show _ ≤ w.heap.size + 1 + 1; omega) _).setCell (p := ⟨w.heap.size + 1 + 1, 8 * k + r + 1, none⟩) (by show _ ≤ w.heap.size + 1 + 1; omega) _⟩, by simp [intOf]; omega⟩
            · obtain rfl : k = 8 := by omega
              have HO3 := HO.congr (g := ival (rowsPart f (r + 2) 0)) (fun j hj => by
                unfold ival rowsPart
                congr 1
                by_cases h3 : j % 8 < r ∨ (j % 8 < r + 2 ∧ j / 8 < 8)
                · rw [if_pos h3, if_pos (by omega)]
                · rw [if_neg h3, if_neg (by omega)])
              go_wp2
              refine ⟨⟨r + 2, by omega, by omega, by go_num, HB, ⟨g, HR⟩, HO3, HW⟩, by simp [intOf]; omega⟩
    · obtain rfl : r = 8 := by omega
      have HO3 := HO.congr (g := ival (rowsF f)) (fun j hj => by
        unfold ival rowsPart
        rw [if_pos (Or.inl (by omega))])
      go_wp2_with (first | (refine wpList_load_blk HO3 rfl _ _ rfl rfl und28 (by kernel_rfl) ?_) | (refine wpList_store_blk HR rfl _ _ _ rfl rfl rfl (by kernel_rfl) (fun j _ => rfl) ?_))
      exact bodyPost_ret (v := .agg (fcells 64 _)) (results_blk rfl _ (HR.setRow_same rfl) rfl und28 (by kernel_rfl)) rfl ⟨rfl, below_setRow HW (by omega) _⟩
end Go.Proofs.Ytbldgpemocnboaa

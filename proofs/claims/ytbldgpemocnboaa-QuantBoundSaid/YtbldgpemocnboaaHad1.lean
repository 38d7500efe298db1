/- Walks of had.order and had.eight. -/
import Derived.Test.YtbldgpemocnboaaArr
import Derived.Test.YtbldgpemocnboaaFl
import Derived.Deep.QuietTactic
import Derived.BigQuiet
namespace Go.Proofs.Ytbldgpemocnboaa
open Go.RowKit
attribute [local go_sem ↓] run_imax run_imin

/-- Each row's number, by how often its signs change. -/
def ordN (k : Nat) : Nat := [0, 4, 6, 2, 3, 7, 5, 1].getD k 0
def ordV (k : Nat) : Value := .int .i64 (ordN k)

theorem ord_lt : ∀ k, k < 8 → ordN k < 8 := by decide

theorem und56 : Try.prog.underlying 166 = some (.array 8 61) := by kernel_rfl
theorem und52 : Try.prog.underlying 168 = some (.array 8 3) := by kernel_rfl

set_option maxHeartbeats 400000 in
theorem order_any (w : World) :
    Calls Try.prog 122 #[] w fun e w' => e = .returned (.agg (fcells 8 ordV)) ∧ Below w.heap.size w w' := by
  go_enter Try.func122, Try.ntmps122
  go_wp2
  refine bodyPost_ret (v := .agg (fcells 8 ordV)) ?_ rfl ⟨rfl, (Below.refl _ _).alloc (Nat.le_refl _) _⟩
  exact results_cell_row rfl _ _ w.heap.size 168 (fcells 8 ordV) (0, 0) _ rfl (by rw [heap_alloc_new]; rfl) und52 rfl (by rw [fcells_size]; kernel_rfl)

/-- A pair of ints as one complex number. -/
def cval (p : Int × Int) : Value := .complex .f64 (fbits p.1) (fbits p.2)
def cadd (a b : Int × Int) : Int × Int := (a.1 + b.1, a.2 + b.2)
def csub (a b : Int × Int) : Int × Int := (a.1 - b.1, a.2 - b.2)
/-- One stage of sums and differences, h apart. -/
def st (h : Nat) (f : Nat → Int × Int) (j : Nat) : Int × Int := if j &&& h = 0 then cadd (f j) (f (j + h)) else csub (f (j - h)) (f j)
/-- The stage, done for the pairs whose first place is below i. -/
def stPart (h i : Nat) (f : Nat → Int × Int) (j : Nat) : Int × Int := if j - (j &&& h) < i then st h f j else f j
def stages (f : Nat → Int × Int) (h : Nat) : Nat → Int × Int :=
  if h = 1 then f else if h = 2 then st 1 f else if h = 4 then st 2 (st 1 f) else st 4 (st 2 (st 1 f))
def Bd (K : Int) (f : Nat → Int × Int) : Prop := ∀ j, j < 8 → (-K ≤ (f j).1 ∧ (f j).1 ≤ K) ∧ (-K ≤ (f j).2 ∧ (f j).2 ≤ K)

theorem pair_lt : ∀ n, n < 8 → (n = 1 ∨ n = 2 ∨ n = 4) → ∀ k, k < 8 → k &&& n = 0 → k + n < 8 := by decide

theorem pair_hi : ∀ n, n < 8 → (n = 1 ∨ n = 2 ∨ n = 4) → ∀ k, k < 8 → k &&& n = 0 → k + n - ((k + n) &&& n) = k := by decide

theorem pair_ne : ∀ n, n < 8 → (n = 1 ∨ n = 2 ∨ n = 4) → ∀ k, k < 8 → k &&& n = 0 → ∀ j, j < 8 → j = k ∨ j = k + n ∨ j - (j &&& n) ≠ k := by
  intro n _ hn
  rcases hn with rfl | rfl | rfl <;> decide
theorem pair_bit : ∀ n, n < 8 → (n = 1 ∨ n = 2 ∨ n = 4) → ∀ k, k < 8 → k &&& n = 0 → (k + n) &&& n ≠ 0 := by decide
theorem pair_no : ∀ n, n < 8 → (n = 1 ∨ n = 2 ∨ n = 4) → ∀ k, k < 8 → k &&& n ≠ 0 → ∀ j, j < 8 → j - (j &&& n) ≠ k := by decide

theorem stPart_step (n : Nat) (h8 : n < 8) (hn : n = 1 ∨ n = 2 ∨ n = 4) (k : Nat) (hk : k < 8) (hb : k &&& n = 0) (F : Nat → Int × Int) (j : Nat) (hj : j < 8) :
    (if j = k + n then csub (F k) (F (k + n)) else if j = k then cadd (F k) (F (k + n)) else stPart n k F j) = stPart n (k + 1) F j := by
  by_cases h1 : j = k + n
  · subst h1
    rw [if_pos rfl]
    unfold stPart
    rw [if_pos (by have := pair_hi n h8 hn k hk hb; omega)]
    unfold st
    rw [if_neg (pair_bit n h8 hn k hk hb), Nat.add_sub_cancel]
  · rw [if_neg h1]
    by_cases h2 : j = k
    · subst h2
      rw [if_pos rfl]
      unfold stPart
      rw [if_pos (by omega)]
      unfold st
      rw [if_pos hb]
    · rw [if_neg h2]
      unfold stPart
      have := pair_ne n h8 hn k hk hb j hj
      by_cases h3 : j - (j &&& n) < k
      · rw [if_pos h3, if_pos (by omega)]
      · rw [if_neg h3, if_neg (by omega)]

theorem stPart_skip (n : Nat) (h8 : n < 8) (hn : n = 1 ∨ n = 2 ∨ n = 4) (k : Nat) (hk : k < 8) (hb : ¬ k &&& n = 0) (F : Nat → Int × Int) (j : Nat) (hj : j < 8) :
    stPart n k F j = stPart n (k + 1) F j := by
  unfold stPart
  have := pair_no n h8 hn k hk hb j hj
  by_cases h3 : j - (j &&& n) < k
  · rw [if_pos h3, if_pos (by omega)]
  · rw [if_neg h3, if_neg (by omega)]

theorem stages_step (f : Nat → Int × Int) (n : Nat) (hn : n = 1 ∨ n = 2 ∨ n = 4) : stages f (2 * n) = st n (stages f n) := by
  rcases hn with rfl | rfl | rfl <;> rfl

theorem bd_st {K : Int} {f : Nat → Int × Int} (hf : Bd K f) {h : Nat} (hh : h = 1 ∨ h = 2 ∨ h = 4) : Bd (2 * K) (st h f) := by
  intro j hj
  unfold st
  have h1 := hf j hj
  by_cases e : j &&& h = 0
  · have h2 := hf (j + h) (pair_lt h (by omega) hh j hj e)
    rw [if_pos e]; unfold cadd; dsimp only; omega
  · have h2 := hf (j - h) (by omega)
    rw [if_neg e]; unfold csub; dsimp only; omega
theorem bd_stages {K : Int} {f : Nat → Int × Int} (hf : Bd K f) (_h0 : 0 ≤ K) (n : Nat) (hn : n = 1 ∨ n = 2 ∨ n = 4 ∨ n = 8) : Bd (n * K) (stages f n) := by
  have b1 := bd_st hf (h := 1) (by omega)
  have b2 := bd_st b1 (h := 2) (by omega)
  have b3 := bd_st b2 (h := 4) (by omega)
  have up : ∀ {L M : Int} {g : Nat → Int × Int}, L ≤ M → Bd L g → Bd M g := fun {L M g} hLM hg j hj => by have := hg j hj; omega
  rcases hn with rfl | rfl | rfl | rfl
  · exact up (by omega) hf
  · exact up (by omega) b1
  · exact up (by omega) b2
  · exact up (by omega) b3

theorem cval_add {P : Program} (w : World) (t : TypeId) (a b : Int × Int) (L : Int) (hL : L < 9007199254740992) (h1 : -L ≤ a.1 + b.1 ∧ a.1 + b.1 ≤ L) (h2 : -L ≤ a.2 + b.2 ∧ a.2 + b.2 ≤ L)
    (a1 : -L ≤ a.1 ∧ a.1 ≤ L) (a2 : -L ≤ a.2 ∧ a.2 ≤ L) (b1 : -L ≤ b.1 ∧ b.1 ≤ L) (b2 : -L ≤ b.2 ∧ b.2 ≤ L) :
    (binOp .add t (.complex .f64 (fbits a.1) (fbits a.2)) (.complex .f64 (fbits b.1) (fbits b.2))).run P w = .ok (.complex .f64 (fbits (cadd a b).1) (fbits (cadd a b).2)) w := by
  refine run_complex_sum w .add (Or.inl rfl) t .f64 _ _ _ _ _ _ ?_
  unfold cSumBits cadd
  rw [fb_add _ _ (by omega) (by omega) (by omega), fb_add _ _ (by omega) (by omega) (by omega)]
  rfl
theorem cval_sub {P : Program} (w : World) (t : TypeId) (a b : Int × Int) (L : Int) (hL : L < 9007199254740992) (h1 : -L ≤ a.1 - b.1 ∧ a.1 - b.1 ≤ L) (h2 : -L ≤ a.2 - b.2 ∧ a.2 - b.2 ≤ L)
    (a1 : -L ≤ a.1 ∧ a.1 ≤ L) (a2 : -L ≤ a.2 ∧ a.2 ≤ L) (b1 : -L ≤ b.1 ∧ b.1 ≤ L) (b2 : -L ≤ b.2 ∧ b.2 ≤ L) :
    (binOp .sub t (.complex .f64 (fbits a.1) (fbits a.2)) (.complex .f64 (fbits b.1) (fbits b.2))).run P w = .ok (.complex .f64 (fbits (csub a b).1) (fbits (csub a b).2)) w := by
  refine run_complex_sum w .sub (Or.inr rfl) t .f64 _ _ _ _ _ _ ?_
  unfold cSumBits csub
  rw [fb_sub _ _ (by omega) (by omega) (by omega), fb_sub _ _ (by omega) (by omega) (by omega)]
  rfl

set_option maxHeartbeats 1000000 in
theorem eight_any (f : Nat → Int × Int) (w : World) (K : Int) (hK : 8 * K < 9007199254740992) (hf : Bd K f) :
    Calls Try.prog 121 #[.agg (fcells 8 (fun j => cval (f j)))] w fun e w' => e = .returned (.agg (fcells 8 (fun j => cval (stages f 8 (ordN j))))) ∧ Below w.heap.size w w' := by
  have hK0 : 0 ≤ K := by have := (hf 0 (by omega)).1; omega
  go_enter Try.func121, Try.ntmps121
  go_wp2
  go_loopw [3] (fun h wr => ∃ n : Nat, (n = 1 ∨ n = 2 ∨ n = 4 ∨ n = 8) ∧ h = .int .i64 n ∧ Blk wr w.heap.size 166 8 (fun j => cval (stages f n j)) ∧ (∃ g, Blk wr (w.heap.size + 1) 166 8 g) ∧ Below w.heap.size w wr)
    (fun h _ => 8 - (intOf h).toNat)
  case atStart =>
    refine ⟨1, Or.inl rfl, rfl, (Blk.new _ _ _ _).alloc _, ⟨fun _ => cval (0, 0), ?_⟩, ((Below.refl _ _).alloc (Nat.le_refl _) _).alloc (by simp) _⟩
    have e : (w.alloc (Obj.cells (fcells 8 fun j => cval (f j)) 166)).heap.size = w.heap.size + 1 := by simp
    rw [← e]
    exact Blk.new' _ _ _ _ _ (by simp only [cval, fbits_zero]; rfl)
  case round =>
    obtain ⟨n, hn, rfl, HB, ⟨g, HR⟩, HW⟩ := hrel
    have hbd : n < 8 → Bd (4 * K) (stages f n) := fun hl j hj => by
      have := bd_stages hf hK0 n hn j hj
      rcases hn with rfl | rfl | rfl | rfl <;> simp at this <;> omega
    by_cases hlt : n < 8
    · have hn' : n = 1 ∨ n = 2 ∨ n = 4 := by omega
      replace hbd := hbd hlt
      generalize hF : stages f n = F at *
      have HF := Lib.hid hF; clear hF
      go_wp2
      go_loopw [14] (fun i wi => ∃ k : Nat, k ≤ 8 ∧ i = .int .i64 k ∧ Blk wi w.heap.size 166 8 (fun j => cval (stPart n k F j)) ∧ (∃ g, Blk wi (w.heap.size + 1) 166 8 g) ∧ Below w.heap.size w wi)
        (fun i _ => 8 - (intOf i).toNat)
      case atStart => exact ⟨0, by omega, rfl, by simpa [stPart] using HB, ⟨g, HR⟩, HW⟩
      case round =>
        clear HB HR HW
        obtain ⟨k, hk, rfl, HB, ⟨g, HR⟩, HW⟩ := hrel
        by_cases hk8 : k < 8
        · by_cases hb : k &&& n = 0
          · have hand : bits .and .i64 (k : Int) (n : Int) = 0 := by rw [bits_and_i64 _ _ (by omega) (by omega), hb]; rfl
            have hkn : k + n < 8 := pair_lt n hlt hn' k hk8 hb
            have e1 : stPart n k F k = F k := if_neg (by rw [hb]; omega)
            have e2 : stPart n k F (k + n) = F (k + n) := if_neg (by have := pair_hi n hlt hn' k hk8 hb; omega)
            have c1 := HB.cell (k := k) (by omega)
            have c2 := HB.cell (k := k + n) (by omega)
            rw [e1] at c1; rw [e2] at c2
            unfold cval at c1 c2
            have f1 := HB.free k
            have HB2 := HB.set k (.complex .f64 (fbits (cadd (F k) (F (k + n))).1) (fbits (cadd (F k) (F (k + n))).2))
            have f2 := HB.free (k + n)
            have c3 := HB2.cell (k := k + n) (by omega)
            rw [if_neg (by omega), e2] at c3
            unfold cval at c3
            have b1 := hbd k (by omega)
            have b2 := hbd (k + n) (by omega)
            have hadd := fun W => cval_add (P := Try.prog) W 61 (F k) (F (k + n)) (8 * K) hK (by omega) (by omega) (by omega) (by omega) (by omega) (by omega)
            have hsub := fun W => cval_sub (P := Try.prog) W 61 (F k) (F (k + n)) (8 * K) hK (by omega) (by omega) (by omega) (by omega) (by omega) (by omega)
            have HN := (HB2.set (k + n) (.complex .f64 (fbits (csub (F k) (F (k + n))).1) (fbits (csub (F k) (F (k + n))).2))).congr (g := fun j => cval (stPart n (k + 1) F j)) (by
              intro j hj
              rw [← stPart_step n hlt hn' k hk8 hb F j hj]
              split
              · rfl
              · split <;> rfl)
            clear e1 e2 b1 b2 HB2
            go_wp2
            go_quiet (fail)
            go_wp2
            go_roundw
            case rel => exact ⟨k + 1, by omega, by go_num, HN, ⟨g, (HR.other (by simp) _ _).other (by simp) _ _⟩, ((below_drewN HW _).setCell (p := ⟨w.heap.size, k, none⟩) (Nat.le_refl _) _).setCell (p := ⟨w.heap.size, k + n, none⟩) (Nat.le_refl _) _⟩
            case measure => simp [intOf]; omega
          · have hand : bits .and .i64 (k : Int) (n : Int) = ((k &&& n : Nat) : Int) := bits_and_i64 _ _ (by omega) (by omega)
            have hne : (((k &&& n : Nat) : Int) == 0) = false := by rw [beq_eq_false_iff_ne]; omega
            have HN := HB.congr (g := fun j => cval (stPart n (k + 1) F j)) (fun j hj => by rw [stPart_skip n hlt hn' k hk8 hb F j hj])
            go_wp2
            go_roundw
            case rel => exact ⟨k + 1, by omega, by go_num, HN, ⟨g, HR⟩, HW⟩
            case measure => simp [intOf]; omega
        · have hk : k = 8 := by omega
          subst hk
          have HF' := HB.congr (g := fun j => cval (stages f (2 * n) j)) (fun j hj => by
            rw [stages_step f n hn', HF.out]
            unfold stPart
            rw [if_pos (by omega)])
          go_wp2
          refine ⟨⟨2 * n, by omega, by go_num, HF', ⟨g, HR⟩, HW⟩, by simp [intOf]; omega⟩
    · obtain rfl : n = 8 := by omega
      clear hbd hlt hn
      go_wp2_with fail
      refine (order_any _).mono ?_
      rintro e w1 ⟨rfl, hb1⟩
      go_wp2_with fail
      have H8 : Blk w1 w.heap.size 166 8 (fun j => cval (stages f 8 j)) := (HB.alloc _).below hb1 (by have := HR.lt; simp; omega)
      have R8 : Blk w1 (w.heap.size + 1) 166 8 g := (HR.alloc _).below hb1 (by have := HR.lt; simp; omega)
      have N8 : Blk w1 wr.heap.size 166 8 (fun _ => cval (0, 0)) := (Blk.new' wr _ 8 _ _ (by simp only [cval, fbits_zero]; rfl)).below hb1 (by simp)
      have W8 : Below w.heap.size w w1 := (HW.alloc (by have := HW.size; omega) _).trans (hb1.mono (by have := HW.size; simp; omega))
      have hlt7 : w.heap.size + 1 < wr.heap.size := HR.lt
      generalize wr.heap.size = B7 at *
      clear hb1 HB HR HW
      go_loopw [43] (fun i wi => ∃ k : Nat, k ≤ 8 ∧ i = .int .i64 k ∧ Blk wi w.heap.size 166 8 (fun j => cval (stages f 8 j)) ∧ Blk wi (w.heap.size + 1) 166 8 g ∧
          Blk wi B7 166 8 (fun j => if j < k then cval (stages f 8 (ordN j)) else cval (0, 0)) ∧ Below w.heap.size w wi)
        (fun i _ => 8 - (intOf i).toNat)
      case atStart => exact ⟨0, by omega, rfl, H8, R8, by simpa using N8, W8⟩
      case round =>
        clear H8 R8 N8 W8
        obtain ⟨k, hk, rfl, H8, R8, N8, W8⟩ := hrel
        by_cases hk8 : k < 8
        · have ho := ord_lt k hk8
          have hix : ∀ W, (Instr.index 168 (.agg (fcells 8 ordV)) (.int .i64 (k : Int))).run Try.prog W = .ok (.int .i64 (ordN k)) W := fun W =>
            run_index_fcells W _ _ 8 ordV k und52 (by kernel_rfl) (by kernel_rfl) (by omega) (by omega)
          have c1 := H8.cell ho
          have c2 := N8.cell hk8
          rw [if_neg (by omega)] at c2
          unfold cval at c1 c2
          have f2 := N8.free k
          have N9 := (N8.set k (cval (stages f 8 (ordN k)))).congr (g := fun j => if j < k + 1 then cval (stages f 8 (ordN j)) else cval (0, 0)) (by
            intro j _
            by_cases e : j = k
            · subst e; simp
            · by_cases e2 : j < k
              · simp [e, e2, show j < k + 1 by omega]
              · simp [e, e2, show ¬ j < k + 1 by omega])
          go_wp2
          go_roundw
          case rel => exact ⟨k + 1, by omega, by go_num, H8.other (by omega) _ _, R8.other (by omega) _ _, N9, W8.setCell (p := ⟨B7, k, none⟩) (by show _ ≤ B7; omega) _⟩
          case measure => simp [intOf]; omega
        · obtain rfl : k = 8 := by omega
          go_wp2_with (first | (refine wpList_load_blk N8 rfl _ _ rfl rfl und56 (by kernel_rfl) ?_) | (refine wpList_store_blk R8 rfl _ _ _ rfl rfl rfl (by kernel_rfl) (fun j _ => by split <;> rfl) ?_))
          refine bodyPost_ret (v := .agg (fcells 8 _)) (results_blk rfl _ (R8.setRow_same rfl) rfl und56 (by kernel_rfl)) rfl ⟨?_, below_setRow W8 (by omega) _⟩
          rw [fcells_congr (g := fun j => cval (stages f 8 (ordN j))) (fun j hj => by rw [if_pos hj])]
end Go.Proofs.Ytbldgpemocnboaa

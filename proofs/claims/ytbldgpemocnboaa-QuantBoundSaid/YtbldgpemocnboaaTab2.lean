/- Walks of quant.Table's Check, of the law's Fit and of the document's Step. -/
import Derived.Test.YtbldgpemocnboaaTab
namespace Go.Proofs.Ytbldgpemocnboaa
open Go.RowKit
attribute [local go_sem ↓] run_imax run_imin

def rstep (q w8 : Int) : Int := if w8 = 0 then 16 * imin (imax q 1) 31 else w8 * imin (imax q 1) 31
set_option maxHeartbeats 400000 in
theorem rstep_any (q w8 : Int) (w : World) (h0 : 0 ≤ w8) (h1 : w8 ≤ 255) :
    Calls Try.prog 26 #[.int .i64 q, .int .u8 w8] w fun e w' => e = .returned (.int .i64 (rstep q w8)) ∧ w = w' := by
  have hq := qp_bd q
  have hm := mul_bd w8 (imin (imax q 1) 31) 255 31 (by omega) (by omega) (by omega) (by omega) (by omega)
  unfold rstep
  by_cases q1 : q < 1
  · have e : imin (imax q 1) 31 = 1 := by rw [imax_eq, imin_eq]; omega
    rw [e] at hm hq ⊢
    by_cases hz : w8 = 0
    · rw [if_pos hz]
      go_enter Try.func26, Try.ntmps26
      go_wp2
      go_ret
      exact ⟨ret_int (by omega), rfl⟩
    · rw [if_neg hz]
      go_enter Try.func26, Try.ntmps26
      go_wp2
      go_ret
      exact ⟨ret_int (by omega), rfl⟩
  · by_cases q2 : q > 31
    · have e : imin (imax q 1) 31 = 31 := by rw [imax_eq, imin_eq]; omega
      rw [e] at hm hq ⊢
      by_cases hz : w8 = 0
      · rw [if_pos hz]
        go_enter Try.func26, Try.ntmps26
        go_wp2
        go_ret
        exact ⟨ret_int (by omega), rfl⟩
      · rw [if_neg hz]
        go_enter Try.func26, Try.ntmps26
        go_wp2
        go_ret
        exact ⟨ret_int (by omega), rfl⟩
    · have e : imin (imax q 1) 31 = q := by rw [imax_eq, imin_eq]; omega
      rw [e] at hm hq ⊢
      by_cases hz : w8 = 0
      · rw [if_pos hz]
        go_enter Try.func26, Try.ntmps26
        go_wp2
        go_ret
        exact ⟨ret_int (by omega), rfl⟩
      · rw [if_neg hz]
        go_enter Try.func26, Try.ntmps26
        go_wp2
        go_ret
        exact ⟨ret_int (by omega), rfl⟩

def badW (t : Bool) (ia ir : Nat → Int) (j : Nat) : Bool := if t then decide (ia j < 8) || decide (ir j < 8) else decide (ia j ≠ 0) || decide (ir j ≠ 0)
def anyTo (f : Nat → Bool) : Nat → Bool
  | 0 => false
  | k + 1 => anyTo f k || f k
theorem anyTo_iff (f : Nat → Bool) (k : Nat) : anyTo f k = true ↔ ∃ j, j < k ∧ f j = true := by
  induction k with
  | zero => simp [anyTo]
  | succ k ih =>
    simp only [anyTo, Bool.or_eq_true, ih]
    constructor
    · rintro (⟨j, h1, h2⟩ | h)
      · exact ⟨j, by omega, h2⟩
      · exact ⟨k, by omega, h⟩
    · rintro ⟨j, h1, h2⟩
      by_cases e : j = k
      · subst e; exact Or.inr h2
      · exact Or.inl ⟨j, by omega, h2⟩
def tchk (t : Bool) (ia ir : Nat → Int) : Int := if anyTo (badW t ia ir) 64 = true then (if t = true then 2 else 4) else 0

def fitv (t : Bool) (f : Nat → Int) (j : Nat) : Int := if t = true then imax (f j) 8 else 0
theorem fitv_bd {t : Bool} {f : Nat → Int} (h : ∀ j, j < 64 → 0 ≤ f j ∧ f j ≤ 255) : ∀ j, j < 64 → 0 ≤ fitv t f j ∧ fitv t f j ≤ 255 := by
  intro j hj
  have := h j hj
  unfold fitv; rw [imax_eq]; split <;> omega
def fit1 (k : Nat) (f : Nat → Int) (j : Nat) : Int := if j < k then imax (f j) 8 else f j
theorem Blk.fitA {w : World} {b : Nat} {t : Bool} {ia ir : Nat → Int} {k : Nat} (h : Blk w b TAB 129 (tabV t (fit1 k ia) ir)) (hk : k < 64) :
    Blk (w.setCell ⟨b, 1 + k, none⟩ (.int .u8 (imax (ia k) 8))) b TAB 129 (tabV t (fit1 (k + 1) ia) ir) :=
  (h.set (1 + k) _).congr fun j hj => by
    unfold tabV fit1
    by_cases e0 : j = 0
    · subst e0; rw [if_neg (by omega)]; rfl
    · by_cases e : j = 1 + k
      · subst e
        rw [if_pos rfl, if_neg (by omega), if_pos (by omega), if_pos (by omega)]
        congr 3; omega
      · rw [if_neg e, if_neg e0, if_neg e0]
        by_cases e2 : j < 65
        · rw [if_pos e2, if_pos e2]
          by_cases e3 : j - 1 < k
          · rw [if_pos e3, if_pos (by omega)]
          · rw [if_neg e3, if_neg (by omega)]
        · rw [if_neg e2, if_neg e2]
theorem Blk.fitR {w : World} {b : Nat} {t : Bool} {ia ir : Nat → Int} {k : Nat} (h : Blk w b TAB 129 (tabV t ia (fit1 k ir))) (hk : k < 64) :
    Blk (w.setCell ⟨b, 65 + k, none⟩ (.int .u8 (imax (ir k) 8))) b TAB 129 (tabV t ia (fit1 (k + 1) ir)) :=
  (h.set (65 + k) _).congr fun j hj => by
    unfold tabV fit1
    by_cases e0 : j = 0
    · subst e0; rw [if_neg (by omega)]; rfl
    · by_cases e : j = 65 + k
      · subst e
        rw [if_pos rfl, if_neg (by omega), if_neg (by omega), if_pos (by omega)]
        congr 3; omega
      · rw [if_neg e, if_neg e0, if_neg e0]
        by_cases e2 : j < 65
        · rw [if_pos e2, if_pos e2]
        · rw [if_neg e2, if_neg e2]
          by_cases e3 : j - 65 < k
          · rw [if_pos e3, if_pos (by omega)]
          · rw [if_neg e3, if_neg (by omega)]
theorem allocTab (w : World) : (Instr.alloc TAB true (.tuple #[])).run Try.prog w = .ok (.pointer (some ⟨w.heap.size, 0, none⟩)) (w.alloc (.cells (fcells 129 (tabV false (fun _ => 0) (fun _ => 0))) TAB)) := by kernel_rfl
end Go.Proofs.Ytbldgpemocnboaa

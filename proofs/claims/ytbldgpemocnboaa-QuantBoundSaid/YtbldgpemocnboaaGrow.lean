/- quant.Table's Error, walked; and what grows with the coarseness: plain laws. -/
import Derived.Test.YtbldgpemocnboaaFit
import Derived.Test.YtbldgpemocnboaaQ2
namespace Go.Proofs.Ytbldgpemocnboaa
open Go.RowKit
attribute [local go_sem ↓] run_imax run_imin

def qsum (t : Bool) (ia ir : Nat → Int) (q : Int) (intra : Bool) : Nat → Int
  | 0 => 32
  | k + 1 => qsum t ia ir q intra k + (if k = 0 ∧ intra = true then qfirst (imin (imax q 1) 31) / 2 else qstep t ia ir q k intra - 1)
def qerr (t : Bool) (ia ir : Nat → Int) (q : Int) (intra : Bool) : Int := qsum t ia ir q intra 64 / 64
theorem qsum_bd {t : Bool} {ia ir : Nat → Int} (ha : ∀ j, j < 64 → 0 ≤ ia j ∧ ia j ≤ 255) (hr : ∀ j, j < 64 → 0 ≤ ir j ∧ ir j ≤ 255) (q : Int) (intra : Bool) (k : Nat) :
    32 ≤ qsum t ia ir q intra k ∧ qsum t ia ir q intra k ≤ 32 + k * 7905 := by
  induction k with
  | zero => simp [qsum]
  | succ k ih =>
    have h1 := qstep_bd (t := t) ha hr q k intra
    have h2 := qfirst_bd _ (qp_bd q).2
    unfold qsum
    split <;> omega

set_option maxRecDepth 100000 in
set_option maxHeartbeats 2000000 in
theorem error_any (t : Bool) (ia ir : Nat → Int) (q : Int) (intra : Bool) (w : World) (ha : ∀ j, j < 64 → 0 ≤ ia j ∧ ia j ≤ 255) (hr : ∀ j, j < 64 → 0 ≤ ir j ∧ ir j ≤ 255) :
    Calls Try.prog 28 #[.agg (fcells 129 (tabV t ia ir)), .int .i64 q, .bool intra] w fun e w' => e = .returned (.int .i64 (qerr t ia ir q intra)) ∧ Below w.heap.size w w' := by
  go_enter Try.func28, Try.ntmps28
  have HT : Blk (w.alloc (.cells (fcells 129 (tabV t ia ir)) TAB)) w.heap.size TAB 129 (tabV t ia ir) := Blk.new_at _ _ _ rfl
  have HW : Below w.heap.size w (w.alloc (.cells (fcells 129 (tabV t ia ir)) TAB)) := (Below.refl _ _).alloc (Nat.le_refl _) _
  go_wp2_with fail
  generalize w.alloc (.cells (fcells 129 (tabV t ia ir)) TAB) = w2 at *
  go_loopw [7, 9] (fun s i wr => ∃ k : Nat, k ≤ 64 ∧ i = .int .i64 k ∧ s = .int .i64 (qsum t ia ir q intra k) ∧ Blk wr w.heap.size TAB 129 (tabV t ia ir) ∧ Below w.heap.size w wr) (fun _ i _ => 64 - (intOf i).toNat)
  case atStart => exact ⟨0, by omega, rfl, rfl, HT, HW⟩
  case round =>
    clear HT HW
    obtain ⟨k, hk, rfl, rfl, HT, HW⟩ := hrel
    have hs := qsum_bd (t := t) ha hr q intra k
    by_cases hk8 : k < 64
    · have i1 : (0 : Int) ≤ k := by omega
      have i2 : (k : Int) < 64 := by omega
      have hd : decide ((k : Int) < 64) = true := by simp; omega
      have b1 := qstep_bd (t := t) ha hr q k intra
      have b2 := qfirst_bd _ (qp_bd q).2
      have hst := Lib.hid (show qsum t ia ir q intra (k + 1) = qsum t ia ir q intra k + (if k = 0 ∧ intra = true then qfirst (imin (imax q 1) 31) / 2 else qstep t ia ir q k intra - 1) from rfl)
      by_cases hz : k = 0
      · subst hz
        have b0 : 8 ≤ qstep t ia ir q 0 intra ∧ qstep t ia ir q 0 intra ≤ 7905 := b1
        cases intra
        · generalize qsum t ia ir q false 0 = S at *
          go_wp2_with (refine wpList_load_blkS HT rfl _ _ rfl rfl Try.underlying24 (by kernel_rfl) ?_)
          refine (step_any _ _ _ _ _ _ _ ha hr).mono ?_
          rintro e w3 ⟨rfl, hb⟩
          go_wp2_with fail
          exact ⟨⟨1, by omega, by go_num, by rw [hst.out, if_neg (by simp)]; rfl, HT.below hb HT.lt, HW.trans (hb.mono HW.size)⟩, by simp [intOf]⟩
        · generalize qsum t ia ir q true 0 = S at *
          go_wp2_with (go_at_call 93; (with_reducible refine (first_any _ _).mono ?_); rintro e w' ⟨rfl, rfl⟩)
          exact ⟨⟨1, by omega, by go_num, by rw [hst.out, if_pos (by simp)], HT, HW⟩, by simp [intOf]⟩
      · have hz' : ¬ (k : Int) = 0 := by omega
        generalize qsum t ia ir q intra k = S at *
        go_wp2_with (refine wpList_load_blkS HT rfl _ _ rfl rfl Try.underlying24 (by kernel_rfl) ?_)
        refine (step_any _ _ _ _ _ _ _ ha hr).mono ?_
        rintro e w3 ⟨rfl, hb⟩
        go_wp2_with fail
        exact ⟨⟨k + 1, by omega, by go_num, by rw [hst.out, if_neg (by omega)], HT.below hb HT.lt, HW.trans (hb.mono HW.size)⟩, by simp [intOf]; omega⟩
    · obtain rfl : k = 64 := by omega
      clear ha hr
      go_wp2_with fail
      go_ret
      exact ⟨rfl, HW⟩

theorem qstep_mono {t : Bool} {ia ir : Nat → Int} {p q i : Int} {intra : Bool} (h : p ≤ q) : qstep t ia ir p i intra ≤ qstep t ia ir q i intra := by
  unfold qstep
  refine Int.mul_le_mul_of_nonneg_right ?_ (by rw [imax_eq]; omega)
  rw [imin_eq, imin_eq, imax_eq, imax_eq]; omega
theorem qfirst_mono {p q : Int} (h : p ≤ q) : qfirst (imin (imax p 1) 31) ≤ qfirst (imin (imax q 1) 31) := by
  have h2 : imin (imax p 1) 31 ≤ imin (imax q 1) 31 := by rw [imin_eq, imin_eq, imax_eq, imax_eq]; omega
  unfold qfirst
  rw [imax_eq 2, imax_eq 2]; omega
theorem qsum_mono {t : Bool} {ia ir : Nat → Int} {p q : Int} {intra : Bool} (h : p ≤ q) (k : Nat) : qsum t ia ir p intra k ≤ qsum t ia ir q intra k := by
  induction k with
  | zero => exact Int.le_refl _
  | succ k ih =>
    have h1 := qstep_mono (t := t) (ia := ia) (ir := ir) (i := k) (intra := intra) h
    have h2 := qfirst_mono h
    unfold qsum
    split <;> omega
theorem qerr_mono {t : Bool} {ia ir : Nat → Int} {p q : Int} {intra : Bool} (h : p ≤ q) : qerr t ia ir p intra ≤ qerr t ia ir q intra := by
  have := qsum_mono (t := t) (ia := ia) (ir := ir) (intra := intra) h 64
  unfold qerr; omega
def qlev (n s : Int) : Int := imin (imax (n.tdiv (imax s 1)) (-2047)) 2047
theorem qlev_neg (n s : Int) : qlev (-n) s = -qlev n s := by
  unfold qlev; rw [Int.neg_tdiv, imin_eq, imin_eq, imax_eq (-_), imax_eq (Int.tdiv _ _)]; omega
theorem qlev_nat (n : Nat) (s : Nat) (hs : 1 ≤ s) : qlev n s = imin ((n / s : Nat) : Int) 2047 := by
  unfold qlev
  rw [show imax (s : Int) 1 = (s : Int) by rw [imax_eq]; omega, show Int.tdiv (n : Int) (s : Int) = ((n / s : Nat) : Int) from rfl]
  generalize n / s = z
  rw [imax_eq]
  congr 1; omega
theorem qlev_abs (n s u : Int) (hs : 1 ≤ s) (hu : s ≤ u) : imax (qlev n u) (-qlev n u) ≤ imax (qlev n s) (-qlev n s) := by
  have key : ∀ m : Nat, imax (qlev m u) (-qlev m u) ≤ imax (qlev m s) (-qlev m s) := by
    intro m
    obtain ⟨s, rfl⟩ : ∃ k : Nat, s = k := ⟨s.toNat, by omega⟩
    obtain ⟨u, rfl⟩ : ∃ k : Nat, u = k := ⟨u.toNat, by omega⟩
    have h1 : m / u ≤ m / s := Nat.div_le_div_left (by omega) (by omega)
    rw [qlev_nat m u (by omega), qlev_nat m s (by omega)]
    generalize m / u = y at *
    generalize m / s = x at *
    rw [imin_eq, imin_eq, imax_eq, imax_eq]; omega
  rcases Int.le_total 0 n with h | h
  · obtain ⟨m, rfl⟩ : ∃ k : Nat, n = k := ⟨n.toNat, by omega⟩
    exact key m
  · obtain ⟨m, rfl⟩ : ∃ k : Nat, n = -(k : Int) := ⟨(-n).toNat, by omega⟩
    have h1 := key m
    rw [qlev_neg, qlev_neg, Int.neg_neg, Int.neg_neg]
    rw [imax_eq, imax_eq] at h1 ⊢; omega
theorem qback_neg (l s : Int) : qback (-l) s = -qback l s := by
  have h := Int.neg_mul l s
  unfold qback
  split <;> split <;> (try split) <;> (try split) <;> omega
def qbk (l s : Int) : Int := qback (imin (imax l (-2047)) 2047) (imin (imax s 1) 65536)
theorem qbk_neg (l s : Int) : qbk (-l) s = -qbk l s := by
  unfold qbk
  rw [← qback_neg]
  congr 1
  rw [imin_eq, imin_eq, imax_eq, imax_eq]; omega
end Go.Proofs.Ytbldgpemocnboaa

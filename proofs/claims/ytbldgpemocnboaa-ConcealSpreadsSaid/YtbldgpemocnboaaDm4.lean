/- kinescopelaw25.Map, walked. -/
import Derived.Test.YtbldgpemocnboaaDm3
namespace Go.Proofs.Ytbldgpemocnboaa
open Go.RowKit
attribute [local go_sem ↓] run_imax run_imin

def flF (ls : Nat) (bad : Nat → Bool) (k : Nat) : Bool := decide (k < ls) && bad k
def flK (i ls : Nat) (bad : Nat → Bool) (k : Nat) : Bool := decide (k < i) && flF ls bad k
theorem flK_step {i ls n : Nat} {bad : Nat → Bool} (hi : i < ls) (j : Nat) (hj : j < n) : updB n (flK i ls bad) (i : Int) (bad i) j = flK (i + 1) ls bad j := by
  unfold updB flK flF
  by_cases e : j = i
  · subst e
    simp [hj, hi]
  · by_cases e2 : j < i
    · simp [e, e2, show j < i + 1 by omega]
    · simp [e, e2, show ¬ j < i + 1 by omega]
theorem flK_end {ls : Nat} {bad : Nat → Bool} (j : Nat) : flK ls ls bad j = flF ls bad j := by
  unfold flK flF; by_cases e : j < ls <;> simp [e]

set_option maxHeartbeats 2000000 in
theorem mapOf_any (a0 a1 : Int) (C R : Nat) (p : Option Addr) (ls lc : Nat) (bad : Nat → Bool) (w : World) (h0 : 0 ≤ a0 ∧ a0 ≤ 255) (h1 : 0 ≤ a1 ∧ a1 ≤ 255) (hA : 1 + a0 % 4 = (C : Int)) (hB : 1 + a1 % 4 = (R : Int))
    (hls : ls ≤ 100) (hS : SL w p ls (blv bad)) :
    Calls Try.prog 43 #[.int .u8 a0, .int .u8 a1, .slice p ls lc] w fun r w' =>
      ∃ b, r = .returned (dmV C R b (C * R) (C * R)) ∧ w.heap.size ≤ b ∧ VB w' b 4 (C * R) (blv (flF ls bad)) ∧ Below w.heap.size w w' := by
  have hC : C ≤ 4 := by omega
  have hR : R ≤ 4 := by omega
  replace hS := Lib.hid hS
  go_enter Try.func43, Try.ntmps43
  go_wp2_with fail
  have HZ : Ob (w.alloc (.cells #[.int .i64 0, .int .i64 0, .slice none 0 0] DMT)) w.heap.size DMT #[.int .i64 0, .int .i64 0, .slice none 0 0] := Ob.new_at _ _ rfl
  have HW : Below w.heap.size w (w.alloc (.cells #[.int .i64 0, .int .i64 0, .slice none 0 0] DMT)) := by ((repeat (first | exact Below.refl _ _ | assumption | refine Below.setCell ?_ (by first | omega | (simp; done) | (simp; omega)) _ | refine Below.alloc ?_ (by first | omega | (simp; done) | (simp; omega)) _ | refine below_drewN ?_ _ | refine Below.drew ?_ | refine below_setRow ?_ (by first | omega | (simp; done) | (simp; omega)) _)))
  generalize w.alloc (.cells #[.int .i64 0, .int .i64 0, .slice none 0 0] DMT) = w0 at *
  have hz := HZ.lt
  refine (dmNew_any _ _ false C R _ (by rw [imin_eq, imax_eq]; omega) (by rw [imin_eq, imax_eq]; omega)).mono ?_
  rintro e w1 ⟨b, rfl, hbf, HV, hb⟩
  replace HZ := HZ.later hb; replace HW := below_step HW hb
  clear hb
  unfold dmV dmC
  go_wp2_with fail
  generalize hw2 : w1.alloc (.cells #[.int .i64 (C : Int), .int .i64 (R : Int), .slice (some ⟨b, 0, none⟩) (C * R) (C * R)] DMT) = w2
  have HO : Ob w2 w1.heap.size DMT (dmC C R b (C * R) (C * R)) := by rw [← hw2]; exact Ob.new_at _ _ rfl
  have hbq := HV.lt
  have hz1 := HZ.lt
  replace HV : VB w2 b 4 (C * R) (blv (flK 0 ls bad)) := by rw [← hw2]; exact (HV.alloc _).congr (fun j _ => by simp [blv, flK])
  replace HZ : Ob w2 w.heap.size DMT #[.int .i64 0, .int .i64 0, .slice none 0 0] := by rw [← hw2]; exact HZ.alloc _
  replace HW : Below w.heap.size w w2 := by rw [← hw2]; exact HW.alloc HW.size _
  have hbw : w.heap.size < b := by omega
  clear hw2 hbf hz
  generalize w1.heap.size = q at *
  clear w1 w0
  go_loopw [21] (fun i wr => ∃ k : Nat, k ≤ ls ∧ i = .int .i64 k ∧ Ob wr q DMT (dmC C R b (C * R) (C * R)) ∧ VB wr b 4 (C * R) (blv (flK k ls bad)) ∧ Ob wr w.heap.size DMT #[.int .i64 0, .int .i64 0, .slice none 0 0] ∧ Below w.heap.size w wr) (fun i _ => ls - (intOf i).toNat)
  case atStart => exact ⟨0, by omega, rfl, HO, HV, HZ, HW⟩
  case round =>
    clear HO HV HZ HW
    obtain ⟨k, hk, rfl, HO, HV, HZ, HW⟩ := hrel
    by_cases hlt : k < ls
    · obtain ⟨bs, os, rfl, hbs, hcs⟩ : ∃ bs os, p = some ⟨bs, os, none⟩ ∧ bs < w.heap.size ∧ ∀ k, k < ls → w.cell? ⟨bs, os + k, none⟩ = some (blv bad k) := by
        rcases hS.out with h | h
        · omega
        · exact h
      have c4 : wr.cell? ⟨bs, os + k, none⟩ = some (.bool (bad k)) := by rw [HW.cell (p := ⟨bs, os + k, none⟩) hbs]; exact hcs k hlt
      clear hcs
      go_wp2_with (refine wpList_load_ob HO rfl 58 _ rfl rfl Try.underlying58 (by kernel_rfl) ?_)
      refine (dmSet_any C R b (C * R) _ _ _ _ _ HV).mono ?_
      rintro e w3 ⟨rfl, HV3, hWr⟩
      have m1 : q ≠ b := by omega
      have m2 : w.heap.size ≠ b := by omega
      replace HO := HO.wr hWr m1; replace HZ := HZ.wr hWr m2; replace HW := hWr.below HW (by omega)
      replace HV := HV3.congr (f' := blv (flK (k + 1) ls bad)) (fun j hj => by unfold blv; rw [flK_step hlt j hj])
      clear HV3 hWr c4
      go_wp2_with fail
      exact ⟨⟨k + 1, by omega, by go_num, HO, HV, HZ, HW⟩, by simp [intOf]; omega⟩
    · obtain rfl : k = ls := by omega
      go_wp2_with (first | (refine wpList_load_ob HO rfl 58 _ rfl rfl Try.underlying58 (by kernel_rfl) ?_) | (refine wpList_store_ob HZ rfl _ _ _ rfl rfl _ rfl (by kernel_rfl) rfl rfl ?_))
      exact bodyPost_ret (results_ob rfl _ (HZ.setRow_same _) rfl Try.underlying58 (by kernel_rfl)) rfl ⟨b, rfl, by omega, (HV.setRow (by omega) _).congr (fun j hj => by unfold blv; rw [flK_end]), below_setRow HW (Nat.le_refl _) _⟩
end Go.Proofs.Ytbldgpemocnboaa

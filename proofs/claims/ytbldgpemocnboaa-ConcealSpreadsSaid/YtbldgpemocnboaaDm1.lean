/- damage.New, Has, Count, Same, walked. -/
import Derived.Test.YtbldgpemocnboaaOb
namespace Go.Proofs.Ytbldgpemocnboaa
open Go.RowKit
attribute [local go_sem ↓] run_imax run_imin

abbrev DMT : TypeId := 58
def dmC (C R b n c : Nat) : Array Value := #[.int .i64 (C : Int), .int .i64 (R : Int), .slice (some ⟨b, 0, none⟩) n c]
def dmV (C R b n c : Nat) : Value := .agg (dmC C R b n c)
def blv (f : Nat → Bool) (k : Nat) : Value := .bool (f k)
theorem infoBool : (Try.prog.info? 4).map (fun i => (i.zero, i.size, i.bytes)) = some (some (.bool false), 1, 1) := by kernel_rfl
section
variable {w : World} {C R b n c p : Nat}
theorem Ob.mC (h : Ob w p DMT (dmC C R b n c)) : w.cell? ⟨p, 0, none⟩ = some (.int .i64 (C : Int)) := h.cell 0 rfl
theorem Ob.mR (h : Ob w p DMT (dmC C R b n c)) : w.cell? ⟨p, 1, none⟩ = some (.int .i64 (R : Int)) := h.cell 1 rfl
theorem Ob.mS (h : Ob w p DMT (dmC C R b n c)) : w.cell? ⟨p, 2, none⟩ = some (.slice (some ⟨b, 0, none⟩) n c) := h.cell 2 rfl
end
theorem dm_size {C R : Nat} (hC : C ≤ 8) (hR : R ≤ 8) : C * R ≤ 64 := Nat.mul_le_mul hC hR

def NewDP (C R : Nat) (all : Bool) (w : World) (r : Ending) (w' : World) : Prop :=
  ∃ b, r = .returned (dmV C R b (C * R) (C * R)) ∧ w.heap.size ≤ b ∧ VB w' b 4 (C * R) (blv fun _ => all) ∧ Below w.heap.size w w'

set_option maxHeartbeats 1000000 in
theorem dmNew_any (x y : Int) (all : Bool) (C R : Nat) (w : World) (hx : imin (imax x 0) 8 = C) (hy : imin (imax y 0) 8 = R) :
    Calls Try.prog 48 #[.int .i64 x, .int .i64 y, .bool all] w (NewDP C R all w) := by
  have hC : C ≤ 8 := by rw [imin_eq, imax_eq] at hx; omega
  have hR : R ≤ 8 := by rw [imin_eq, imax_eq] at hy; omega
  have hm := dm_size hC hR
  go_enter Try.func48, Try.ntmps48
  go_wp2_with (refine wpList_make_vb rfl _ _ _ rfl 4 (.bool false) 1 Try.underlying55 infoBool rfl _ _ _ _ (C * R) rfl rfl (by simp) (by simp) (by omega) (by unfold maxLen; omega) ?_)
  replace hx := Lib.hid hx; replace hy := Lib.hid hy
  intro w1 hvb hb
  go_wp2_with fail
  have HB : VB w1 (w.heap.size + 1) 4 (C * R) (blv fun j => if j < 0 then all else false) := (show VB w1 (w.heap.size + 1) 4 (C * R) (fun _ => .bool false) by simpa using hvb).congr (fun _ _ => by simp [blv])
  have hb1 : Below w.heap.size w w1 := ((Below.refl _ _).alloc (Nat.le_refl _) _).trans (hb.mono (by simp))
  have HZ : Ob w1 w.heap.size DMT #[.int .i64 0, .int .i64 0, .slice none 0 0] := (Ob.new_at _ _ rfl).below hb (by simp)
  have hsz : w.heap.size + 1 < w1.heap.size := HB.lt
  clear hvb hb
  generalize hw2 : w1.alloc (.cells #[.int .i64 (C : Int), .int .i64 (R : Int), .slice (some ⟨w.heap.size + 1, 0, none⟩) (C * R) (C * R)] DMT) = w2
  have HO : Ob w2 w1.heap.size DMT (dmC C R (w.heap.size + 1) (C * R) (C * R)) := by rw [← hw2]; exact Ob.new_at _ _ rfl
  replace HB : VB w2 (w.heap.size + 1) 4 (C * R) (blv fun j => if j < 0 then all else false) := by rw [← hw2]; exact HB.alloc _
  replace HZ : Ob w2 w.heap.size DMT #[.int .i64 0, .int .i64 0, .slice none 0 0] := by rw [← hw2]; exact HZ.alloc _
  have HW : Below w.heap.size w w2 := by rw [← hw2]; exact hb1.alloc hb1.size _
  clear hw2 hb1
  generalize w1.heap.size = p at *
  clear w1
  go_loopw [25] (fun i wr => ∃ k : Nat, k ≤ C * R ∧ i = .int .i64 k ∧ Ob wr p DMT (dmC C R (w.heap.size + 1) (C * R) (C * R)) ∧ VB wr (w.heap.size + 1) 4 (C * R) (blv fun j => if j < k then all else false) ∧
      Ob wr w.heap.size DMT #[.int .i64 0, .int .i64 0, .slice none 0 0] ∧ Below w.heap.size w wr) (fun i _ => C * R - (intOf i).toNat)
  case atStart => exact ⟨0, by omega, rfl, HO, HB, HZ, HW⟩
  case round =>
    clear HO HB HZ HW
    obtain ⟨k, hk, rfl, HO, HB, HZ, HW⟩ := hrel
    by_cases hlt : k < C * R
    · have hd : decide ((k : Int) < (C : Int) * (R : Int)) = true := by
        have : ((k : Nat) : Int) < ((C * R : Nat) : Int) := by omega
        simpa using this
      have c1 := HO.mS
      have c2 := HB.cell hlt
      have f2 := HB.free k
      go_wp2_with fail
      exact ⟨⟨k + 1, by omega, by go_num, HO.other (by omega) _ _, (HB.set k (.bool all)).congr (fun j _ => by
        unfold blv
        by_cases e : j = k
        · simp [e]
        · by_cases e2 : j < k
          · simp [e, e2, show j < k + 1 by omega]
          · simp [e, e2, show ¬ j < k + 1 by omega]), HZ.other (by omega) _ _, HW.setCell (by simp) _⟩, by simp [intOf]; omega⟩
    · obtain rfl : k = C * R := by omega
      go_wp2_with (first | (refine wpList_load_ob HO rfl _ _ rfl rfl Try.underlying58 (by kernel_rfl) ?_) | (refine wpList_store_ob HZ rfl _ _ _ rfl rfl _ rfl (by kernel_rfl) rfl rfl ?_))
      exact bodyPost_ret (results_ob rfl _ (HZ.setRow_same _) rfl Try.underlying58 (by kernel_rfl)) rfl ⟨_, rfl, by omega, (HB.setRow (by omega) _).congr (fun j hj => by simp [blv, hj]), below_setRow HW (Nat.le_refl _) _⟩

def dmHas (n : Nat) (f : Nat → Bool) (mb : Int) : Bool := decide (0 ≤ mb) && (decide (mb < n) && f mb.toNat)

set_option maxHeartbeats 1000000 in
theorem dmHas_any (C R b n c : Nat) (f : Nat → Bool) (mb : Int) (w : World) (hB : VB w b 4 n (blv f)) :
    Calls Try.prog 46 #[dmV C R b n c, .int .i64 mb] w fun e w' => e = .returned (.bool (dmHas n f mb)) ∧ Below w.heap.size w w' := by
  have hlt := hB.lt
  unfold dmV dmC dmHas
  by_cases h1 : 0 ≤ mb
  · by_cases h2 : mb < n
    · obtain ⟨k, rfl⟩ : ∃ k : Nat, mb = k := ⟨mb.toNat, by omega⟩
      have hk : k < n := by omega
      have hc := hB.cell hk
      unfold blv at hc
      simp only [h1, h2, decide_true, Bool.true_and, Int.toNat_natCast]
      go_enter Try.func46, Try.ntmps46
      go_wp2_with fail
      go_ret
      exact ⟨rfl, by ((repeat (first | exact Below.refl _ _ | assumption | refine Below.setCell ?_ (by first | omega | (simp; done) | (simp; omega)) _ | refine Below.alloc ?_ (by first | omega | (simp; done) | (simp; omega)) _ | refine below_drewN ?_ _ | refine Below.drew ?_ | refine below_setRow ?_ (by first | omega | (simp; done) | (simp; omega)) _)))⟩
    · have e1 : decide (mb < (n : Int)) = false := by simpa using h2
      simp only [h1, e1, decide_true, Bool.true_and, Bool.false_and]
      go_enter Try.func46, Try.ntmps46
      go_wp2_with fail
      go_ret
      exact ⟨rfl, by ((repeat (first | exact Below.refl _ _ | assumption | refine Below.setCell ?_ (by first | omega | (simp; done) | (simp; omega)) _ | refine Below.alloc ?_ (by first | omega | (simp; done) | (simp; omega)) _ | refine below_drewN ?_ _ | refine Below.drew ?_ | refine below_setRow ?_ (by first | omega | (simp; done) | (simp; omega)) _)))⟩
  · have e1 : decide (0 ≤ mb) = false := by simpa using h1
    simp only [e1, Bool.false_and]
    go_enter Try.func46, Try.ntmps46
    go_wp2_with fail
    go_ret
    exact ⟨rfl, by ((repeat (first | exact Below.refl _ _ | assumption | refine Below.setCell ?_ (by first | omega | (simp; done) | (simp; omega)) _ | refine Below.alloc ?_ (by first | omega | (simp; done) | (simp; omega)) _ | refine below_drewN ?_ _ | refine Below.drew ?_ | refine below_setRow ?_ (by first | omega | (simp; done) | (simp; omega)) _)))⟩

def cntTo (f : Nat → Bool) : Nat → Nat
  | 0 => 0
  | k + 1 => cntTo f k + if f k = true then 1 else 0
theorem cntTo_le (f : Nat → Bool) (n : Nat) : cntTo f n ≤ n := by
  induction n with
  | zero => exact Nat.le_refl _
  | succ n ih => unfold cntTo; split <;> omega

end Go.Proofs.Ytbldgpemocnboaa

/- plane.Frame's Sum, walked (printed by wip/tools/sum.py). -/
import Derived.Test.YtggdaefgaakijaaCell
import Derived.Test.YtggdaefgaakijaaFr8
namespace Go.Proofs.Ytggdaefgaakijaa
open Go.RowKit Go.Sort
attribute [local go_sem ↓] run_imax run_imin

/-- One step of the sum. -/
def hStep (a c : Int) : Int := bits .xor .u32 a c * 16777619 % 4294967296
theorem hStep_bd (a c : Int) : 0 ≤ hStep a c ∧ hStep a c < 4294967296 := by unfold hStep; omega
/-- The sum behind n samples. -/
def hF (s : Nat → Int) (a : Int) : Nat → Int
  | 0 => a
  | n + 1 => hStep (hF s a n) (s n)
theorem hF_bd {s : Nat → Int} {a : Int} (h : 0 ≤ a ∧ a < 4294967296) (n : Nat) : 0 ≤ hF s a n ∧ hF s a n < 4294967296 := by
  cases n with
  | zero => exact h
  | succ n => exact hStep_bd _ _
theorem hF_congr {s t : Nat → Int} {a : Int} : ∀ n, (∀ k, k < n → s k = t k) → hF s a n = hF t a n
  | 0, _ => rfl
  | n + 1, h => by unfold hF; rw [hF_congr n (fun k hk => h k (by omega)), h n (by omega)]
/-- The sum behind k of a frame's planes. -/
def hP (f : Fr) (k : Nat) : Int := if k = 0 then 2166136261 else if k = 1 then hF f.sY 2166136261 (lY f) else if k = 2 then hF f.sU (hF f.sY 2166136261 (lY f)) (lU f) else hF f.sV (hF f.sU (hF f.sY 2166136261 (lY f)) (lU f)) (lU f)
theorem hP_bd (f : Fr) (k : Nat) : 0 ≤ hP f k ∧ hP f k < 4294967296 := by
  have h1 := hF_bd (s := f.sY) (a := 2166136261) (by omega) (lY f)
  have h2 := hF_bd (s := f.sU) h1 (lU f)
  have h3 := hF_bd (s := f.sV) h2 (lU f)
  unfold hP; split
  · omega
  split
  · exact h1
  split
  · exact h2
  · exact h3

set_option maxHeartbeats 4000000 in
theorem sum_any (f : Fr) (w : World) (hM : f.Mem w) :
    Calls Try.prog 48 #[f.val] w fun e w' => e = .returned (.int .u32 (hP f 3)) ∧ Below w.heap.size w w' := by
  have hc := hM.hc; have hrr := hM.hr
  have HO : Ob (w.alloc (.cells f.cells 58)) w.heap.size FRT f.cells := Ob.new_at _ _ rfl
  replace hM := hM.alloc (.cells f.cells 58)
  have HW : Below w.heap.size w (w.alloc (.cells f.cells 58)) := by ((repeat (first | exact Below.refl _ _ | assumption | refine Below.setCell ?_ (by first | omega | (simp; done) | (simp; omega)) _ | refine Below.alloc ?_ (by first | omega | (simp; done) | (simp; omega)) _ | refine below_drewN ?_ _ | refine Below.drew ?_ | refine below_setRow ?_ (by first | omega | (simp; done) | (simp; omega)) _)))
  unfold Fr.val
  go_enter Try.func48, Try.ntmps48
  go_wp2_with (refine wpList_load_ob HO rfl _ _ rfl rfl Try.underlying58 (by kernel_rfl) ?_)
  refine (planes_any f _).mono ?_
  rintro e w1 ⟨rfl, hb⟩
  replace hM := hM.later hb; replace HW := below_step HW hb
  clear hb HO
  unfold Fr.planes
  go_wp2_with fail
  go_loopw [3, 10] (fun s i wr => ∃ k : Nat, k ≤ 3 ∧ i = .int .i64 k ∧ s = .int .u32 (hP f k) ∧ f.Mem wr ∧ Below w.heap.size w wr) (fun _ i _ => 3 - (intOf i).toNat)
  case atStart => exact ⟨0, by omega, rfl, rfl, hM, HW⟩
  case round =>
    clear hM HW
    obtain ⟨k, hk, rfl, rfl, hM, HW⟩ := hrel
    obtain rfl | rfl | rfl | rfl : k = 0 ∨ k = 1 ∨ k = 2 ∨ k = 3 := by omega
    · have i0 := fun W => idx_pl0 W (.int .i64 (16 * (f.c : Int))) (.int .i64 (16 * (f.r : Int))) (.slice (some ⟨f.bY, 0, none⟩) (16 * f.c * (16 * f.r)) f.cY) (.int .i64 (8 * (f.c : Int))) (.int .i64 (8 * (f.r : Int))) (.slice (some ⟨f.bU, 0, none⟩) (8 * f.c * (8 * f.r)) f.cU) (.int .i64 (8 * (f.c : Int))) (.int .i64 (8 * (f.r : Int))) (.slice (some ⟨f.bV, 0, none⟩) (8 * f.c * (8 * f.r)) f.cV)
      have ha := hP_bd f 0
      have hnx : hF f.sY (hP f 0) (16 * f.c * (16 * f.r)) = hP f 1 := rfl
      generalize hP f 0 = a at *
      replace hnx := Lib.hid hnx
      have hp1 := HW.size
      replace hM := hM.alloc (.cells #[.int .i64 (16 * (f.c : Int)), .int .i64 (16 * (f.r : Int)), .slice (some ⟨f.bY, 0, none⟩) (16 * f.c * (16 * f.r)) f.cY] PLT); replace HW := HW.alloc HW.size (.cells #[.int .i64 (16 * (f.c : Int)), .int .i64 (16 * (f.r : Int)), .slice (some ⟨f.bY, 0, none⟩) (16 * f.c * (16 * f.r)) f.cY] PLT)
      go_wp2_with fail
      clear i0
      generalize wr.alloc (.cells #[.int .i64 (16 * (f.c : Int)), .int .i64 (16 * (f.r : Int)), .slice (some ⟨f.bY, 0, none⟩) (16 * f.c * (16 * f.r)) f.cY] PLT) = w4 at *
      go_loopw [3, 16] (fun s v wr => ∃ j : Nat, j ≤ 16 * f.c * (16 * f.r) ∧ v = .int .i64 (j : Int) ∧ s = .int .u32 (hF f.sY a j) ∧ f.Mem wr ∧ Below w.heap.size w wr) (fun _ v _ => 16 * f.c * (16 * f.r) - (intOf v).toNat)
      case atStart => exact ⟨0, by omega, rfl, rfl, hM, HW⟩
      case round =>
        clear HW hM
        obtain ⟨j, hj, rfl, rfl, hM, HW⟩ := hrel
        by_cases hlt : j < 16 * f.c * (16 * f.r)
        · have hd : decide ((j : Int) < 16 * (f.c : Int) * (16 * (f.r : Int))) = true := by
            have : ((j : Nat) : Int) < ((16 * f.c * (16 * f.r) : Nat) : Int) := by omega
            simpa using this
          have hN : 16 * f.c * (16 * f.r) ≤ 16384 := Nat.le_trans (Nat.mul_le_mul (by omega : _ ≤ 128) (by omega : _ ≤ 128)) (by omega)
          have c4 := hM.y.cell hlt
          obtain ⟨b1, b2⟩ := hM.y.bd hlt
          have hs2 := hF_bd (s := f.sY) ha j
          have hst : hF f.sY a (j + 1) = hStep (hF f.sY a j) (f.sY j) := rfl
          generalize hF f.sY a j = x at *
          replace hst := Lib.hid hst
          go_wp2_with fail
          exact ⟨⟨j + 1, by omega, by go_num, by rw [hst.out]; rfl, hM, HW⟩, by simp [intOf]; omega⟩
        · obtain rfl : j = 16 * f.c * (16 * f.r) := by omega
          have hd : decide (((16 * f.c * (16 * f.r) : Nat) : Int) < 16 * (f.c : Int) * (16 * (f.r : Int))) = false := by simp
          go_wp2_with fail
          exact ⟨⟨1, by omega, rfl, by rw [hnx.out], hM, HW⟩, by simp [intOf]⟩
    · have i0 := fun W => idx_pl1 W (.int .i64 (16 * (f.c : Int))) (.int .i64 (16 * (f.r : Int))) (.slice (some ⟨f.bY, 0, none⟩) (16 * f.c * (16 * f.r)) f.cY) (.int .i64 (8 * (f.c : Int))) (.int .i64 (8 * (f.r : Int))) (.slice (some ⟨f.bU, 0, none⟩) (8 * f.c * (8 * f.r)) f.cU) (.int .i64 (8 * (f.c : Int))) (.int .i64 (8 * (f.r : Int))) (.slice (some ⟨f.bV, 0, none⟩) (8 * f.c * (8 * f.r)) f.cV)
      have ha := hP_bd f 1
      have hnx : hF f.sU (hP f 1) (8 * f.c * (8 * f.r)) = hP f 2 := rfl
      generalize hP f 1 = a at *
      replace hnx := Lib.hid hnx
      have hp1 := HW.size
      replace hM := hM.alloc (.cells #[.int .i64 (8 * (f.c : Int)), .int .i64 (8 * (f.r : Int)), .slice (some ⟨f.bU, 0, none⟩) (8 * f.c * (8 * f.r)) f.cU] PLT); replace HW := HW.alloc HW.size (.cells #[.int .i64 (8 * (f.c : Int)), .int .i64 (8 * (f.r : Int)), .slice (some ⟨f.bU, 0, none⟩) (8 * f.c * (8 * f.r)) f.cU] PLT)
      go_wp2_with fail
      clear i0
      generalize wr.alloc (.cells #[.int .i64 (8 * (f.c : Int)), .int .i64 (8 * (f.r : Int)), .slice (some ⟨f.bU, 0, none⟩) (8 * f.c * (8 * f.r)) f.cU] PLT) = w4 at *
      go_loopw [3, 16] (fun s v wr => ∃ j : Nat, j ≤ 8 * f.c * (8 * f.r) ∧ v = .int .i64 (j : Int) ∧ s = .int .u32 (hF f.sU a j) ∧ f.Mem wr ∧ Below w.heap.size w wr) (fun _ v _ => 8 * f.c * (8 * f.r) - (intOf v).toNat)
      case atStart => exact ⟨0, by omega, rfl, rfl, hM, HW⟩
      case round =>
        clear HW hM
        obtain ⟨j, hj, rfl, rfl, hM, HW⟩ := hrel
        by_cases hlt : j < 8 * f.c * (8 * f.r)
        · have hd : decide ((j : Int) < 8 * (f.c : Int) * (8 * (f.r : Int))) = true := by
            have : ((j : Nat) : Int) < ((8 * f.c * (8 * f.r) : Nat) : Int) := by omega
            simpa using this
          have hN : 8 * f.c * (8 * f.r) ≤ 16384 := Nat.le_trans (Nat.mul_le_mul (by omega : _ ≤ 128) (by omega : _ ≤ 128)) (by omega)
          have c4 := hM.u.cell hlt
          obtain ⟨b1, b2⟩ := hM.u.bd hlt
          have hs2 := hF_bd (s := f.sU) ha j
          have hst : hF f.sU a (j + 1) = hStep (hF f.sU a j) (f.sU j) := rfl
          generalize hF f.sU a j = x at *
          replace hst := Lib.hid hst
          go_wp2_with fail
          exact ⟨⟨j + 1, by omega, by go_num, by rw [hst.out]; rfl, hM, HW⟩, by simp [intOf]; omega⟩
        · obtain rfl : j = 8 * f.c * (8 * f.r) := by omega
          have hd : decide (((8 * f.c * (8 * f.r) : Nat) : Int) < 8 * (f.c : Int) * (8 * (f.r : Int))) = false := by simp
          go_wp2_with fail
          exact ⟨⟨2, by omega, rfl, by rw [hnx.out], hM, HW⟩, by simp [intOf]⟩
    · have i0 := fun W => idx_pl2 W (.int .i64 (16 * (f.c : Int))) (.int .i64 (16 * (f.r : Int))) (.slice (some ⟨f.bY, 0, none⟩) (16 * f.c * (16 * f.r)) f.cY) (.int .i64 (8 * (f.c : Int))) (.int .i64 (8 * (f.r : Int))) (.slice (some ⟨f.bU, 0, none⟩) (8 * f.c * (8 * f.r)) f.cU) (.int .i64 (8 * (f.c : Int))) (.int .i64 (8 * (f.r : Int))) (.slice (some ⟨f.bV, 0, none⟩) (8 * f.c * (8 * f.r)) f.cV)
      have ha := hP_bd f 2
      have hnx : hF f.sV (hP f 2) (8 * f.c * (8 * f.r)) = hP f 3 := rfl
      generalize hP f 2 = a at *
      replace hnx := Lib.hid hnx
      have hp1 := HW.size
      replace hM := hM.alloc (.cells #[.int .i64 (8 * (f.c : Int)), .int .i64 (8 * (f.r : Int)), .slice (some ⟨f.bV, 0, none⟩) (8 * f.c * (8 * f.r)) f.cV] PLT); replace HW := HW.alloc HW.size (.cells #[.int .i64 (8 * (f.c : Int)), .int .i64 (8 * (f.r : Int)), .slice (some ⟨f.bV, 0, none⟩) (8 * f.c * (8 * f.r)) f.cV] PLT)
      go_wp2_with fail
      clear i0
      generalize wr.alloc (.cells #[.int .i64 (8 * (f.c : Int)), .int .i64 (8 * (f.r : Int)), .slice (some ⟨f.bV, 0, none⟩) (8 * f.c * (8 * f.r)) f.cV] PLT) = w4 at *
      go_loopw [3, 16] (fun s v wr => ∃ j : Nat, j ≤ 8 * f.c * (8 * f.r) ∧ v = .int .i64 (j : Int) ∧ s = .int .u32 (hF f.sV a j) ∧ f.Mem wr ∧ Below w.heap.size w wr) (fun _ v _ => 8 * f.c * (8 * f.r) - (intOf v).toNat)
      case atStart => exact ⟨0, by omega, rfl, rfl, hM, HW⟩
      case round =>
        clear HW hM
        obtain ⟨j, hj, rfl, rfl, hM, HW⟩ := hrel
        by_cases hlt : j < 8 * f.c * (8 * f.r)
        · have hd : decide ((j : Int) < 8 * (f.c : Int) * (8 * (f.r : Int))) = true := by
            have : ((j : Nat) : Int) < ((8 * f.c * (8 * f.r) : Nat) : Int) := by omega
            simpa using this
          have hN : 8 * f.c * (8 * f.r) ≤ 16384 := Nat.le_trans (Nat.mul_le_mul (by omega : _ ≤ 128) (by omega : _ ≤ 128)) (by omega)
          have c4 := hM.v.cell hlt
          obtain ⟨b1, b2⟩ := hM.v.bd hlt
          have hs2 := hF_bd (s := f.sV) ha j
          have hst : hF f.sV a (j + 1) = hStep (hF f.sV a j) (f.sV j) := rfl
          generalize hF f.sV a j = x at *
          replace hst := Lib.hid hst
          go_wp2_with fail
          exact ⟨⟨j + 1, by omega, by go_num, by rw [hst.out]; rfl, hM, HW⟩, by simp [intOf]; omega⟩
        · obtain rfl : j = 8 * f.c * (8 * f.r) := by omega
          have hd : decide (((8 * f.c * (8 * f.r) : Nat) : Int) < 8 * (f.c : Int) * (8 * (f.r : Int))) = false := by simp
          go_wp2_with fail
          exact ⟨⟨3, by omega, rfl, by rw [hnx.out], hM, HW⟩, by simp [intOf]⟩
    · go_wp2_with fail
      go_ret
      exact ⟨rfl, HW⟩
end Go.Proofs.Ytggdaefgaakijaa

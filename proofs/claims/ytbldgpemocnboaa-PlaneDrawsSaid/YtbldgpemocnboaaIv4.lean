/- The document's answer of layer 13: Between, walked. -/
import Derived.Test.YtbldgpemocnboaaIv3
namespace Go.Proofs.Ytbldgpemocnboaa
open Go.RowKit Go.Sort
attribute [local go_sem ↓] run_imax run_imin

/-- The sum of the first n. -/
def rs (f : Nat → Int) : Nat → Int
  | 0 => 0
  | n + 1 => rs f n + f n
theorem rs_bd {f : Nat → Int} {m : Int} (h : ∀ k, 0 ≤ f k ∧ f k ≤ m) (hm : 0 ≤ m) : ∀ n, n ≤ 2 → 0 ≤ rs f n ∧ rs f n ≤ 2 * m
  | 0, _ => by simp only [rs]; omega
  | 1, _ => by have := h 0; simp only [rs]; omega
  | 2, _ => by have := h 0; have := h 1; simp only [rs]; omega
/-- The samples around a place. -/
def btN (W H : Nat) (s : Nat → Int) (X Y : Int) (j i : Nat) : Int := plAt W H s (X + (i : Int)) (Y + (j : Int))
def btR (W H : Nat) (s : Nat → Int) (X Y : Int) (fx j : Nat) : Int := rs (btN W H s X Y j) (fx + 1)
theorem bt_flat (W H : Nat) (s : Nat → Int) (x y : Int) (fx fy : Nat) (hx : x % 2 = (fx : Int)) (hy : y % 2 = (fy : Int)) (d : Bool) :
    ((fx = 0 ∧ fy = 0) ∧ ipAt W H s x y d = rs (btR W H s (x / 2) (y / 2) fx) (fy + 1)) ∨
    ((fx = 1 ∧ fy = 0 ∨ fx = 0 ∧ fy = 1) ∧ ipAt W H s x y d = (rs (btR W H s (x / 2) (y / 2) fx) (fy + 1) + 1 - if d = true then 1 else 0) / 2) ∨
    ((fx = 1 ∧ fy = 1) ∧ ipAt W H s x y d = (rs (btR W H s (x / 2) (y / 2) fx) (fy + 1) + 2 - if d = true then 1 else 0) / 4) := by
  have hx1 : fx = 0 ∨ fx = 1 := by omega
  have hy1 : fy = 0 ∨ fy = 1 := by omega
  unfold ipAt btR btN
  rcases hx1 with rfl | rfl <;> rcases hy1 with rfl | rfl
  · rw [if_pos ⟨hx, hy⟩]; simp [rs]
  · rw [if_neg (by omega), if_neg (by omega), if_pos (show x % 2 = 0 from hx)]; simp [rs]
  · rw [if_neg (by omega), if_pos (show y % 2 = 0 from hy)]; simp [rs]
  · rw [if_neg (by omega), if_neg (by omega), if_neg (by omega)]; simp [rs]; congr 2; omega

set_option maxHeartbeats 4000000 in
theorem between_any (W H b c : Nat) (s : Nat → Int) (x y : Int) (d : Bool) (w : World) (hW : 0 < W) (hH : 0 < H) (hW2 : W ≤ 1024) (hH2 : H ≤ 1024) (hP : PB w b (W * H) s)
    (hx : -9223372036854775808 ≤ x) (hx2 : x ≤ 9223372036854775807) (hy : -9223372036854775808 ≤ y) (hy2 : y ≤ 9223372036854775807) :
    Calls Try.prog 102 #[plV W H b (W * H) c, .int .i64 x, .int .i64 y, .bool d] w fun r w' => r = .returned (.int .i64 (ipAt W H s x y d)) ∧ Below w.heap.size w w' := by
  obtain ⟨fx, hfx⟩ : ∃ fx : Nat, x % 2 = (fx : Int) := ⟨(x % 2).toNat, by omega⟩
  obtain ⟨fy, hfy⟩ : ∃ fy : Nat, y % 2 = (fy : Int) := ⟨(y % 2).toNat, by omega⟩
  have hfl := Lib.hid (bt_flat W H s x y fx fy hfx hfy d)
  have hN : ∀ j i, 0 ≤ btN W H s (x / 2) (y / 2) j i ∧ btN W H s (x / 2) (y / 2) j i ≤ 255 := fun j i => plAt_bd hP _ _
  have hfx1 : fx ≤ 1 := by omega
  have hfy1 : fy ≤ 1 := by omega
  have hR : ∀ j, 0 ≤ btR W H s (x / 2) (y / 2) fx j ∧ btR W H s (x / 2) (y / 2) fx j ≤ 510 := fun j => by
    have := rs_bd (hN j) (by omega) (fx + 1) (by omega); unfold btR; omega
  generalize hrr : ipAt W H s x y d = res at *
  have bx : -4611686018427387904 ≤ x / 2 ∧ x / 2 ≤ 4611686018427387903 := by omega
  have by_ : -4611686018427387904 ≤ y / 2 ∧ y / 2 ≤ 4611686018427387903 := by omega
  have hf := fun w => floor_any x w hx hx2
  have hg := fun w => floor_any y w hy hy2
  rw [hfx] at hf; rw [hfy] at hg
  obtain ⟨X, hX⟩ : ∃ X, x / 2 = X := ⟨_, rfl⟩
  obtain ⟨Y, hY⟩ : ∃ Y, y / 2 = Y := ⟨_, rfl⟩
  rw [hX] at hfl hN hR bx hf; rw [hY] at hfl hN hR by_ hg
  obtain ⟨bx1, bx2⟩ := bx; obtain ⟨by1, by2⟩ := by_
  replace hf := Lib.hid hf; replace hg := Lib.hid hg; replace hN := Lib.hid hN; replace hR := Lib.hid hR
  clear hX hY hfx hfy hrr
  have HO : Ob (w.alloc (.cells (plC W H b (W * H) c) 135)) w.heap.size 135 (plC W H b (W * H) c) := Ob.new_at _ _ rfl
  have HP := hP.alloc (.cells (plC W H b (W * H) c) 135)
  have HW : Below w.heap.size w (w.alloc (.cells (plC W H b (W * H) c) 135)) := by ((repeat (first | exact Below.refl _ _ | assumption | refine Below.setCell ?_ (by first | omega | (simp; done) | (simp; omega)) _ | refine Below.alloc ?_ (by first | omega | (simp; done) | (simp; omega)) _ | refine below_drewN ?_ _ | refine Below.drew ?_ | refine below_setRow ?_ (by first | omega | (simp; done) | (simp; omega)) _)))
  unfold plV
  unfold plC at *
  go_enter Try.func102, Try.ntmps102
  go_wp2_with fail
  refine (hf.out _).mono ?_
  rintro e w' ⟨rfl, rfl⟩
  go_wp2_with fail
  refine (hg.out _).mono ?_
  rintro e w' ⟨rfl, rfl⟩
  go_wp2_with fail
  clear hP
  generalize w.alloc (.cells #[.int .i64 (W : Int), .int .i64 (H : Int), .slice (some ⟨b, 0, none⟩) (W * H) c] 135) = w1 at *
  go_loopw [13, 14, 15] (fun vs vm v wr => ∃ j : Nat, j ≤ fy + 1 ∧ vs = .int .i64 (rs (btR W H s X Y fx) j) ∧ vm = .int .i64 ((j * (fx + 1) : Nat) : Int) ∧ v = .int .i64 (j : Int) ∧ Ob wr w.heap.size 135 #[.int .i64 (W : Int), .int .i64 (H : Int), .slice (some ⟨b, 0, none⟩) (W * H) c] ∧ PB wr b (W * H) s ∧ Below w.heap.size w wr) (fun _ _ v _ => fy + 1 - (intOf v).toNat)
  case atStart => exact ⟨0, by omega, rfl, by simp, rfl, HO, HP, HW⟩
  case round =>
    clear HO HP HW
    obtain ⟨j, hj, rfl, rfl, rfl, HO, HP, HW⟩ := hrel
    obtain ⟨rb1, rb2⟩ := rs_bd hR.out (by omega) j (by omega)
    have hjm : j * (fx + 1) ≤ 4 := by
      calc j * (fx + 1) ≤ 2 * 2 := Nat.mul_le_mul (by omega) (by omega)
        _ = 4 := by decide
    generalize hS : rs (btR W H s X Y fx) j = S at *
    generalize hM : j * (fx + 1) = M at *
    by_cases hlt : j ≤ fy
    · have hd : decide ((j : Int) ≤ (fy : Int)) = true := by simp; omega
      replace hS := Lib.hid hS; replace hM := Lib.hid hM
      go_wp2_with fail
      clear hd
      go_loopw [13, 14, 16] (fun vs vm v wr => ∃ i : Nat, i ≤ fx + 1 ∧ vs = .int .i64 (S + rs (btN W H s X Y j) i) ∧ vm = .int .i64 ((M + i : Nat) : Int) ∧ v = .int .i64 (i : Int) ∧ Ob wr w.heap.size 135 #[.int .i64 (W : Int), .int .i64 (H : Int), .slice (some ⟨b, 0, none⟩) (W * H) c] ∧ PB wr b (W * H) s ∧ Below w.heap.size w wr) (fun _ _ v _ => fx + 1 - (intOf v).toNat)
      case atStart => exact ⟨0, by omega, by simp [rs], rfl, rfl, HO, HP, HW⟩
      case round =>
        clear HO HP HW
        obtain ⟨i, hi, rfl, rfl, rfl, HO, HP, HW⟩ := hrel
        obtain ⟨rb3, rb4⟩ := rs_bd (hN.out j) (by omega) i (by omega)
        by_cases hlt2 : i ≤ fx
        · have hd : decide ((i : Int) ≤ (fx : Int)) = true := by simp; omega
          obtain ⟨nb1, nb2⟩ := hN.out j i
          have hst : rs (btN W H s X Y j) (i + 1) = rs (btN W H s X Y j) i + btN W H s X Y j i := rfl
          generalize rs (btN W H s X Y j) i = T at *
          replace hst := Lib.hid hst
          go_wp2_with (refine wpList_load_ob HO rfl _ _ rfl rfl Try.underlying135 (by kernel_rfl) ?_)
          refine (refAt_any W H b c s (X + (i : Int)) (Y + (j : Int)) _ hW hH hW2 hH2 HP).mono ?_
          rintro e w2 ⟨rfl, hb⟩
          replace HO := HO.later hb; replace HP := HP.later hb; replace HW := below_step HW hb
          clear hb
          unfold btN at hst nb1 nb2
          obtain ⟨N, hNN⟩ : ∃ N, plAt W H s (X + (i : Int)) (Y + (j : Int)) = N := ⟨_, rfl⟩
          rw [hNN] at nb1 nb2 ⊢
          replace hNN := Lib.hid hNN
          go_wp2_with fail
          exact ⟨⟨i + 1, by omega, by unfold btN; rw [hst.out, hNN.out, Int.add_assoc], by go_num, by go_num, HO, HP, HW⟩, by simp [intOf]; omega⟩
        · obtain rfl : i = fx + 1 := by omega
          have hd : decide (((fx + 1 : Nat) : Int) ≤ (fx : Int)) = false := by simp; omega
          go_wp2_with fail
          exact ⟨⟨j + 1, by omega, by rw [← hS.out]; rfl, by rw [← hM.out, Nat.add_mul, Nat.one_mul], by go_num, HO, HP, HW⟩, by simp [intOf]; omega⟩
    · obtain rfl : j = fy + 1 := by omega
      have hd : decide (((fy + 1 : Nat) : Int) ≤ (fy : Int)) = false := by simp; omega
      rcases hfl.out with ⟨⟨rfl, rfl⟩, h⟩ | ⟨⟨rfl, rfl⟩ | ⟨rfl, rfl⟩, h⟩ | ⟨⟨rfl, rfl⟩, h⟩ <;> rw [hS] at h <;> cases d
      all_goals
        first | simp only [Bool.false_eq_true, if_true, if_false] at h | skip
        subst hM
        go_wp2_with fail
        go_ret
        exact ⟨ret_int (by omega), HW⟩
end Go.Proofs.Ytbldgpemocnboaa

/- interp's half, At, Span, walked. | interp.At and Plane.At of a plane of 16 times c, 16 times r samples; plain laws of interp.At. | The document's answer of layer 13 (floor, At), walked. | The document's answer of layer 13: Between, walked. | interp.Block; law 13's Ref and its bound; walked. -/
import Derived.Test.YtbldgpemocnboaaPl
import Derived.Test.YtbldgpemocnboaaRel
import Derived.Test.YtbldgpemocnboaaFr
namespace Go.Proofs.Ytbldgpemocnboaa
open Go.RowKit
attribute [local go_sem ↓] run_imax run_imin

theorem bits_and_mask (k : Nat) (hk : k ≤ 62) (n : Int) : bits .and .i64 n (2 ^ k - 1 : Int) = n % (2 ^ k : Int) := by
  have hp : (2 : Int) ^ k = ((2 ^ k : Nat) : Int) := by simp
  have h2 : 2 ^ k ≤ 2 ^ 62 := Nat.pow_le_pow_right (by omega) hk
  have h3 : 0 < 2 ^ k := Nat.two_pow_pos k
  have ha : (BitVec.ofInt IntKind.i64.bits n).toNat = (n % 18446744073709551616).toNat := by
    simp [IntKind.bits, BitVec.toNat_ofInt]
  have hb : (BitVec.ofInt IntKind.i64.bits (2 ^ k - 1 : Int)).toNat = 2 ^ k - 1 := by
    rw [hp, show ((2 ^ k : Nat) : Int) - 1 = ((2 ^ k - 1 : Nat) : Int) by omega]
    simp only [IntKind.bits, BitVec.toNat_ofInt]
    omega
  unfold bits
  simp only [BitVec.toNat_and, ha, hb, Nat.and_two_pow_sub_one_eq_mod]
  have h4 : (n % 18446744073709551616).toNat % 2 ^ k < 2 ^ k := Nat.mod_lt _ h3
  have e : (((n % 18446744073709551616).toNat % 2 ^ k : Nat) : Int) = n % (2 ^ k : Int) := by
    rw [Int.natCast_emod, Int.toNat_of_nonneg (Int.emod_nonneg _ (by omega)), ← hp]
    refine Int.emod_emod_of_dvd _ ?_
    rw [show (18446744073709551616 : Int) = ((2 ^ 64 : Nat) : Int) by decide, hp]
    exact Int.natCast_dvd_natCast.2 (Nat.pow_dvd_pow 2 (by omega))
  rw [i64_small _ (by omega), e]

set_option maxHeartbeats 400000 in
theorem half_any (n : Int) (w : World) :
    Calls Try.prog 125 #[.int .i64 n] w fun e w' => e = .returned (.tuple #[.int .i64 (n / 2), .int .i64 (n % 2)]) ∧ w = w' := by
  have hb : bits .and .i64 n 1 = n % 2 := bits_and_mask 1 (by omega) n
  go_enter Try.func125, Try.ntmps125
  go_wp2
  go_ret2
  exact ⟨rfl, rfl⟩

/-- A sample at so many halves. -/
def ipAt (W H : Nat) (s : Nat → Int) (x2 y2 : Int) (down : Bool) : Int :=
  if x2 % 2 = 0 ∧ y2 % 2 = 0 then plAt W H s (x2 / 2) (y2 / 2)
  else if y2 % 2 = 0 then (plAt W H s (x2 / 2) (y2 / 2) + plAt W H s (x2 / 2 + 1) (y2 / 2) + 1 - if down = true then 1 else 0) / 2
  else if x2 % 2 = 0 then (plAt W H s (x2 / 2) (y2 / 2) + plAt W H s (x2 / 2) (y2 / 2 + 1) + 1 - if down = true then 1 else 0) / 2
  else (plAt W H s (x2 / 2) (y2 / 2) + plAt W H s (x2 / 2 + 1) (y2 / 2) + plAt W H s (x2 / 2) (y2 / 2 + 1) + plAt W H s (x2 / 2 + 1) (y2 / 2 + 1) + 2 - if down = true then 1 else 0) / 4

theorem ipAt_bd {w : World} {W H b : Nat} {s : Nat → Int} (hP : PB w b (W * H) s) (x y : Int) (down : Bool) : 0 ≤ ipAt W H s x y down ∧ ipAt W H s x y down ≤ 255 := by
  have h1 := plAt_bd hP (x / 2) (y / 2)
  have h2 := plAt_bd hP (x / 2 + 1) (y / 2)
  have h3 := plAt_bd hP (x / 2) (y / 2 + 1)
  have h4 := plAt_bd hP (x / 2 + 1) (y / 2 + 1)
  unfold ipAt
  cases down <;> simp only [Bool.false_eq_true, if_true, if_false] <;> split <;> (try split) <;> (try split) <;> omega

set_option maxRecDepth 100000 in
set_option maxHeartbeats 2000000 in
theorem ipAt_any (W H b c : Nat) (s : Nat → Int) (x2 y2 : Int) (down : Bool) (w : World) (hW2 : W ≤ 1024) (hH2 : H ≤ 1024) (hP : PB w b (W * H) s)
    (hx : -9223372036854775808 ≤ x2) (hx2 : x2 ≤ 9223372036854775807) (hy : -9223372036854775808 ≤ y2) (hy2 : y2 ≤ 9223372036854775807) :
    Calls Try.prog 124 #[plV W H b (W * H) c, .int .i64 x2, .int .i64 y2, .bool down] w fun r w' => r = .returned (.int .i64 (ipAt W H s x2 y2 down)) ∧ Below w.heap.size w w' := by
  have h1 := plAt_bd hP (x2 / 2) (y2 / 2)
  have h2 := plAt_bd hP (x2 / 2 + 1) (y2 / 2)
  have h3 := plAt_bd hP (x2 / 2) (y2 / 2 + 1)
  have h4 := plAt_bd hP (x2 / 2 + 1) (y2 / 2 + 1)
  obtain ⟨a1, a2⟩ := h1; obtain ⟨a3, a4⟩ := h2; obtain ⟨a5, a6⟩ := h3; obtain ⟨a7, a8⟩ := h4
  have b1 : -4611686018427387904 ≤ x2 / 2 ∧ x2 / 2 ≤ 4611686018427387903 := by omega
  have b2 : -4611686018427387904 ≤ y2 / 2 ∧ y2 / 2 ≤ 4611686018427387903 := by omega
  obtain ⟨b1, b1'⟩ := b1; obtain ⟨b2, b2'⟩ := b2
  unfold plV
  by_cases e1 : x2 % 2 = 0
  · by_cases e2 : y2 % 2 = 0
    · unfold ipAt
      simp only [e1, e2, and_self, if_true]
      cases down
      · have HO : Ob (w.alloc (.cells (plC W H b (W * H) c) PLT)) w.heap.size PLT (plC W H b (W * H) c) := Ob.new_at _ _ rfl
        have HW : Below w.heap.size w (w.alloc (.cells (plC W H b (W * H) c) PLT)) := by ((repeat (first | exact Below.refl _ _ | assumption | refine Below.setCell ?_ (by first | omega | (simp; done) | (simp; omega)) _ | refine Below.alloc ?_ (by first | omega | (simp; done) | (simp; omega)) _ | refine below_drewN ?_ _ | refine Below.drew ?_ | refine below_setRow ?_ (by first | omega | (simp; done) | (simp; omega)) _)))
        have HP := hP.alloc (.cells (plC W H b (W * H) c) PLT)
        go_enter Try.func124, Try.ntmps124
        go_wp2_with (go_at_call 125; (with_reducible refine (half_any _ _).mono ?_); rintro e w' ⟨rfl, rfl⟩)
        refine (at_any W H b c s _ _ _ hW2 hH2 HP).mono ?_
        rintro e w1 ⟨rfl, hb⟩
        replace HO := HO.later hb; replace HP := HP.later hb; replace HW := below_step HW hb
        clear hb
        go_wp2_with (refine wpList_load_ob_g HO rfl _ _ rfl rfl Try.underlying41 (by kernel_rfl) ?_)
        go_ret
        exact ⟨ret_int (by first | rfl | omega), HW⟩
      · have HO : Ob (w.alloc (.cells (plC W H b (W * H) c) PLT)) w.heap.size PLT (plC W H b (W * H) c) := Ob.new_at _ _ rfl
        have HW : Below w.heap.size w (w.alloc (.cells (plC W H b (W * H) c) PLT)) := by ((repeat (first | exact Below.refl _ _ | assumption | refine Below.setCell ?_ (by first | omega | (simp; done) | (simp; omega)) _ | refine Below.alloc ?_ (by first | omega | (simp; done) | (simp; omega)) _ | refine below_drewN ?_ _ | refine Below.drew ?_ | refine below_setRow ?_ (by first | omega | (simp; done) | (simp; omega)) _)))
        have HP := hP.alloc (.cells (plC W H b (W * H) c) PLT)
        go_enter Try.func124, Try.ntmps124
        go_wp2_with (go_at_call 125; (with_reducible refine (half_any _ _).mono ?_); rintro e w' ⟨rfl, rfl⟩)
        refine (at_any W H b c s _ _ _ hW2 hH2 HP).mono ?_
        rintro e w1 ⟨rfl, hb⟩
        replace HO := HO.later hb; replace HP := HP.later hb; replace HW := below_step HW hb
        clear hb
        go_wp2_with (refine wpList_load_ob_g HO rfl _ _ rfl rfl Try.underlying41 (by kernel_rfl) ?_)
        go_ret
        exact ⟨ret_int (by first | rfl | omega), HW⟩
    · unfold ipAt
      simp only [e1, e2, and_false, if_true, if_false]
      cases down <;> simp only [Bool.false_eq_true, if_true, if_false]
      · have HO : Ob (w.alloc (.cells (plC W H b (W * H) c) PLT)) w.heap.size PLT (plC W H b (W * H) c) := Ob.new_at _ _ rfl
        have HW : Below w.heap.size w (w.alloc (.cells (plC W H b (W * H) c) PLT)) := by ((repeat (first | exact Below.refl _ _ | assumption | refine Below.setCell ?_ (by first | omega | (simp; done) | (simp; omega)) _ | refine Below.alloc ?_ (by first | omega | (simp; done) | (simp; omega)) _ | refine below_drewN ?_ _ | refine Below.drew ?_ | refine below_setRow ?_ (by first | omega | (simp; done) | (simp; omega)) _)))
        have HP := hP.alloc (.cells (plC W H b (W * H) c) PLT)
        go_enter Try.func124, Try.ntmps124
        go_wp2_with (go_at_call 125; (with_reducible refine (half_any _ _).mono ?_); rintro e w' ⟨rfl, rfl⟩)
        refine (at_any W H b c s _ _ _ hW2 hH2 HP).mono ?_
        rintro e w1 ⟨rfl, hb⟩
        replace HO := HO.later hb; replace HP := HP.later hb; replace HW := below_step HW hb
        clear hb
        go_wp2_with (refine wpList_load_ob_g HO rfl _ _ rfl rfl Try.underlying41 (by kernel_rfl) ?_)
        refine (at_any W H b c s _ _ _ hW2 hH2 HP).mono ?_
        rintro e w2 ⟨rfl, hb⟩
        replace HW := below_step HW hb
        clear hb
        go_wp2_with fail
        go_ret
        exact ⟨ret_int (by first | rfl | omega), HW⟩
      · have HO : Ob (w.alloc (.cells (plC W H b (W * H) c) PLT)) w.heap.size PLT (plC W H b (W * H) c) := Ob.new_at _ _ rfl
        have HW : Below w.heap.size w (w.alloc (.cells (plC W H b (W * H) c) PLT)) := by ((repeat (first | exact Below.refl _ _ | assumption | refine Below.setCell ?_ (by first | omega | (simp; done) | (simp; omega)) _ | refine Below.alloc ?_ (by first | omega | (simp; done) | (simp; omega)) _ | refine below_drewN ?_ _ | refine Below.drew ?_ | refine below_setRow ?_ (by first | omega | (simp; done) | (simp; omega)) _)))
        have HP := hP.alloc (.cells (plC W H b (W * H) c) PLT)
        go_enter Try.func124, Try.ntmps124
        go_wp2_with (go_at_call 125; (with_reducible refine (half_any _ _).mono ?_); rintro e w' ⟨rfl, rfl⟩)
        refine (at_any W H b c s _ _ _ hW2 hH2 HP).mono ?_
        rintro e w1 ⟨rfl, hb⟩
        replace HO := HO.later hb; replace HP := HP.later hb; replace HW := below_step HW hb
        clear hb
        go_wp2_with (refine wpList_load_ob_g HO rfl _ _ rfl rfl Try.underlying41 (by kernel_rfl) ?_)
        refine (at_any W H b c s _ _ _ hW2 hH2 HP).mono ?_
        rintro e w2 ⟨rfl, hb⟩
        replace HW := below_step HW hb
        clear hb
        go_wp2_with fail
        go_ret
        exact ⟨ret_int (by first | rfl | omega), HW⟩
  · by_cases e2 : y2 % 2 = 0
    · unfold ipAt
      simp only [e1, e2, false_and, if_true, if_false]
      cases down <;> simp only [Bool.false_eq_true, if_true, if_false]
      · have HO : Ob (w.alloc (.cells (plC W H b (W * H) c) PLT)) w.heap.size PLT (plC W H b (W * H) c) := Ob.new_at _ _ rfl
        have HW : Below w.heap.size w (w.alloc (.cells (plC W H b (W * H) c) PLT)) := by ((repeat (first | exact Below.refl _ _ | assumption | refine Below.setCell ?_ (by first | omega | (simp; done) | (simp; omega)) _ | refine Below.alloc ?_ (by first | omega | (simp; done) | (simp; omega)) _ | refine below_drewN ?_ _ | refine Below.drew ?_ | refine below_setRow ?_ (by first | omega | (simp; done) | (simp; omega)) _)))
        have HP := hP.alloc (.cells (plC W H b (W * H) c) PLT)
        go_enter Try.func124, Try.ntmps124
        go_wp2_with (go_at_call 125; (with_reducible refine (half_any _ _).mono ?_); rintro e w' ⟨rfl, rfl⟩)
        refine (at_any W H b c s _ _ _ hW2 hH2 HP).mono ?_
        rintro e w1 ⟨rfl, hb⟩
        replace HO := HO.later hb; replace HP := HP.later hb; replace HW := below_step HW hb
        clear hb
        go_wp2_with (refine wpList_load_ob_g HO rfl _ _ rfl rfl Try.underlying41 (by kernel_rfl) ?_)
        refine (at_any W H b c s _ _ _ hW2 hH2 HP).mono ?_
        rintro e w2 ⟨rfl, hb⟩
        replace HW := below_step HW hb
        clear hb
        go_wp2_with fail
        go_ret
        exact ⟨ret_int (by first | rfl | omega), HW⟩
      · have HO : Ob (w.alloc (.cells (plC W H b (W * H) c) PLT)) w.heap.size PLT (plC W H b (W * H) c) := Ob.new_at _ _ rfl
        have HW : Below w.heap.size w (w.alloc (.cells (plC W H b (W * H) c) PLT)) := by ((repeat (first | exact Below.refl _ _ | assumption | refine Below.setCell ?_ (by first | omega | (simp; done) | (simp; omega)) _ | refine Below.alloc ?_ (by first | omega | (simp; done) | (simp; omega)) _ | refine below_drewN ?_ _ | refine Below.drew ?_ | refine below_setRow ?_ (by first | omega | (simp; done) | (simp; omega)) _)))
        have HP := hP.alloc (.cells (plC W H b (W * H) c) PLT)
        go_enter Try.func124, Try.ntmps124
        go_wp2_with (go_at_call 125; (with_reducible refine (half_any _ _).mono ?_); rintro e w' ⟨rfl, rfl⟩)
        refine (at_any W H b c s _ _ _ hW2 hH2 HP).mono ?_
        rintro e w1 ⟨rfl, hb⟩
        replace HO := HO.later hb; replace HP := HP.later hb; replace HW := below_step HW hb
        clear hb
        go_wp2_with (refine wpList_load_ob_g HO rfl _ _ rfl rfl Try.underlying41 (by kernel_rfl) ?_)
        refine (at_any W H b c s _ _ _ hW2 hH2 HP).mono ?_
        rintro e w2 ⟨rfl, hb⟩
        replace HW := below_step HW hb
        clear hb
        go_wp2_with fail
        go_ret
        exact ⟨ret_int (by first | rfl | omega), HW⟩
    · unfold ipAt
      simp only [e1, e2, false_and, if_false]
      cases down <;> simp only [Bool.false_eq_true, if_true, if_false]
      · have HO : Ob (w.alloc (.cells (plC W H b (W * H) c) PLT)) w.heap.size PLT (plC W H b (W * H) c) := Ob.new_at _ _ rfl
        have HW : Below w.heap.size w (w.alloc (.cells (plC W H b (W * H) c) PLT)) := by ((repeat (first | exact Below.refl _ _ | assumption | refine Below.setCell ?_ (by first | omega | (simp; done) | (simp; omega)) _ | refine Below.alloc ?_ (by first | omega | (simp; done) | (simp; omega)) _ | refine below_drewN ?_ _ | refine Below.drew ?_ | refine below_setRow ?_ (by first | omega | (simp; done) | (simp; omega)) _)))
        have HP := hP.alloc (.cells (plC W H b (W * H) c) PLT)
        go_enter Try.func124, Try.ntmps124
        go_wp2_with (go_at_call 125; (with_reducible refine (half_any _ _).mono ?_); rintro e w' ⟨rfl, rfl⟩)
        refine (at_any W H b c s _ _ _ hW2 hH2 HP).mono ?_
        rintro e w1 ⟨rfl, hb⟩
        replace HO := HO.later hb; replace HP := HP.later hb; replace HW := below_step HW hb
        clear hb
        go_wp2_with (refine wpList_load_ob_g HO rfl _ _ rfl rfl Try.underlying41 (by kernel_rfl) ?_)
        have c0 := fun p => (HO.re p).plW
        have c1 := fun p => (HO.re p).plH
        have c2 := fun p => (HO.re p).plS
        refine wp_region_quiet_below (by kernel_rfl) (by kernel_rfl) ?_
        repeat (go_big_quiet_step ((go_at_call 35; exact Calls.regrown_of (at_any W H b c s _ _ _ hW2 hH2 (HP.later (below_regrown _ _ _))))))
        refine wpQuiet_nil ?_
        intro wq hwq
        replace hwq := Cls.below hwq
        go_wp2_with fail
        go_ret
        exact ⟨ret_int (by first | rfl | omega), below_step HW hwq⟩
      · have HO : Ob (w.alloc (.cells (plC W H b (W * H) c) PLT)) w.heap.size PLT (plC W H b (W * H) c) := Ob.new_at _ _ rfl
        have HW : Below w.heap.size w (w.alloc (.cells (plC W H b (W * H) c) PLT)) := by ((repeat (first | exact Below.refl _ _ | assumption | refine Below.setCell ?_ (by first | omega | (simp; done) | (simp; omega)) _ | refine Below.alloc ?_ (by first | omega | (simp; done) | (simp; omega)) _ | refine below_drewN ?_ _ | refine Below.drew ?_ | refine below_setRow ?_ (by first | omega | (simp; done) | (simp; omega)) _)))
        have HP := hP.alloc (.cells (plC W H b (W * H) c) PLT)
        go_enter Try.func124, Try.ntmps124
        go_wp2_with (go_at_call 125; (with_reducible refine (half_any _ _).mono ?_); rintro e w' ⟨rfl, rfl⟩)
        refine (at_any W H b c s _ _ _ hW2 hH2 HP).mono ?_
        rintro e w1 ⟨rfl, hb⟩
        replace HO := HO.later hb; replace HP := HP.later hb; replace HW := below_step HW hb
        clear hb
        go_wp2_with (refine wpList_load_ob_g HO rfl _ _ rfl rfl Try.underlying41 (by kernel_rfl) ?_)
        have c0 := fun p => (HO.re p).plW
        have c1 := fun p => (HO.re p).plH
        have c2 := fun p => (HO.re p).plS
        refine wp_region_quiet_below (by kernel_rfl) (by kernel_rfl) ?_
        repeat (go_big_quiet_step ((go_at_call 35; exact Calls.regrown_of (at_any W H b c s _ _ _ hW2 hH2 (HP.later (below_regrown _ _ _))))))
        refine wpQuiet_nil ?_
        intro wq hwq
        replace hwq := Cls.below hwq
        go_wp2_with fail
        go_ret
        exact ⟨ret_int (by first | rfl | omega), below_step HW hwq⟩

def spanLo (at_ d end_ : Int) : Int := imin (imax ((2 * at_ + d) / 2) 0) (imax (end_ - 1) 0)
def spanHi (at_ d end_ : Int) : Int := imin (imax ((2 * at_ + d) / 2 + 7 + d % 2) 0) (imax (end_ - 1) 0)

set_option maxHeartbeats 400000 in
theorem span_any (x d n : Int) (w : World) (h0 : -1099511627776 ≤ x) (h1 : x ≤ 1099511627776) (h2 : -1099511627776 ≤ d) (h3 : d ≤ 1099511627776) (h4 : -1099511627776 ≤ n) (h5 : n ≤ 1099511627776) :
    Calls Try.prog 113 #[.int .i64 x, .int .i64 d, .int .i64 n] w fun e w' => e = .returned (.tuple #[.int .i64 (spanLo x d n), .int .i64 (spanHi x d n)]) ∧ w = w' := by
  unfold spanLo spanHi
  go_enter Try.func113, Try.ntmps113
  go_wp2_with (go_at_call 125; (with_reducible refine (half_any _ _).mono ?_); rintro e w' ⟨rfl, rfl⟩)
  go_ret2
  exact ⟨rfl, rfl⟩

def s13 (k : Nat) : Int := if k = 0 then 10 else 13
end Go.Proofs.Ytbldgpemocnboaa

namespace Go.Proofs.Ytbldgpemocnboaa
open Go.RowKit

abbrev pl16 (c r b m : Nat) : Array Value := #[.int .i64 (16 * (c : Int)), .int .i64 (16 * (r : Int)), .slice (some ⟨b, 0, none⟩) (16 * c * (16 * r)) m]
abbrev pl8 (c r b m : Nat) : Array Value := #[.int .i64 (8 * (c : Int)), .int .i64 (8 * (r : Int)), .slice (some ⟨b, 0, none⟩) (8 * c * (8 * r)) m]
theorem at16_any (c r b m : Nat) (s : Nat → Int) (x y : Int) (w : World) (hc : c ≤ 8) (hr : r ≤ 8) (hP : PB w b (16 * c * (16 * r)) s) :
    Calls Try.prog 35 #[.agg (pl16 c r b m), .int .i64 x, .int .i64 y] w fun e w' => e = .returned (.int .u8 (plAt (16 * c) (16 * r) s x y)) ∧ Below w.heap.size w w' := by
  rw [pl16, ← plV_16]; exact at_any (16 * c) (16 * r) b m s x y w (by omega) (by omega) hP
theorem at8_any (c r b m : Nat) (s : Nat → Int) (x y : Int) (w : World) (hc : c ≤ 8) (hr : r ≤ 8) (hP : PB w b (8 * c * (8 * r)) s) :
    Calls Try.prog 35 #[.agg (pl8 c r b m), .int .i64 x, .int .i64 y] w fun e w' => e = .returned (.int .u8 (plAt (8 * c) (8 * r) s x y)) ∧ Below w.heap.size w w' := by
  rw [pl8, ← plV_8]; exact at_any (8 * c) (8 * r) b m s x y w (by omega) (by omega) hP
theorem ipAt16_any (c r b m : Nat) (s : Nat → Int) (x y : Int) (down : Bool) (w : World) (hc : c ≤ 8) (hr : r ≤ 8) (hP : PB w b (16 * c * (16 * r)) s)
    (hx : -9223372036854775808 ≤ x) (hx2 : x ≤ 9223372036854775807) (hy : -9223372036854775808 ≤ y) (hy2 : y ≤ 9223372036854775807) :
    Calls Try.prog 124 #[.agg (pl16 c r b m), .int .i64 x, .int .i64 y, .bool down] w fun e w' => e = .returned (.int .i64 (ipAt (16 * c) (16 * r) s x y down)) ∧ Below w.heap.size w w' := by
  rw [pl16, ← plV_16]; exact ipAt_any (16 * c) (16 * r) b m s x y down w (by omega) (by omega) hP hx hx2 hy hy2
theorem ipAt8_any (c r b m : Nat) (s : Nat → Int) (x y : Int) (down : Bool) (w : World) (hc : c ≤ 8) (hr : r ≤ 8) (hP : PB w b (8 * c * (8 * r)) s)
    (hx : -9223372036854775808 ≤ x) (hx2 : x ≤ 9223372036854775807) (hy : -9223372036854775808 ≤ y) (hy2 : y ≤ 9223372036854775807) :
    Calls Try.prog 124 #[.agg (pl8 c r b m), .int .i64 x, .int .i64 y, .bool down] w fun e w' => e = .returned (.int .i64 (ipAt (8 * c) (8 * r) s x y down)) ∧ Below w.heap.size w w' := by
  rw [pl8, ← plV_8]; exact ipAt_any (8 * c) (8 * r) b m s x y down w (by omega) (by omega) hP hx hx2 hy hy2

/-- The planes of a Frame that is a value. -/
theorem frame_fieldY (a0 a1 a2 a3 a4 a5 a6 a7 a8 a9 a10 : Value) (w : World) : (Instr.field FRT (.agg #[a0, a1, a2, a3, a4, a5, a6, a7, a8, a9, a10]) 2).run Try.prog w = .ok (.agg #[a2, a3, a4]) w := by kernel_rfl
theorem frame_fieldU (a0 a1 a2 a3 a4 a5 a6 a7 a8 a9 a10 : Value) (w : World) : (Instr.field FRT (.agg #[a0, a1, a2, a3, a4, a5, a6, a7, a8, a9, a10]) 3).run Try.prog w = .ok (.agg #[a5, a6, a7]) w := by kernel_rfl
theorem frame_fieldV (a0 a1 a2 a3 a4 a5 a6 a7 a8 a9 a10 : Value) (w : World) : (Instr.field FRT (.agg #[a0, a1, a2, a3, a4, a5, a6, a7, a8, a9, a10]) 4).run Try.prog w = .ok (.agg #[a8, a9, a10]) w := by kernel_rfl

theorem ipAt_flat {W H : Nat} (hW : 0 < W) (hH : 0 < H) (v x y : Int) (d : Bool) : ipAt W H (fun _ => v) x y d = v := by
  unfold ipAt
  simp only [plAt_flat hW hH]
  cases d <;> simp only [Bool.false_eq_true, if_true, if_false] <;> split <;> (try split) <;> (try split) <;> omega
/-- Down is at most one less than up. -/
theorem ipAt_near (W H : Nat) (s : Nat → Int) (x y : Int) : ipAt W H s x y true ≤ ipAt W H s x y false ∧ ipAt W H s x y false ≤ ipAt W H s x y true + 1 := by
  unfold ipAt
  simp only [Bool.false_eq_true, if_true, if_false]
  split <;> (try split) <;> (try split) <;> omega
theorem ipAt_lo (W H : Nat) (s : Nat → Int) (x y lo : Int) (h1 : lo ≤ plAt W H s (x / 2) (y / 2)) (h2 : lo ≤ plAt W H s (x / 2 + 1) (y / 2)) (h3 : lo ≤ plAt W H s (x / 2) (y / 2 + 1)) (h4 : lo ≤ plAt W H s (x / 2 + 1) (y / 2 + 1)) : lo ≤ ipAt W H s x y true := by
  unfold ipAt
  simp only [if_true]
  split <;> (try split) <;> (try split) <;> omega
theorem ipAt_hi (W H : Nat) (s : Nat → Int) (x y hi : Int) (h1 : plAt W H s (x / 2) (y / 2) ≤ hi) (h2 : plAt W H s (x / 2 + 1) (y / 2) ≤ hi) (h3 : plAt W H s (x / 2) (y / 2 + 1) ≤ hi) (h4 : plAt W H s (x / 2 + 1) (y / 2 + 1) ≤ hi) : ipAt W H s x y false ≤ hi := by
  unfold ipAt
  simp only [Bool.false_eq_true, if_false]
  split <;> (try split) <;> (try split) <;> omega
end Go.Proofs.Ytbldgpemocnboaa

namespace Go.Proofs.Ytbldgpemocnboaa
open Go.RowKit Go.Sort
attribute [local go_sem ↓] run_imax run_imin

theorem floor_any (n : Int) (w : World) (h : -9223372036854775808 ≤ n) (h2 : n ≤ 9223372036854775807) :
    Calls Try.prog 111 #[.int .i64 n] w fun e w' => e = .returned (.tuple #[.int .i64 (n / 2), .int .i64 (n % 2)]) ∧ w = w' := by
  have e1 : n.tmod 2 = n % 2 ∨ n.tmod 2 = -1 ∧ n % 2 = 1 := by rw [Int.tmod_eq_emod]; split <;> omega
  rcases e1 with e1 | ⟨e1, e2⟩
  · have d1 : decide (n % 2 < 0) = false := by simp; omega
    have e3 : (n - n % 2).tdiv 2 = n / 2 := by rw [Int.tdiv_eq_ediv_of_dvd (by omega)]; omega
    go_enter Try.func111, Try.ntmps111
    go_wp2
    go_ret2
    exact ⟨rfl, rfl⟩
  · have e3 : (n - 1).tdiv 2 = n / 2 := by rw [Int.tdiv_eq_ediv_of_dvd (by omega)]; omega
    have b1 : -9223372036854775807 ≤ n := by omega
    rw [e2]
    clear e2
    go_enter Try.func111, Try.ntmps111
    go_wp2
    go_ret2
    exact ⟨rfl, rfl⟩

set_option maxHeartbeats 2000000 in
theorem refAt_any (W H b c : Nat) (s : Nat → Int) (x y : Int) (w : World) (hW : 0 < W) (hH : 0 < H) (hW2 : W ≤ 1024) (hH2 : H ≤ 1024) (hP : PB w b (W * H) s) :
    Calls Try.prog 123 #[plV W H b (W * H) c, .int .i64 x, .int .i64 y] w fun r w' => r = .returned (.int .i64 (plAt W H s x y)) ∧ Below w.heap.size w w' := by
  have hi := idx_lt x y hW hH
  have hsz := size_le hW2 hH2
  have hx := cl_lt x hW
  have hy := cl_lt y hH
  have hc := hP.cell hi
  have hr : plAt W H s x y = s (cl y H * W + cl x W) := by unfold plAt; rw [if_neg (by omega)]
  rw [hr]
  clear hr
  obtain ⟨hv1, hv2⟩ := hP.bd hi
  have hm : cl y H * W ≤ 1048576 := by omega
  have d3 : decide ((W : Int) * (H : Int) ≤ (cl y H : Int) * (W : Int) + (cl x W : Int)) = false := by
    have : (((cl y H * W + cl x W : Nat)) : Int) < ((W * H : Nat) : Int) := by omega
    simpa using this
  obtain ⟨mx, hmx⟩ : ∃ mx : Nat, (W : Int) - 1 = (mx : Int) := ⟨W - 1, by omega⟩
  obtain ⟨my, hmy⟩ : ∃ my : Nat, (H : Int) - 1 = (my : Int) := ⟨H - 1, by omega⟩
  have hlt := hP.lt
  have kx : (cl x W = 0 ∧ x < 0) ∨ (x = (cl x W : Int) ∧ (cl x W : Int) ≤ mx) ∨ (cl x W = mx ∧ (mx : Int) < x) := by unfold cl; omega
  have ky : (cl y H = 0 ∧ y < 0) ∨ (y = (cl y H : Int) ∧ (cl y H : Int) ≤ my) ∨ (cl y H = my ∧ (my : Int) < y) := by unfold cl; omega
  generalize cl x W = cx at *
  generalize cl y H = cy at *
  unfold plV
  rcases kx with ⟨rfl, kx⟩ | ⟨rfl, kx⟩ | ⟨rfl, kx⟩ <;> rcases ky with ⟨rfl, ky⟩ | ⟨rfl, ky⟩ | ⟨rfl, ky⟩
  all_goals
    try simp only [Nat.zero_mul, Nat.zero_add, Nat.add_zero, Int.natCast_zero, Int.zero_mul, Int.zero_add, Int.add_zero] at hc d3 hv1 hv2 ⊢
    first | (have dx1 : decide (x < 0) = true := by simp; omega) | (have dx1 : decide (x < 0) = false := by simp; omega) | skip
    first | (have dx2 : decide ((mx : Int) < x) = true := by simp; omega) | (have dx2 : decide ((mx : Int) < (cx : Int)) = false := by simp; omega) | skip
    first | (have dy1 : decide (y < 0) = true := by simp; omega) | (have dy1 : decide (y < 0) = false := by simp; omega) | skip
    first | (have dy2 : decide ((my : Int) < y) = true := by simp; omega) | (have dy2 : decide ((my : Int) < (cy : Int)) = false := by simp; omega) | skip
    go_enter Try.func123, Try.ntmps123
    go_wp2_with fail
    go_ret
    exact ⟨rfl, by ((repeat (first | exact Below.refl _ _ | assumption | refine Below.setCell ?_ (by first | omega | (simp; done) | (simp; omega)) _ | refine Below.alloc ?_ (by first | omega | (simp; done) | (simp; omega)) _ | refine below_drewN ?_ _ | refine Below.drew ?_ | refine below_setRow ?_ (by first | omega | (simp; done) | (simp; omega)) _)))⟩
end Go.Proofs.Ytbldgpemocnboaa

namespace Go.Proofs.Ytbldgpemocnboaa
open Go.RowKit Go.Sort
attribute [local go_sem ↓] run_imax run_imin

/-- The sum of the first n. -/
def rs (f : Nat → Int) : Nat → Int
  | 0 => 0
  | n + 1 => rs f n + f n
theorem rs_bd {f : Nat → Int} {m : Int} (h : ∀ k, 0 ≤ f k ∧ f k ≤ m) (hm : 0 ≤ m) : ∀ n, n ≤ 2 → 0 ≤ rs f n ∧ rs f n ≤ 2 * m
  | 0, _ => by simp only [rs]; omega
  | 1, _ => by have := h 0; simp only [rs]; omega
  | 2, _ => by have := h 0; have := h 1; simp only [rs]; omega
/-- The samples around a place. -/
def btN (W H : Nat) (s : Nat → Int) (X Y : Int) (j i : Nat) : Int := plAt W H s (X + (i : Int)) (Y + (j : Int))
def btR (W H : Nat) (s : Nat → Int) (X Y : Int) (fx j : Nat) : Int := rs (btN W H s X Y j) (fx + 1)
theorem bt_flat (W H : Nat) (s : Nat → Int) (x y : Int) (fx fy : Nat) (hx : x % 2 = (fx : Int)) (hy : y % 2 = (fy : Int)) (d : Bool) :
    ((fx = 0 ∧ fy = 0) ∧ ipAt W H s x y d = rs (btR W H s (x / 2) (y / 2) fx) (fy + 1)) ∨
    ((fx = 1 ∧ fy = 0 ∨ fx = 0 ∧ fy = 1) ∧ ipAt W H s x y d = (rs (btR W H s (x / 2) (y / 2) fx) (fy + 1) + 1 - if d = true then 1 else 0) / 2) ∨
    ((fx = 1 ∧ fy = 1) ∧ ipAt W H s x y d = (rs (btR W H s (x / 2) (y / 2) fx) (fy + 1) + 2 - if d = true then 1 else 0) / 4) := by
  have hx1 : fx = 0 ∨ fx = 1 := by omega
  have hy1 : fy = 0 ∨ fy = 1 := by omega
  unfold ipAt btR btN
  rcases hx1 with rfl | rfl <;> rcases hy1 with rfl | rfl
  · rw [if_pos ⟨hx, hy⟩]; simp [rs]
  · rw [if_neg (by omega), if_neg (by omega), if_pos (show x % 2 = 0 from hx)]; simp [rs]
  · rw [if_neg (by omega), if_pos (show y % 2 = 0 from hy)]; simp [rs]
  · rw [if_neg (by omega), if_neg (by omega), if_neg (by omega)]; simp [rs]; congr 2; omega

set_option maxHeartbeats 4000000 in
theorem between_any (W H b c : Nat) (s : Nat → Int) (x y : Int) (d : Bool) (w : World) (hW : 0 < W) (hH : 0 < H) (hW2 : W ≤ 1024) (hH2 : H ≤ 1024) (hP : PB w b (W * H) s)
    (hx : -9223372036854775808 ≤ x) (hx2 : x ≤ 9223372036854775807) (hy : -9223372036854775808 ≤ y) (hy2 : y ≤ 9223372036854775807) :
    Calls Try.prog 102 #[plV W H b (W * H) c, .int .i64 x, .int .i64 y, .bool d] w fun r w' => r = .returned (.int .i64 (ipAt W H s x y d)) ∧ Below w.heap.size w w' := by
  obtain ⟨fx, hfx⟩ : ∃ fx : Nat, x % 2 = (fx : Int) := ⟨(x % 2).toNat, by omega⟩
  obtain ⟨fy, hfy⟩ : ∃ fy : Nat, y % 2 = (fy : Int) := ⟨(y % 2).toNat, by omega⟩
  have hfl := Lib.hid (bt_flat W H s x y fx fy hfx hfy d)
  have hN : ∀ j i, 0 ≤ btN W H s (x / 2) (y / 2) j i ∧ btN W H s (x / 2) (y / 2) j i ≤ 255 := fun j i => plAt_bd hP _ _
  have hfx1 : fx ≤ 1 := by omega
  have hfy1 : fy ≤ 1 := by omega
  have hR : ∀ j, 0 ≤ btR W H s (x / 2) (y / 2) fx j ∧ btR W H s (x / 2) (y / 2) fx j ≤ 510 := fun j => by
    have := rs_bd (hN j) (by omega) (fx + 1) (by omega); unfold btR; omega
  generalize hrr : ipAt W H s x y d = res at *
  have bx : -4611686018427387904 ≤ x / 2 ∧ x / 2 ≤ 4611686018427387903 := by omega
  have by_ : -4611686018427387904 ≤ y / 2 ∧ y / 2 ≤ 4611686018427387903 := by omega
  have hf := fun w => floor_any x w hx hx2
  have hg := fun w => floor_any y w hy hy2
  rw [hfx] at hf; rw [hfy] at hg
  obtain ⟨X, hX⟩ : ∃ X, x / 2 = X := ⟨_, rfl⟩
  obtain ⟨Y, hY⟩ : ∃ Y, y / 2 = Y := ⟨_, rfl⟩
  rw [hX] at hfl hN hR bx hf; rw [hY] at hfl hN hR by_ hg
  obtain ⟨bx1, bx2⟩ := bx; obtain ⟨by1, by2⟩ := by_
  replace hf := Lib.hid hf; replace hg := Lib.hid hg; replace hN := Lib.hid hN; replace hR := Lib.hid hR
  clear hX hY hfx hfy hrr
  have HO : Ob (w.alloc (.cells (plC W H b (W * H) c) 135)) w.heap.size 135 (plC W H b (W * H) c) := Ob.new_at _ _ rfl
  have HP := hP.alloc (.cells (plC W H b (W * H) c) 135)
  have HW : Below w.heap.size w (w.alloc (.cells (plC W H b (W * H) c) 135)) := by ((repeat (first | exact Below.refl _ _ | assumption | refine Below.setCell ?_ (by first | omega | (simp; done) | (simp; omega)) _ | refine Below.alloc ?_ (by first | omega | (simp; done) | (simp; omega)) _ | refine below_drewN ?_ _ | refine Below.drew ?_ | refine below_setRow ?_ (by first | omega | (simp; done) | (simp; omega)) _)))
  unfold plV
  unfold plC at *
  go_enter Try.func102, Try.ntmps102
  go_wp2_with fail
  refine (hf.out _).mono ?_
  rintro e w' ⟨rfl, rfl⟩
  go_wp2_with fail
  refine (hg.out _).mono ?_
  rintro e w' ⟨rfl, rfl⟩
  go_wp2_with fail
  clear hP
  generalize w.alloc (.cells #[.int .i64 (W : Int), .int .i64 (H : Int), .slice (some ⟨b, 0, none⟩) (W * H) c] 135) = w1 at *
  go_loopw [13, 14, 15] (fun vs vm v wr => ∃ j : Nat, j ≤ fy + 1 ∧ vs = .int .i64 (rs (btR W H s X Y fx) j) ∧ vm = .int .i64 ((j * (fx + 1) : Nat) : Int) ∧ v = .int .i64 (j : Int) ∧ Ob wr w.heap.size 135 #[.int .i64 (W : Int), .int .i64 (H : Int), .slice (some ⟨b, 0, none⟩) (W * H) c] ∧ PB wr b (W * H) s ∧ Below w.heap.size w wr) (fun _ _ v _ => fy + 1 - (intOf v).toNat)
  case atStart => exact ⟨0, by omega, rfl, by simp, rfl, HO, HP, HW⟩
  case round =>
    clear HO HP HW
    obtain ⟨j, hj, rfl, rfl, rfl, HO, HP, HW⟩ := hrel
    obtain ⟨rb1, rb2⟩ := rs_bd hR.out (by omega) j (by omega)
    have hjm : j * (fx + 1) ≤ 4 := by
      calc j * (fx + 1) ≤ 2 * 2 := Nat.mul_le_mul (by omega) (by omega)
        _ = 4 := by decide
    generalize hS : rs (btR W H s X Y fx) j = S at *
    generalize hM : j * (fx + 1) = M at *
    by_cases hlt : j ≤ fy
    · have hd : decide ((j : Int) ≤ (fy : Int)) = true := by simp; omega
      replace hS := Lib.hid hS; replace hM := Lib.hid hM
      go_wp2_with fail
      clear hd
      go_loopw [13, 14, 16] (fun vs vm v wr => ∃ i : Nat, i ≤ fx + 1 ∧ vs = .int .i64 (S + rs (btN W H s X Y j) i) ∧ vm = .int .i64 ((M + i : Nat) : Int) ∧ v = .int .i64 (i : Int) ∧ Ob wr w.heap.size 135 #[.int .i64 (W : Int), .int .i64 (H : Int), .slice (some ⟨b, 0, none⟩) (W * H) c] ∧ PB wr b (W * H) s ∧ Below w.heap.size w wr) (fun _ _ v _ => fx + 1 - (intOf v).toNat)
      case atStart => exact ⟨0, by omega, by simp [rs], rfl, rfl, HO, HP, HW⟩
      case round =>
        clear HO HP HW
        obtain ⟨i, hi, rfl, rfl, rfl, HO, HP, HW⟩ := hrel
        obtain ⟨rb3, rb4⟩ := rs_bd (hN.out j) (by omega) i (by omega)
        by_cases hlt2 : i ≤ fx
        · have hd : decide ((i : Int) ≤ (fx : Int)) = true := by simp; omega
          obtain ⟨nb1, nb2⟩ := hN.out j i
          have hst : rs (btN W H s X Y j) (i + 1) = rs (btN W H s X Y j) i + btN W H s X Y j i := rfl
          generalize rs (btN W H s X Y j) i = T at *
          replace hst := Lib.hid hst
          go_wp2_with (refine wpList_load_ob HO rfl _ _ rfl rfl Try.underlying135 (by kernel_rfl) ?_)
          refine (refAt_any W H b c s (X + (i : Int)) (Y + (j : Int)) _ hW hH hW2 hH2 HP).mono ?_
          rintro e w2 ⟨rfl, hb⟩
          replace HO := HO.later hb; replace HP := HP.later hb; replace HW := below_step HW hb
          clear hb
          unfold btN at hst nb1 nb2
          obtain ⟨N, hNN⟩ : ∃ N, plAt W H s (X + (i : Int)) (Y + (j : Int)) = N := ⟨_, rfl⟩
          rw [hNN] at nb1 nb2 ⊢
          replace hNN := Lib.hid hNN
          go_wp2_with fail
          exact ⟨⟨i + 1, by omega, by unfold btN; rw [hst.out, hNN.out, Int.add_assoc], by go_num, by go_num, HO, HP, HW⟩, by simp [intOf]; omega⟩
        · obtain rfl : i = fx + 1 := by omega
          have hd : decide (((fx + 1 : Nat) : Int) ≤ (fx : Int)) = false := by simp; omega
          go_wp2_with fail
          exact ⟨⟨j + 1, by omega, by rw [← hS.out]; rfl, by rw [← hM.out, Nat.add_mul, Nat.one_mul], by go_num, HO, HP, HW⟩, by simp [intOf]; omega⟩
    · obtain rfl : j = fy + 1 := by omega
      have hd : decide (((fy + 1 : Nat) : Int) ≤ (fy : Int)) = false := by simp; omega
      rcases hfl.out with ⟨⟨rfl, rfl⟩, h⟩ | ⟨⟨rfl, rfl⟩ | ⟨rfl, rfl⟩, h⟩ | ⟨⟨rfl, rfl⟩, h⟩ <;> rw [hS] at h <;> cases d
      all_goals
        first | simp only [Bool.false_eq_true, if_true, if_false] at h | skip
        subst hM
        go_wp2_with fail
        go_ret
        exact ⟨ret_int (by omega), HW⟩
end Go.Proofs.Ytbldgpemocnboaa

namespace Go.Proofs.Ytbldgpemocnboaa
open Go.RowKit Go.Sort
attribute [local go_sem ↓] run_imax run_imin

theorem tmodB (n d : Int) (hd : 0 < d) : -d < n.tmod d ∧ n.tmod d < d := by
  have h1 := Int.tmod_lt_of_pos n hd
  have h2 := Int.tmod_lt_of_pos (-n) hd
  rw [Int.neg_tmod] at h2
  omega
def ipBlockF (W H : Nat) (s : Nat → Int) (x y dx dy : Int) (d : Bool) (i : Nat) : Int := ipAt W H s (2 * (x + (i % 8 : Nat)) + dx) (2 * (y + (i / 8 : Nat)) + dy) d

set_option maxHeartbeats 1000000 in
theorem ipBlock_any (W H b c : Nat) (s : Nat → Int) (x y dx dy : Int) (d : Bool) (w : World) (hW2 : W ≤ 1024) (hH2 : H ≤ 1024) (hP : PB w b (W * H) s)
    (hx : -2199023255552 ≤ x) (hx2 : x ≤ 2199023255552) (hy : -2199023255552 ≤ y) (hy2 : y ≤ 2199023255552)
    (hdx : -2199023255552 ≤ dx) (hdx2 : dx ≤ 2199023255552) (hdy : -2199023255552 ≤ dy) (hdy2 : dy ≤ 2199023255552) :
    Calls Try.prog 108 #[plV W H b (W * H) c, .int .i64 x, .int .i64 y, .int .i64 dx, .int .i64 dy, .bool d] w fun r w' => r = .returned (.agg (fcells 64 (ival (ipBlockF W H s x y dx dy d)))) ∧ Below w.heap.size w w' := by
  unfold plV
  go_enter Try.func108, Try.ntmps108
  go_wp2_with (refine wpList_alloc_blk rfl 27 rfl _ _ alloc28 ?_)
  generalize hw2 : ((w.alloc (.cells #[.int .i64 (W : Int), .int .i64 (H : Int), .slice (some ⟨b, 0, none⟩) (W * H) c] 41)).alloc (.cells (fcells 64 (ival fun _ => 0)) 27)).alloc (.cells (fcells 64 (ival fun _ => 0)) 27) = w2
  have HO : Ob w2 w.heap.size 41 #[.int .i64 (W : Int), .int .i64 (H : Int), .slice (some ⟨b, 0, none⟩) (W * H) c] := by rw [← hw2]; exact ((Ob.new_at _ _ rfl).alloc _).alloc _
  have HR : Blk w2 (w.heap.size + 1) 27 64 (ival fun _ => 0) := by rw [← hw2]; exact (Blk.new_at _ _ _ (by simp)).alloc _
  have HZ : Blk w2 (w.heap.size + 1 + 1) 27 64 (ival fun _ => 0) := by rw [← hw2]; exact Blk.new_at _ _ _ (by simp)
  have HW : Below w.heap.size w w2 := by rw [← hw2]; exact (((Below.refl _ _).alloc (Nat.le_refl _) _).alloc (by simp) _).alloc (by simp; omega) _
  have HP : PB w2 b (W * H) s := hP.later HW
  have hlt := hP.lt
  clear hw2 hP
  go_loopw [15] (fun i wr => ∃ k : Nat, k ≤ 64 ∧ i = .int .i64 k ∧ Ob wr w.heap.size 41 #[.int .i64 (W : Int), .int .i64 (H : Int), .slice (some ⟨b, 0, none⟩) (W * H) c] ∧ Blk wr (w.heap.size + 1) 27 64 (ival fun _ => 0) ∧
      Blk wr (w.heap.size + 1 + 1) 27 64 (fillV k (ival (ipBlockF W H s x y dx dy d)) (ival fun _ => 0)) ∧ PB wr b (W * H) s ∧ Below w.heap.size w wr) (fun i _ => 64 - (intOf i).toNat)
  case atStart => exact ⟨0, by omega, rfl, HO, HR, HZ.fill_none, HP, HW⟩
  case round =>
    clear HO HR HZ HP HW
    obtain ⟨k, hk, rfl, HO, HR, HZ, HP, HW⟩ := hrel
    by_cases hk8 : k < 64
    · have hd : decide ((k : Int) < 64) = true := by simp; omega
      have i1 : (0 : Int) ≤ k := by omega
      have i2 : (k : Int) < 64 := by omega
      have hbd := ipAt_bd HP (2 * (x + (k : Int) % 8) + dx) (2 * (y + (k : Int) / 8) + dy) d
      obtain ⟨hbd1, hbd2⟩ := hbd
      go_wp2_with (refine wpList_load_ob HO rfl _ _ rfl rfl Try.underlying41 (by kernel_rfl) ?_)
      refine (ipAt_any W H b c s _ _ d _ hW2 hH2 HP (by omega) (by omega) (by omega) (by omega)).mono ?_
      rintro e w3 ⟨rfl, hb⟩
      replace HO := HO.later hb; replace HR := HR.later hb; replace HZ := HZ.later hb; replace HP := HP.later hb; replace HW := below_step HW hb
      clear hb
      have c1 := HZ.fill_cell hk8
      have f1 := HZ.free k
      go_wp2_with fail
      exact ⟨⟨k + 1, by omega, by go_num, HO.other (by omega) _ _, HR.other (by omega) _ _, HZ.fill, HP.other (by omega) _ _, HW.setCell (by simp; omega) _⟩, by simp [intOf]; omega⟩
    · obtain rfl : k = 64 := by omega
      go_wp2_with (first | (refine wpList_load_blk HZ.fill_all rfl _ _ rfl rfl und28 (by kernel_rfl) ?_) | (refine wpList_store_blk HR rfl _ _ _ rfl rfl rfl (by kernel_rfl) (fun j _ => rfl) ?_))
      exact bodyPost_ret (results_blk rfl _ (HR.setRow_same rfl) rfl und28 (by kernel_rfl)) rfl ⟨rfl, below_setRow HW (by omega) _⟩

theorem ref_any (W H b n c : Nat) (w : World) :
    Calls Try.prog 84 #[plV W H b n c] w fun e w' => e = .returned (plV W H b n c) ∧ Below w.heap.size w w' := by
  unfold plV
  go_enter Try.func84, Try.ntmps84
  go_wp2_with fail
  exact bodyPost_ret (results_ob rfl _ (Ob.new_at _ _ (by simp)) rfl Try.underlying135 (by kernel_rfl)) rfl ⟨rfl, by ((repeat (first | exact Below.refl _ _ | assumption | refine Below.setCell ?_ (by first | omega | (simp; done) | (simp; omega)) _ | refine Below.alloc ?_ (by first | omega | (simp; done) | (simp; omega)) _ | refine below_drewN ?_ _ | refine Below.drew ?_ | refine below_setRow ?_ (by first | omega | (simp; done) | (simp; omega)) _)))⟩
end Go.Proofs.Ytbldgpemocnboaa

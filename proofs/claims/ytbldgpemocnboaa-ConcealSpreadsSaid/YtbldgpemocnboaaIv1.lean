/- interp's half, At, Span, walked. -/
import Derived.Test.YtbldgpemocnboaaPl3
import Derived.Test.YtbldgpemocnboaaDet
namespace Go.Proofs.Ytbldgpemocnboaa
open Go.RowKit
attribute [local go_sem ↓] run_imax run_imin

theorem bits_and_mask (k : Nat) (hk : k ≤ 62) (n : Int) : bits .and .i64 n (2 ^ k - 1 : Int) = n % (2 ^ k : Int) := by
  have hp : (2 : Int) ^ k = ((2 ^ k : Nat) : Int) := by simp
  have h2 : 2 ^ k ≤ 2 ^ 62 := Nat.pow_le_pow_right (by omega) hk
  have h3 : 0 < 2 ^ k := Nat.two_pow_pos k
  have ha : (BitVec.ofInt IntKind.i64.bits n).toNat = (n % 18446744073709551616).toNat := by
    simp [IntKind.bits, BitVec.toNat_ofInt]
  have hb : (BitVec.ofInt IntKind.i64.bits (2 ^ k - 1 : Int)).toNat = 2 ^ k - 1 := by
    rw [hp, show ((2 ^ k : Nat) : Int) - 1 = ((2 ^ k - 1 : Nat) : Int) by omega]
    simp only [IntKind.bits, BitVec.toNat_ofInt]
    omega
  unfold bits
  simp only [BitVec.toNat_and, ha, hb, Nat.and_two_pow_sub_one_eq_mod]
  have h4 : (n % 18446744073709551616).toNat % 2 ^ k < 2 ^ k := Nat.mod_lt _ h3
  have e : (((n % 18446744073709551616).toNat % 2 ^ k : Nat) : Int) = n % (2 ^ k : Int) := by
    rw [Int.natCast_emod, Int.toNat_of_nonneg (Int.emod_nonneg _ (by omega)), ← hp]
    refine Int.emod_emod_of_dvd _ ?_
    rw [show (18446744073709551616 : Int) = ((2 ^ 64 : Nat) : Int) by decide, hp]
    exact Int.natCast_dvd_natCast.2 (Nat.pow_dvd_pow 2 (by omega))
  rw [i64_small _ (by omega), e]

set_option maxHeartbeats 400000 in
theorem half_any (n : Int) (w : World) :
    Calls Try.prog 125 #[.int .i64 n] w fun e w' => e = .returned (.tuple #[.int .i64 (n / 2), .int .i64 (n % 2)]) ∧ w = w' := by
  have hb : bits .and .i64 n 1 = n % 2 := bits_and_mask 1 (by omega) n
  go_enter Try.func125, Try.ntmps125
  go_wp2
  go_ret2
  exact ⟨rfl, rfl⟩

/-- A sample at so many halves. -/
def ipAt (W H : Nat) (s : Nat → Int) (x2 y2 : Int) (down : Bool) : Int :=
  if x2 % 2 = 0 ∧ y2 % 2 = 0 then plAt W H s (x2 / 2) (y2 / 2)
  else if y2 % 2 = 0 then (plAt W H s (x2 / 2) (y2 / 2) + plAt W H s (x2 / 2 + 1) (y2 / 2) + 1 - if down = true then 1 else 0) / 2
  else if x2 % 2 = 0 then (plAt W H s (x2 / 2) (y2 / 2) + plAt W H s (x2 / 2) (y2 / 2 + 1) + 1 - if down = true then 1 else 0) / 2
  else (plAt W H s (x2 / 2) (y2 / 2) + plAt W H s (x2 / 2 + 1) (y2 / 2) + plAt W H s (x2 / 2) (y2 / 2 + 1) + plAt W H s (x2 / 2 + 1) (y2 / 2 + 1) + 2 - if down = true then 1 else 0) / 4

theorem ipAt_bd {w : World} {W H b : Nat} {s : Nat → Int} (hP : PB w b (W * H) s) (x y : Int) (down : Bool) : 0 ≤ ipAt W H s x y down ∧ ipAt W H s x y down ≤ 255 := by
  have h1 := plAt_bd hP (x / 2) (y / 2)
  have h2 := plAt_bd hP (x / 2 + 1) (y / 2)
  have h3 := plAt_bd hP (x / 2) (y / 2 + 1)
  have h4 := plAt_bd hP (x / 2 + 1) (y / 2 + 1)
  unfold ipAt
  cases down <;> simp only [Bool.false_eq_true, if_true, if_false] <;> split <;> (try split) <;> (try split) <;> omega

set_option maxRecDepth 100000 in
set_option maxHeartbeats 2000000 in
theorem ipAt_any (W H b c : Nat) (s : Nat → Int) (x2 y2 : Int) (down : Bool) (w : World) (hW2 : W ≤ 1024) (hH2 : H ≤ 1024) (hP : PB w b (W * H) s)
    (hx : -9223372036854775808 ≤ x2) (hx2 : x2 ≤ 9223372036854775807) (hy : -9223372036854775808 ≤ y2) (hy2 : y2 ≤ 9223372036854775807) :
    Calls Try.prog 124 #[plV W H b (W * H) c, .int .i64 x2, .int .i64 y2, .bool down] w fun r w' => r = .returned (.int .i64 (ipAt W H s x2 y2 down)) ∧ Below w.heap.size w w' := by
  have h1 := plAt_bd hP (x2 / 2) (y2 / 2)
  have h2 := plAt_bd hP (x2 / 2 + 1) (y2 / 2)
  have h3 := plAt_bd hP (x2 / 2) (y2 / 2 + 1)
  have h4 := plAt_bd hP (x2 / 2 + 1) (y2 / 2 + 1)
  obtain ⟨a1, a2⟩ := h1; obtain ⟨a3, a4⟩ := h2; obtain ⟨a5, a6⟩ := h3; obtain ⟨a7, a8⟩ := h4
  have b1 : -4611686018427387904 ≤ x2 / 2 ∧ x2 / 2 ≤ 4611686018427387903 := by omega
  have b2 : -4611686018427387904 ≤ y2 / 2 ∧ y2 / 2 ≤ 4611686018427387903 := by omega
  obtain ⟨b1, b1'⟩ := b1; obtain ⟨b2, b2'⟩ := b2
  unfold plV
  by_cases e1 : x2 % 2 = 0
  · by_cases e2 : y2 % 2 = 0
    · unfold ipAt
      simp only [e1, e2, and_self, if_true]
      cases down
      · have HO : Ob (w.alloc (.cells (plC W H b (W * H) c) PLT)) w.heap.size PLT (plC W H b (W * H) c) := Ob.new_at _ _ rfl
        have HW : Below w.heap.size w (w.alloc (.cells (plC W H b (W * H) c) PLT)) := by ((repeat (first | exact Below.refl _ _ | assumption | refine Below.setCell ?_ (by first | omega | (simp; done) | (simp; omega)) _ | refine Below.alloc ?_ (by first | omega | (simp; done) | (simp; omega)) _ | refine below_drewN ?_ _ | refine Below.drew ?_ | refine below_setRow ?_ (by first | omega | (simp; done) | (simp; omega)) _)))
        have HP := hP.alloc (.cells (plC W H b (W * H) c) PLT)
        go_enter Try.func124, Try.ntmps124
        go_wp2_with (go_at_call 125; (with_reducible refine (half_any _ _).mono ?_); rintro e w' ⟨rfl, rfl⟩)
        refine (at_any W H b c s _ _ _ hW2 hH2 HP).mono ?_
        rintro e w1 ⟨rfl, hb⟩
        replace HO := HO.later hb; replace HP := HP.later hb; replace HW := below_step HW hb
        clear hb
        go_wp2_with (refine wpList_load_ob_g HO rfl _ _ rfl rfl Try.underlying41 (by kernel_rfl) ?_)
        go_ret
        exact ⟨ret_int (by first | rfl | omega), HW⟩
      · have HO : Ob (w.alloc (.cells (plC W H b (W * H) c) PLT)) w.heap.size PLT (plC W H b (W * H) c) := Ob.new_at _ _ rfl
        have HW : Below w.heap.size w (w.alloc (.cells (plC W H b (W * H) c) PLT)) := by ((repeat (first | exact Below.refl _ _ | assumption | refine Below.setCell ?_ (by first | omega | (simp; done) | (simp; omega)) _ | refine Below.alloc ?_ (by first | omega | (simp; done) | (simp; omega)) _ | refine below_drewN ?_ _ | refine Below.drew ?_ | refine below_setRow ?_ (by first | omega | (simp; done) | (simp; omega)) _)))
        have HP := hP.alloc (.cells (plC W H b (W * H) c) PLT)
        go_enter Try.func124, Try.ntmps124
        go_wp2_with (go_at_call 125; (with_reducible refine (half_any _ _).mono ?_); rintro e w' ⟨rfl, rfl⟩)
        refine (at_any W H b c s _ _ _ hW2 hH2 HP).mono ?_
        rintro e w1 ⟨rfl, hb⟩
        replace HO := HO.later hb; replace HP := HP.later hb; replace HW := below_step HW hb
        clear hb
        go_wp2_with (refine wpList_load_ob_g HO rfl _ _ rfl rfl Try.underlying41 (by kernel_rfl) ?_)
        go_ret
        exact ⟨ret_int (by first | rfl | omega), HW⟩
    · unfold ipAt
      simp only [e1, e2, and_false, if_true, if_false]
      cases down <;> simp only [Bool.false_eq_true, if_true, if_false]
      · have HO : Ob (w.alloc (.cells (plC W H b (W * H) c) PLT)) w.heap.size PLT (plC W H b (W * H) c) := Ob.new_at _ _ rfl
        have HW : Below w.heap.size w (w.alloc (.cells (plC W H b (W * H) c) PLT)) := by ((repeat (first | exact Below.refl _ _ | assumption | refine Below.setCell ?_ (by first | omega | (simp; done) | (simp; omega)) _ | refine Below.alloc ?_ (by first | omega | (simp; done) | (simp; omega)) _ | refine below_drewN ?_ _ | refine Below.drew ?_ | refine below_setRow ?_ (by first | omega | (simp; done) | (simp; omega)) _)))
        have HP := hP.alloc (.cells (plC W H b (W * H) c) PLT)
        go_enter Try.func124, Try.ntmps124
        go_wp2_with (go_at_call 125; (with_reducible refine (half_any _ _).mono ?_); rintro e w' ⟨rfl, rfl⟩)
        refine (at_any W H b c s _ _ _ hW2 hH2 HP).mono ?_
        rintro e w1 ⟨rfl, hb⟩
        replace HO := HO.later hb; replace HP := HP.later hb; replace HW := below_step HW hb
        clear hb
        go_wp2_with (refine wpList_load_ob_g HO rfl _ _ rfl rfl Try.underlying41 (by kernel_rfl) ?_)
        refine (at_any W H b c s _ _ _ hW2 hH2 HP).mono ?_
        rintro e w2 ⟨rfl, hb⟩
        replace HW := below_step HW hb
        clear hb
        go_wp2_with fail
        go_ret
        exact ⟨ret_int (by first | rfl | omega), HW⟩
      · have HO : Ob (w.alloc (.cells (plC W H b (W * H) c) PLT)) w.heap.size PLT (plC W H b (W * H) c) := Ob.new_at _ _ rfl
        have HW : Below w.heap.size w (w.alloc (.cells (plC W H b (W * H) c) PLT)) := by ((repeat (first | exact Below.refl _ _ | assumption | refine Below.setCell ?_ (by first | omega | (simp; done) | (simp; omega)) _ | refine Below.alloc ?_ (by first | omega | (simp; done) | (simp; omega)) _ | refine below_drewN ?_ _ | refine Below.drew ?_ | refine below_setRow ?_ (by first | omega | (simp; done) | (simp; omega)) _)))
        have HP := hP.alloc (.cells (plC W H b (W * H) c) PLT)
        go_enter Try.func124, Try.ntmps124
        go_wp2_with (go_at_call 125; (with_reducible refine (half_any _ _).mono ?_); rintro e w' ⟨rfl, rfl⟩)
        refine (at_any W H b c s _ _ _ hW2 hH2 HP).mono ?_
        rintro e w1 ⟨rfl, hb⟩
        replace HO := HO.later hb; replace HP := HP.later hb; replace HW := below_step HW hb
        clear hb
        go_wp2_with (refine wpList_load_ob_g HO rfl _ _ rfl rfl Try.underlying41 (by kernel_rfl) ?_)
        refine (at_any W H b c s _ _ _ hW2 hH2 HP).mono ?_
        rintro e w2 ⟨rfl, hb⟩
        replace HW := below_step HW hb
        clear hb
        go_wp2_with fail
        go_ret
        exact ⟨ret_int (by first | rfl | omega), HW⟩
  · by_cases e2 : y2 % 2 = 0
    · unfold ipAt
      simp only [e1, e2, false_and, if_true, if_false]
      cases down <;> simp only [Bool.false_eq_true, if_true, if_false]
      · have HO : Ob (w.alloc (.cells (plC W H b (W * H) c) PLT)) w.heap.size PLT (plC W H b (W * H) c) := Ob.new_at _ _ rfl
        have HW : Below w.heap.size w (w.alloc (.cells (plC W H b (W * H) c) PLT)) := by ((repeat (first | exact Below.refl _ _ | assumption | refine Below.setCell ?_ (by first | omega | (simp; done) | (simp; omega)) _ | refine Below.alloc ?_ (by first | omega | (simp; done) | (simp; omega)) _ | refine below_drewN ?_ _ | refine Below.drew ?_ | refine below_setRow ?_ (by first | omega | (simp; done) | (simp; omega)) _)))
        have HP := hP.alloc (.cells (plC W H b (W * H) c) PLT)
        go_enter Try.func124, Try.ntmps124
        go_wp2_with (go_at_call 125; (with_reducible refine (half_any _ _).mono ?_); rintro e w' ⟨rfl, rfl⟩)
        refine (at_any W H b c s _ _ _ hW2 hH2 HP).mono ?_
        rintro e w1 ⟨rfl, hb⟩
        replace HO := HO.later hb; replace HP := HP.later hb; replace HW := below_step HW hb
        clear hb
        go_wp2_with (refine wpList_load_ob_g HO rfl _ _ rfl rfl Try.underlying41 (by kernel_rfl) ?_)
        refine (at_any W H b c s _ _ _ hW2 hH2 HP).mono ?_
        rintro e w2 ⟨rfl, hb⟩
        replace HW := below_step HW hb
        clear hb
        go_wp2_with fail
        go_ret
        exact ⟨ret_int (by first | rfl | omega), HW⟩
      · have HO : Ob (w.alloc (.cells (plC W H b (W * H) c) PLT)) w.heap.size PLT (plC W H b (W * H) c) := Ob.new_at _ _ rfl
        have HW : Below w.heap.size w (w.alloc (.cells (plC W H b (W * H) c) PLT)) := by ((repeat (first | exact Below.refl _ _ | assumption | refine Below.setCell ?_ (by first | omega | (simp; done) | (simp; omega)) _ | refine Below.alloc ?_ (by first | omega | (simp; done) | (simp; omega)) _ | refine below_drewN ?_ _ | refine Below.drew ?_ | refine below_setRow ?_ (by first | omega | (simp; done) | (simp; omega)) _)))
        have HP := hP.alloc (.cells (plC W H b (W * H) c) PLT)
        go_enter Try.func124, Try.ntmps124
        go_wp2_with (go_at_call 125; (with_reducible refine (half_any _ _).mono ?_); rintro e w' ⟨rfl, rfl⟩)
        refine (at_any W H b c s _ _ _ hW2 hH2 HP).mono ?_
        rintro e w1 ⟨rfl, hb⟩
        replace HO := HO.later hb; replace HP := HP.later hb; replace HW := below_step HW hb
        clear hb
        go_wp2_with (refine wpList_load_ob_g HO rfl _ _ rfl rfl Try.underlying41 (by kernel_rfl) ?_)
        refine (at_any W H b c s _ _ _ hW2 hH2 HP).mono ?_
        rintro e w2 ⟨rfl, hb⟩
        replace HW := below_step HW hb
        clear hb
        go_wp2_with fail
        go_ret
        exact ⟨ret_int (by first | rfl | omega), HW⟩
    · unfold ipAt
      simp only [e1, e2, false_and, if_false]
      cases down <;> simp only [Bool.false_eq_true, if_true, if_false]
      · have HO : Ob (w.alloc (.cells (plC W H b (W * H) c) PLT)) w.heap.size PLT (plC W H b (W * H) c) := Ob.new_at _ _ rfl
        have HW : Below w.heap.size w (w.alloc (.cells (plC W H b (W * H) c) PLT)) := by ((repeat (first | exact Below.refl _ _ | assumption | refine Below.setCell ?_ (by first | omega | (simp; done) | (simp; omega)) _ | refine Below.alloc ?_ (by first | omega | (simp; done) | (simp; omega)) _ | refine below_drewN ?_ _ | refine Below.drew ?_ | refine below_setRow ?_ (by first | omega | (simp; done) | (simp; omega)) _)))
        have HP := hP.alloc (.cells (plC W H b (W * H) c) PLT)
        go_enter Try.func124, Try.ntmps124
        go_wp2_with (go_at_call 125; (with_reducible refine (half_any _ _).mono ?_); rintro e w' ⟨rfl, rfl⟩)
        refine (at_any W H b c s _ _ _ hW2 hH2 HP).mono ?_
        rintro e w1 ⟨rfl, hb⟩
        replace HO := HO.later hb; replace HP := HP.later hb; replace HW := below_step HW hb
        clear hb
        go_wp2_with (refine wpList_load_ob_g HO rfl _ _ rfl rfl Try.underlying41 (by kernel_rfl) ?_)
        have c0 := fun p => (HO.re p).plW
        have c1 := fun p => (HO.re p).plH
        have c2 := fun p => (HO.re p).plS
        refine wp_region_quiet_below (by kernel_rfl) (by kernel_rfl) ?_
        repeat (go_big_quiet_step ((go_at_call 35; exact Calls.regrown_of (at_any W H b c s _ _ _ hW2 hH2 (HP.later (below_regrown _ _ _))))))
        refine wpQuiet_nil ?_
        intro wq hwq
        replace hwq := Cls.below hwq
        go_wp2_with fail
        go_ret
        exact ⟨ret_int (by first | rfl | omega), below_step HW hwq⟩
      · have HO : Ob (w.alloc (.cells (plC W H b (W * H) c) PLT)) w.heap.size PLT (plC W H b (W * H) c) := Ob.new_at _ _ rfl
        have HW : Below w.heap.size w (w.alloc (.cells (plC W H b (W * H) c) PLT)) := by ((repeat (first | exact Below.refl _ _ | assumption | refine Below.setCell ?_ (by first | omega | (simp; done) | (simp; omega)) _ | refine Below.alloc ?_ (by first | omega | (simp; done) | (simp; omega)) _ | refine below_drewN ?_ _ | refine Below.drew ?_ | refine below_setRow ?_ (by first | omega | (simp; done) | (simp; omega)) _)))
        have HP := hP.alloc (.cells (plC W H b (W * H) c) PLT)
        go_enter Try.func124, Try.ntmps124
        go_wp2_with (go_at_call 125; (with_reducible refine (half_any _ _).mono ?_); rintro e w' ⟨rfl, rfl⟩)
        refine (at_any W H b c s _ _ _ hW2 hH2 HP).mono ?_
        rintro e w1 ⟨rfl, hb⟩
        replace HO := HO.later hb; replace HP := HP.later hb; replace HW := below_step HW hb
        clear hb
        go_wp2_with (refine wpList_load_ob_g HO rfl _ _ rfl rfl Try.underlying41 (by kernel_rfl) ?_)
        have c0 := fun p => (HO.re p).plW
        have c1 := fun p => (HO.re p).plH
        have c2 := fun p => (HO.re p).plS
        refine wp_region_quiet_below (by kernel_rfl) (by kernel_rfl) ?_
        repeat (go_big_quiet_step ((go_at_call 35; exact Calls.regrown_of (at_any W H b c s _ _ _ hW2 hH2 (HP.later (below_regrown _ _ _))))))
        refine wpQuiet_nil ?_
        intro wq hwq
        replace hwq := Cls.below hwq
        go_wp2_with fail
        go_ret
        exact ⟨ret_int (by first | rfl | omega), below_step HW hwq⟩

def spanLo (at_ d end_ : Int) : Int := imin (imax ((2 * at_ + d) / 2) 0) (imax (end_ - 1) 0)
def spanHi (at_ d end_ : Int) : Int := imin (imax ((2 * at_ + d) / 2 + 7 + d % 2) 0) (imax (end_ - 1) 0)

set_option maxHeartbeats 400000 in
theorem span_any (x d n : Int) (w : World) (h0 : -1099511627776 ≤ x) (h1 : x ≤ 1099511627776) (h2 : -1099511627776 ≤ d) (h3 : d ≤ 1099511627776) (h4 : -1099511627776 ≤ n) (h5 : n ≤ 1099511627776) :
    Calls Try.prog 113 #[.int .i64 x, .int .i64 d, .int .i64 n] w fun e w' => e = .returned (.tuple #[.int .i64 (spanLo x d n), .int .i64 (spanHi x d n)]) ∧ w = w' := by
  unfold spanLo spanHi
  go_enter Try.func113, Try.ntmps113
  go_wp2_with (go_at_call 125; (with_reducible refine (half_any _ _).mono ?_); rintro e w' ⟨rfl, rfl⟩)
  go_ret2
  exact ⟨rfl, rfl⟩

def s13 (k : Nat) : Int := if k = 0 then 10 else 13
end Go.Proofs.Ytbldgpemocnboaa

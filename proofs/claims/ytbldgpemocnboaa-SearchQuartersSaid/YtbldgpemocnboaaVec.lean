/- Vectors as complex numbers: Of, whole, Parts, Right, walked. Condition: whole numbers from -64 to 64. | vec.Right, kinescopelaw12.Small, walked. Condition: whole numbers from -64 to 64. | comp's nearest, All, Colour; vec.Parts4; walked. Condition: whole numbers from -32 to 32. -/
import Derived.Test.YtbldgpemocnboaaFl
import Derived.Test.YtbldgpemocnboaaOb
import Derived.Laws.Cover2
import Derived.Laws.Cover3
import Derived.Laws.FloatArith
import Derived.Test.YtbldgpemocnboaaArr
namespace Go.Proofs.Ytbldgpemocnboaa
open Go.RowKit
attribute [local go_sem ↓] run_imax run_imin

/-- A vector of whole numbers. -/
def vcV (x y : Int) : Value := .complex .f64 (fbits x) (fbits y)
theorem fo_int (n : Int) : floatOfInt .f64 n = fbits n := rfl
theorem ord_all : ∀ n : Nat, n ≤ 128 → FloatKind.f64.format.order (fbits ((n : Int) - 64)) (fbits ((n : Int) - 64)) = some .eq ∧ FloatKind.f64.format.order (fbits ((n : Int) - 64)) (fbits 64) ≠ some .gt ∧ FloatKind.f64.format.order (fbits ((n : Int) - 64)) (fbits (-64)) ≠ some .lt := by decide +kernel
theorem ord_self {n : Int} (h : -64 ≤ n ∧ n ≤ 64) : FloatKind.f64.format.order (fbits n) (fbits n) = some .eq := by
  have := (ord_all (n + 64).toNat (by omega)).1
  rwa [show (((n + 64).toNat : Nat) : Int) - 64 = n by omega] at this
theorem ord_hi {n : Int} (h : -64 ≤ n ∧ n ≤ 64) : (FloatKind.f64.format.order (fbits n) (fbits 64) == some .gt) = false := by
  have := (ord_all (n + 64).toNat (by omega)).2.1
  rw [show (((n + 64).toNat : Nat) : Int) - 64 = n by omega] at this
  simpa using this
theorem ord_lo {n : Int} (h : -64 ≤ n ∧ n ≤ 64) : (FloatKind.f64.format.order (fbits n) (fbits (-64)) == some .lt) = false := by
  have := (ord_all (n + 64).toNat (by omega)).2.2
  rw [show (((n + 64).toNat : Nat) : Int) - 64 = n by omega] at this
  simpa using this

theorem of_any (x y : Int) (w : World) : Calls Try.prog 57 #[.int .i64 x, .int .i64 y] w fun e w' => e = .returned (vcV x y) ∧ w = w' := by
  unfold vcV
  go_enter Try.func57, Try.ntmps57
  go_wp2_with fail
  go_ret
  exact ⟨rfl, rfl⟩

set_option maxRecDepth 100000 in
theorem whole_any (n : Int) (w : World) (h : -64 ≤ n ∧ n ≤ 64) : Calls Try.prog 103 #[.float .f64 (fbits n)] w fun e w' => e = .returned (.int .i64 n) ∧ w = w' := by
  have h1 := ord_self h
  have h2 : (FloatKind.f64.format.order (fbits n) 4634204016564240384 == some .gt) = false := ord_hi h
  have h3 : (FloatKind.f64.format.order (fbits n) 13857576053419016192 == some .lt) = false := ord_lo h
  have h4 := fb_int n (by omega)
  have hcv : ∀ W, (convert 152 3 (.float .f64 (fbits n))).run Try.prog W = .ok (.int .i64 n) W := fun W => run_convert_float_int W _ _ _ _ _ _ (by kernel_rfl) Try.underlying3 h4
  clear h4
  obtain ⟨l1, l2⟩ := h
  go_enter Try.func103, Try.ntmps103
  go_wp2_with fail
  go_ret
  exact ⟨rfl, rfl⟩
theorem parts_any (x y : Int) (w : World) (hx : -64 ≤ x ∧ x ≤ 64) (hy : -64 ≤ y ∧ y ≤ 64) : Calls Try.prog 58 #[vcV x y] w fun e w' => e = .returned (.tuple #[.int .i64 x, .int .i64 y]) ∧ w' = w := by
  have h1 := fun w => (whole_any x w hx).mono (fun e w' h => (⟨h.1, h.2.symm⟩ : _ ∧ w' = w))
  have h2 := fun w => (whole_any y w hy).mono (fun e w' h => (⟨h.1, h.2.symm⟩ : _ ∧ w' = w))
  unfold vcV
  go_enter Try.func58, Try.ntmps58
  go_wp2_with fail
  refine (h1 _).mono ?_
  rintro e w1 ⟨rfl, rfl⟩
  go_wp2_with fail
  refine (h2 _).mono ?_
  rintro e w2 ⟨rfl, rfl⟩
  go_wp2_with fail
  go_ret2
  exact ⟨rfl, rfl⟩
end Go.Proofs.Ytbldgpemocnboaa

namespace Go.Proofs.Ytbldgpemocnboaa
open Go.RowKit
attribute [local go_sem ↓] run_imax run_imin

/-- May a vector of whole numbers be one? -/
def rightB (x y : Int) : Bool := decide (-31 ≤ x ∧ x ≤ 31 ∧ -31 ≤ y ∧ y ≤ 31)
set_option maxHeartbeats 1000000 in
theorem right_any (x y : Int) (w : World) (hx : -64 ≤ x ∧ x ≤ 64) (hy : -64 ≤ y ∧ y ≤ 64) : Calls Try.prog 64 #[vcV x y] w fun e w' => e = .returned (.bool (rightB x y)) ∧ w' = w := by
  have hp := fun W => parts_any x y W hx hy
  obtain ⟨x1, x2⟩ := hx; obtain ⟨y1, y2⟩ := hy
  have o1 := ord_self (n := x) (by omega)
  have o2 := ord_self (n := y) (by omega)
  unfold vcV at hp ⊢
  replace hp := Lib.hid hp
  by_cases h1 : -31 ≤ x ∧ x ≤ 31
  · have d1 : decide (imax x (-x) ≤ 31) = true := by rw [imax_eq]; simp; omega
    by_cases h2 : -31 ≤ y ∧ y ≤ 31
    · have d2 : decide (imax y (-y) ≤ 31) = true := by rw [imax_eq]; simp; omega
      rw [show rightB x y = true by unfold rightB; simp; omega]
      go_enter Try.func64, Try.ntmps64
      go_wp2_with fail
      refine (hp.out _).mono ?_
      rintro e w1 ⟨rfl, rfl⟩
      go_wp2_with fail
      refine (of_any x y _).mono ?_
      rintro e w1 ⟨rfl, rfl⟩
      unfold vcV
      go_wp2_with fail
      go_ret
      exact ⟨rfl, rfl⟩
    · have d2 : decide (imax y (-y) ≤ 31) = false := by rw [imax_eq]; simp; omega
      rw [show rightB x y = false by unfold rightB; simp; omega]
      go_enter Try.func64, Try.ntmps64
      go_wp2_with fail
      refine (hp.out _).mono ?_
      rintro e w1 ⟨rfl, rfl⟩
      go_wp2_with fail
      refine (of_any x y _).mono ?_
      rintro e w1 ⟨rfl, rfl⟩
      unfold vcV
      go_wp2_with fail
      go_ret
      exact ⟨rfl, rfl⟩
  · have d1 : decide (imax x (-x) ≤ 31) = false := by rw [imax_eq]; simp; omega
    rw [show rightB x y = false by unfold rightB; simp; omega]
    go_enter Try.func64, Try.ntmps64
    go_wp2_with fail
    refine (hp.out _).mono ?_
    rintro e w1 ⟨rfl, rfl⟩
    go_wp2_with fail
    refine (of_any x y _).mono ?_
    rintro e w1 ⟨rfl, rfl⟩
    unfold vcV
    go_wp2_with fail
    go_ret
    exact ⟨rfl, rfl⟩

/-- A small number of eight bits. -/
def sm32 (x : Int) : Int := x.tmod 32
theorem sm32_bd (x : Int) : -31 ≤ sm32 x ∧ sm32 x ≤ 31 := by
  unfold sm32
  have h1 := Int.tmod_lt_of_pos x (show (0 : Int) < 32 by omega)
  have h2 := Int.lt_tmod_of_pos x (show (0 : Int) < 32 by omega)
  omega
theorem vsmall_any (x y : Int) (w : World) (hx : -128 ≤ x ∧ x ≤ 127) (hy : -128 ≤ y ∧ y ≤ 127) : Calls Try.prog 60 #[.int .i8 x, .int .i8 y] w fun e w' => e = .returned (vcV (sm32 x) (sm32 y)) ∧ w' = w := by
  unfold sm32
  have b1 : -31 ≤ x.tmod 32 ∧ x.tmod 32 ≤ 31 := sm32_bd x
  have b2 : -31 ≤ y.tmod 32 ∧ y.tmod 32 ≤ 31 := sm32_bd y
  obtain ⟨X, hX⟩ : ∃ X, x.tmod 32 = X := ⟨_, rfl⟩
  obtain ⟨Y, hY⟩ : ∃ Y, y.tmod 32 = Y := ⟨_, rfl⟩
  rw [hX] at b1 ⊢; rw [hY] at b2 ⊢
  obtain ⟨x1, x2⟩ := hx; obtain ⟨y1, y2⟩ := hy
  go_enter Try.func60, Try.ntmps60
  go_wp2_with fail
  refine (of_any X Y _).mono ?_
  rintro e w1 ⟨rfl, rfl⟩
  unfold vcV
  go_wp2_with fail
  go_ret
  exact ⟨rfl, rfl⟩
end Go.Proofs.Ytbldgpemocnboaa

namespace Go.Proofs.Ytbldgpemocnboaa
open Go.RowKit
attribute [local go_sem ↓] run_imax run_imin

/-- Four vectors. -/
def vc4 (X Y : Nat → Int) (k : Nat) : Value := vcV (X k) (Y k)
def nrst (n : Int) : Int := if n < 0 then -((4 - n) / 8) else (n + 4) / 8
def sum4 (X : Nat → Int) : Nat → Int
  | 0 => 0
  | k + 1 => sum4 X k + X k
theorem nrst_bd {n : Int} (h : -128 ≤ n ∧ n ≤ 128) : -16 ≤ nrst n ∧ nrst n ≤ 16 := by
  unfold nrst; split <;> omega
def V4b (X Y : Nat → Int) : Prop := ∀ k, k < 4 → (-32 ≤ X k ∧ X k ≤ 32) ∧ (-32 ≤ Y k ∧ Y k ≤ 32)
theorem sum4_bd {X : Nat → Int} (k : Nat) (h : ∀ j, j < k → -32 ≤ X j ∧ X j ≤ 32) : -32 * (k : Int) ≤ sum4 X k ∧ sum4 X k ≤ 32 * (k : Int) := by
  induction k with
  | zero => unfold sum4; omega
  | succ k ih =>
    have h1 := ih (fun j hj => h j (by omega))
    have h2 := h k (by omega)
    unfold sum4; omega

theorem nearest_any (n : Int) (w : World) (h : -512 ≤ n ∧ n ≤ 512) : Calls Try.prog 119 #[.int .i64 n] w fun e w' => e = .returned (.int .i64 (nrst n)) ∧ w' = w := by
  obtain ⟨h1, h2⟩ := h
  unfold nrst
  by_cases e : n < 0
  · rw [if_pos e]
    have d : decide (n < 0) = true := by simpa using e
    have e1 : (4 - n).tdiv 8 = (4 - n) / 8 := Int.tdiv_eq_ediv_of_nonneg (by omega)
    obtain ⟨z, hz⟩ : ∃ z, (4 - n) / 8 = z := ⟨_, rfl⟩
    rw [hz] at e1 ⊢
    have z1 : -512 ≤ z ∧ z ≤ 512 := by omega
    obtain ⟨z2, z3⟩ := z1
    clear hz
    go_enter Try.func119, Try.ntmps119
    go_wp2_with fail
    go_ret
    exact ⟨rfl, rfl⟩
  · rw [if_neg e]
    have d : decide (n < 0) = false := by simpa using e
    have e1 : (n + 4).tdiv 8 = (n + 4) / 8 := Int.tdiv_eq_ediv_of_nonneg (by omega)
    obtain ⟨z, hz⟩ : ∃ z, (n + 4) / 8 = z := ⟨_, rfl⟩
    rw [hz] at e1 ⊢
    have z1 : -512 ≤ z ∧ z ≤ 512 := by omega
    obtain ⟨z2, z3⟩ := z1
    clear hz
    go_enter Try.func119, Try.ntmps119
    go_wp2_with fail
    go_ret
    exact ⟨rfl, rfl⟩
theorem und63 : Try.prog.underlying 63 = some (.array 4 61) := by kernel_rfl
theorem und62 : Try.prog.underlying 62 = some (.array 4 61) := by kernel_rfl
theorem alloc63 (w : World) : (Instr.alloc 63 true (.tuple #[])).run Try.prog w = .ok (.pointer (some ⟨w.heap.size, 0, none⟩)) (w.alloc (.cells (fcells 4 fun _ => .complex .f64 0 0) 63)) := by kernel_rfl
theorem all_any (x y : Int) (w : World) : Calls Try.prog 45 #[vcV x y] w fun e w' => e = .returned (.agg (fcells 4 (vc4 (fun _ => x) (fun _ => y)))) ∧ Below w.heap.size w w' := by
  unfold vcV
  go_enter Try.func45, Try.ntmps45
  have HZ : Blk (w.alloc (.cells (fcells 4 fun _ => .complex .f64 0 0) 63)) w.heap.size 63 4 (fun _ => .complex .f64 0 0) := Blk.new_at _ _ _ rfl
  have HW : Below w.heap.size w (w.alloc (.cells (fcells 4 fun _ => .complex .f64 0 0) 63)) := by ((repeat (first | exact Below.refl _ _ | assumption | refine Below.setCell ?_ (by first | omega | (simp; done) | (simp; omega)) _ | refine Below.alloc ?_ (by first | omega | (simp; done) | (simp; omega)) _ | refine below_drewN ?_ _ | refine Below.drew ?_ | refine below_setRow ?_ (by first | omega | (simp; done) | (simp; omega)) _)))
  go_wp2_with (first | (refine wpList_alloc_blk rfl 63 rfl _ _ alloc63 ?_) | (refine wpList_store_blk (g := vc4 (fun _ => x) (fun _ => y)) HZ rfl _ _ _ rfl rfl rfl (by kernel_rfl) (fun j _ => rfl) ?_))
  exact bodyPost_ret (results_blk rfl _ (HZ.setRow_same rfl) rfl und63 (by kernel_rfl)) rfl ⟨rfl, below_setRow HW (Nat.le_refl _) _⟩

theorem sum4_le {X : Nat → Int} (h : ∀ j, j < 4 → -32 ≤ X j ∧ X j ≤ 32) {k : Nat} (hk : k ≤ 4) : -128 ≤ sum4 X k ∧ sum4 X k ≤ 128 := by
  have := sum4_bd (X := X) k (fun j hj => h j (by omega)); omega
set_option maxHeartbeats 1000000 in
theorem parts4_any (X Y : Nat → Int) (w : World) (h : V4b X Y) : Calls Try.prog 118 #[.agg (fcells 4 (vc4 X Y))] w fun e w' => e = .returned (.tuple #[.int .i64 (sum4 X 4), .int .i64 (sum4 Y 4)]) ∧ Below w.heap.size w w' := by
  replace h := Lib.hid h
  go_enter Try.func118, Try.ntmps118
  have HZ : Blk (w.alloc (.cells (fcells 4 (vc4 X Y)) 62)) w.heap.size 62 4 (vc4 X Y) := Blk.new_at _ _ _ rfl
  have HW : Below w.heap.size w (w.alloc (.cells (fcells 4 (vc4 X Y)) 62)) := by ((repeat (first | exact Below.refl _ _ | assumption | refine Below.setCell ?_ (by first | omega | (simp; done) | (simp; omega)) _ | refine Below.alloc ?_ (by first | omega | (simp; done) | (simp; omega)) _ | refine below_drewN ?_ _ | refine Below.drew ?_ | refine below_setRow ?_ (by first | omega | (simp; done) | (simp; omega)) _)))
  go_wp2_with (refine wpList_load_blk HZ rfl _ _ rfl rfl und62 (by kernel_rfl) ?_)
  clear HZ
  go_loopw [2, 3, 9] (fun x y i wr => ∃ k : Nat, k ≤ 4 ∧ i = .int .i64 k ∧ x = .int .i64 (sum4 X k) ∧ y = .int .i64 (sum4 Y k) ∧ Below w.heap.size w wr) (fun _ _ i _ => 4 - (intOf i).toNat)
  case atStart => exact ⟨0, by omega, rfl, rfl, rfl, HW⟩
  case round =>
    clear HW
    obtain ⟨k, hk, rfl, rfl, rfl, HW⟩ := hrel
    by_cases hk4 : k < 4
    · have hd : decide ((k : Int) < 4) = true := by simp; omega
      have hix := fun W => run_index_fcells (P := Try.prog) W 62 61 4 (vc4 X Y) k und62 (by kernel_rfl) (by kernel_rfl) (by omega) (by omega)
      simp only [Int.toNat_natCast, vc4] at hix
      obtain ⟨⟨b1, b2⟩, b3, b4⟩ := h.out k hk4
      have hp := fun W => parts_any (X k) (Y k) W (by omega) (by omega)
      replace hp := Lib.hid hp
      obtain ⟨s1, s2⟩ := sum4_le (fun j hj => (h.out j hj).1) (show k ≤ 4 by omega)
      obtain ⟨s3, s4⟩ := sum4_le (fun j hj => (h.out j hj).2) (show k ≤ 4 by omega)
      go_wp2_with fail
      refine (hp.out _).mono ?_
      rintro e w3 ⟨rfl, rfl⟩
      clear hix
      go_wp2_with fail
      exact ⟨⟨k + 1, by omega, by go_num, rfl, rfl, HW⟩, by simp [intOf]; omega⟩
    · obtain rfl : k = 4 := by omega
      obtain ⟨s1, s2⟩ := sum4_le (fun j hj => (h.out j hj).1) (show 4 ≤ 4 by omega)
      obtain ⟨s3, s4⟩ := sum4_le (fun j hj => (h.out j hj).2) (show 4 ≤ 4 by omega)
      go_wp2_with fail
      go_ret2
      exact ⟨rfl, HW⟩
theorem colour_any (X Y : Nat → Int) (w : World) (h : V4b X Y) : Calls Try.prog 81 #[.agg (fcells 4 (vc4 X Y))] w fun e w' => e = .returned (vcV (nrst (sum4 X 4)) (nrst (sum4 Y 4))) ∧ Below w.heap.size w w' := by
  obtain ⟨s1, s2⟩ := sum4_le (fun j hj => (h j hj).1) (show 4 ≤ 4 by omega)
  obtain ⟨s3, s4⟩ := sum4_le (fun j hj => (h j hj).2) (show 4 ≤ 4 by omega)
  replace h := Lib.hid h
  go_enter Try.func81, Try.ntmps81
  have HZ : Blk (w.alloc (.cells (fcells 4 (vc4 X Y)) 63)) w.heap.size 63 4 (vc4 X Y) := Blk.new_at _ _ _ rfl
  have HW : Below w.heap.size w (w.alloc (.cells (fcells 4 (vc4 X Y)) 63)) := by ((repeat (first | exact Below.refl _ _ | assumption | refine Below.setCell ?_ (by first | omega | (simp; done) | (simp; omega)) _ | refine Below.alloc ?_ (by first | omega | (simp; done) | (simp; omega)) _ | refine below_drewN ?_ _ | refine Below.drew ?_ | refine below_setRow ?_ (by first | omega | (simp; done) | (simp; omega)) _)))
  go_wp2_with (refine wpList_load_blk HZ rfl _ _ rfl rfl und63 (by kernel_rfl) ?_)
  refine (parts4_any X Y _ h.out).mono ?_
  rintro e w2 ⟨rfl, hb⟩
  replace HW := below_step HW hb
  clear hb HZ
  go_wp2_with fail
  refine (nearest_any _ _ (by omega)).mono ?_
  rintro e w3 ⟨rfl, rfl⟩
  go_wp2_with fail
  refine (nearest_any _ _ (by omega)).mono ?_
  rintro e w4 ⟨rfl, rfl⟩
  go_wp2_with fail
  refine (of_any _ _ _).mono ?_
  rintro e w5 ⟨rfl, rfl⟩
  go_wp2_with fail
  go_ret
  exact ⟨rfl, HW⟩
end Go.Proofs.Ytbldgpemocnboaa

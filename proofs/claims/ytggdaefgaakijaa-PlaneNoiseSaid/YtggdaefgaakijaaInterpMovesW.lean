/- The walk of the law InterpMoves: true at every input. -/
import Derived.Test.YtggdaefgaakijaaMv1
import Derived.Test.YtggdaefgaakijaaIv5
import Derived.Test.YtggdaefgaakijaaCell
namespace Go.Proofs.Ytggdaefgaakijaa
open Go.RowKit Go.Sort
attribute [local go_sem ↓] run_imax run_imin

theorem mv_at {W H : Nat} {s : Nat → Int} {dx dy x y : Int} (hx : 0 ≤ x) (hx2 : x < W) (hy : 0 ≤ y) (hy2 : y < H) : plAt W H (mvS W H s dx dy) x y = plAt W H s (x - dx) (y - dy) := by
  obtain ⟨a, rfl⟩ : ∃ a : Nat, x = (a : Int) := ⟨x.toNat, by omega⟩
  obtain ⟨b, rfl⟩ : ∃ b : Nat, y = (b : Int) := ⟨y.toNat, by omega⟩
  have e : plAt W H (mvS W H s dx dy) a b = mvS W H s dx dy (b * W + a) := by
    unfold plAt; rw [if_neg (by omega), cl_in hx hx2, cl_in hy hy2]; simp
  rw [e]
  unfold mvS
  have e1 : (b * W + a) % W = a := by rw [Nat.mul_comm, Nat.mul_add_mod]; exact Nat.mod_eq_of_lt (by omega)
  have e2 : (b * W + a) / W = b := by rw [Nat.mul_comm, Nat.mul_add_div (by omega), Nat.div_eq_of_lt (by omega)]; rfl
  rw [e1, e2]
theorem ip_moved {W H : Nat} {s : Nat → Int} {u v i j : Int} {d : Bool} (h1 : 0 ≤ i / 2 + u) (h2 : i / 2 + u + 1 < W) (h3 : 0 ≤ j / 2 + v) (h4 : j / 2 + v + 1 < H) :
    ipAt W H (mvS W H s u v) (i + 2 * u) (j + 2 * v) d = ipAt W H s i j d := by
  have e1 : (i + 2 * u) / 2 = i / 2 + u := by omega
  have e2 : (i + 2 * u) % 2 = i % 2 := by omega
  have e3 : (j + 2 * v) / 2 = j / 2 + v := by omega
  have e4 : (j + 2 * v) % 2 = j % 2 := by omega
  have g1 : i / 2 + u + 1 - u = i / 2 + 1 := by omega
  have g2 : j / 2 + v + 1 - v = j / 2 + 1 := by omega
  unfold ipAt
  rw [e1, e2, e3, e4, mv_at h1 (by omega) h3 (by omega), mv_at (x := i / 2 + u + 1) (by omega) h2 h3 (by omega), mv_at (y := j / 2 + v + 1) h1 (by omega) (by omega) h4, mv_at (x := i / 2 + u + 1) (y := j / 2 + v + 1) (by omega) h2 (by omega) h4, g1, g2, Int.add_sub_cancel, Int.add_sub_cancel]

set_option maxRecDepth 100000 in
set_option maxHeartbeats 1000000 in
theorem interpMoves_walk (co ro ki a b c sd : Int) (p : Option Addr) (n m : Nat) (sl : Nat → Int) (x y dx dy : Int) (dn : Bool) (w : World) (hw : SmallW co ro ki a b c sd n sl) (hn : n ≤ maxLen) (hS : SL w p n (u8v sl))
    (hx : 0 ≤ x ∧ x ≤ 255) (hy : 0 ≤ y ∧ y ≤ 255) (hdx : -128 ≤ dx ∧ dx ≤ 127) (hdy : -128 ≤ dy ∧ dy ≤ 127) :
    Calls Try.prog 9 #[smV co ro ki a b c sd p n m, .int .u8 x, .int .u8 y, .int .i8 dx, .int .i8 dy, .bool dn] w fun e w' => e = .returned (.bool true) ∧ Below w.heap.size w w' := by
  have k1 := tmodB dx 8 (by omega)
  have k2 := tmodB dy 8 (by omega)
  replace hw := Lib.hid hw; replace hS := Lib.hid hS
  have HB0 : Ob (w.alloc (.cells (smC co ro ki a b c sd p n m) SMT)) w.heap.size SMT (smC co ro ki a b c sd p n m) := Ob.new_at _ _ rfl
  unfold smV
  unfold smC at *
  go_enter Try.func9, Try.ntmps9
  go_wp2_with fail
  have HW0 : Below w.heap.size w (w.alloc (.cells (smC co ro ki a b c sd p n m) SMT)) := by ((repeat (first | exact Below.refl _ _ | assumption | refine Below.setCell ?_ (by first | omega | (simp; done) | (simp; omega)) _ | refine Below.alloc ?_ (by first | omega | (simp; done) | (simp; omega)) _ | refine below_drewN ?_ _ | refine Below.drew ?_ | refine below_setRow ?_ (by first | omega | (simp; done) | (simp; omega)) _)))
  unfold smC at HW0
  refine (awake13 _).mono ?_
  rintro e w1 ⟨rfl, hb⟩
  have HB := HB0.later hb; have HW := below_step HW0 hb
  clear hb HB0 HW0
  go_wp2_with (refine wpList_load_ob_g HB rfl _ _ rfl rfl Try.underlying54 (by kernel_rfl) ?_)
  refine (light_any co ro ki a b c sd p n m _ hn).mono ?_
  rintro e w2 ⟨rfl, hb⟩
  replace HB := HB.later hb; replace HW := below_step HW hb
  clear hb
  by_cases hn2 : n ≤ 2000
  · have hd : decide (n ≤ 2000) = true := by simpa using hn2
    go_wp2_with (refine wpList_load_ob_g HB rfl _ _ rfl rfl Try.underlying54 (by kernel_rfl) ?_)
    refine (smallW_any hw.out hn2 (sl_later hS.out HW)).mono ?_
    rintro e w3 ⟨f, rfl, f1, f2, f3, f4, hM, -, hb⟩
    replace HW := below_step HW hb
    clear hb HB
    have hc8 := hM.hc; have hr8 := hM.hr
    unfold Fr.val
    go_wp2_with (refine wpList_store_stop (Ob.new_at (w := w3) FRT frZ rfl) rfl _ _ _ rfl rfl f.cells rfl (by kernel_rfl) rfl rfl ?_)
    intro w4 hw4
    have HF := cell_ob hw4.out
    replace hM := cell_mem hw4.out hM
    replace HW := cell_below hw4.out HW HW.size
    clear hw4
    generalize w3.heap.size = q at *
    go_wp2_with (refine wpList_load_ob HF rfl _ _ rfl rfl Try.underlying58 (by kernel_rfl) ?_)
    generalize dx.tmod 8 = u at *
    generalize dy.tmod 8 = v at *
    obtain ⟨u1, u2⟩ := k1
    obtain ⟨v1, v2⟩ := k2
    refine (moved_any f u v _ hM (by omega) (by omega)).mono ?_
    rintro e w5 ⟨⟨gc, gr, bY, bU, bV, kY, kU, kV, gY, gU, gV⟩, rfl, ⟨hg1, hg2, hg3, -, -⟩, hG0, -, hb⟩
    simp only at hg1 hg2 hg3
    subst hg1 hg2 hg3
    have hG : PB w5 bY (16 * f.c * (16 * f.r)) (mvS (16 * f.c) (16 * f.r) f.sY u v) := hG0.y
    clear hG0
    replace HF := HF.later hb; replace hM := hM.later hb; replace HW := below_step HW hb
    clear hb
    unfold Fr.val
    go_wp2_with (refine wpList_store_stop (Ob.new_at (w := w5) FRT frZ rfl) rfl _ _ _ rfl rfl (Fr.cells ⟨f.c, f.r, bY, bU, bV, kY, kU, kV, mvS (16 * f.c) (16 * f.r) f.sY u v, gU, gV⟩) rfl (by kernel_rfl) rfl rfl ?_)
    intro w6 hw6
    have HG := cell_ob hw6.out
    replace HF := cell_keep hw6.out HF
    replace hM := cell_mem hw6.out hM
    replace hG := cell_pb hw6.out hG
    replace HW := cell_below hw6.out HW HW.size
    clear hw6
    generalize w5.heap.size = z at *
    have c0 := HF.fYW
    have c1 := HF.fYH
    have h16 : f.c = 1 ∨ 2 ≤ f.c := by omega
    have h16' : f.r = 1 ∨ 2 ≤ f.r := by omega
    rcases h16 with h16 | h16
    · have d1 : decide (16 * (f.c : Int) < 32) = true := by simp; omega
      replace h16 := Lib.hid h16
      go_wp2_with fail
      go_ret
      exact ⟨rfl, HW⟩
    · have d1 : decide (16 * (f.c : Int) < 32) = false := by simp; omega
      rcases h16' with h16' | h16'
      · have d2 : decide (16 * (f.r : Int) < 32) = true := by simp; omega
        replace h16' := Lib.hid h16'
        go_wp2_with fail
        go_ret
        exact ⟨rfl, HW⟩
      · have d2 : decide (16 * (f.r : Int) < 32) = false := by simp; omega
        have z1 : (2 * (16 * (f.c : Int)) - 42 == 0) = false := by simp; omega
        have z2 : (2 * (16 * (f.r : Int)) - 42 == 0) = false := by simp; omega
        obtain ⟨A, hA, a1, a2⟩ : ∃ A, x.tmod (2 * (16 * (f.c : Int)) - 42) = A ∧ 0 ≤ A ∧ A < 2 * (16 * (f.c : Int)) - 42 := ⟨_, rfl, Int.tmod_nonneg _ (by omega), Int.tmod_lt_of_pos _ (by omega)⟩
        obtain ⟨B, hB, b1, b2⟩ : ∃ B, y.tmod (2 * (16 * (f.r : Int)) - 42) = B ∧ 0 ≤ B ∧ B < 2 * (16 * (f.r : Int)) - 42 := ⟨_, rfl, Int.tmod_nonneg _ (by omega), Int.tmod_lt_of_pos _ (by omega)⟩
        go_wp2_with fail
        clear c0 c1
        have c0 := fun p => (HF.re p).fYW
        have c1 := fun p => (HF.re p).fYH
        refine wp_region_quiet_below (by kernel_rfl) (by kernel_rfl) ?_
        repeat (go_big_quiet_step (fail))
        refine wpQuiet_nil ?_
        intro wq hwq
        replace hwq := Cls.below hwq
        replace HF := HF.later hwq; replace HG := HG.later hwq; replace hM := hM.later hwq; replace hG := hG.later hwq; replace HW := below_step HW hwq
        clear hwq hA hB c0 c1 z1 z2
        obtain ⟨I, hI, i1, i2⟩ : ∃ I, 20 + A = I ∧ 20 ≤ I ∧ I ≤ 2 * (16 * (f.c : Int)) - 23 := ⟨_, rfl, by omega, by omega⟩
        obtain ⟨J, hJ, j1, j2⟩ : ∃ J, 20 + B = J ∧ 20 ≤ J ∧ J ≤ 2 * (16 * (f.r : Int)) - 23 := ⟨_, rfl, by omega, by omega⟩
        rw [hI, hJ]
        have he : ipAt (16 * f.c) (16 * f.r) (mvS (16 * f.c) (16 * f.r) f.sY u v) (I + 2 * u) (J + 2 * v) dn = ipAt (16 * f.c) (16 * f.r) f.sY I J dn := ip_moved (by omega) (by omega) (by omega) (by omega)
        clear hI hJ a1 a2 b1 b2
        obtain ⟨X, hX, x1, x2⟩ : ∃ X, I + 2 * u = X ∧ 0 ≤ X ∧ X ≤ 1000 := ⟨_, rfl, by omega, by omega⟩
        obtain ⟨Y, hY, y1, y2⟩ : ∃ Y, J + 2 * v = Y ∧ 0 ≤ Y ∧ Y ≤ 1000 := ⟨_, rfl, by omega, by omega⟩
        rw [hX, hY] at he
        have hGat : ∀ w', PB w' bY (16 * f.c * (16 * f.r)) (mvS (16 * f.c) (16 * f.r) f.sY u v) → Calls Try.prog 34 #[.agg (pl16 f.c f.r bY kY), .int .i64 X, .int .i64 Y, .bool dn] w' fun e w'' => e = .returned (.int .i64 (ipAt (16 * f.c) (16 * f.r) f.sY I J dn)) ∧ Below w'.heap.size w' w'' := fun w' h => by
          rw [← he]; exact ipAt16_any f.c f.r bY kY (mvS (16 * f.c) (16 * f.r) f.sY u v) X Y dn _ hc8 hr8 h (by omega) (by omega) (by omega) (by omega)
        clear he
        replace hGat := Lib.hid hGat
        go_wp2_with fail
        have c0 := fun p => (HF.re p).fYW
        have c1 := fun p => (HF.re p).fYH
        have c2 := fun p => (HF.re p).fYS
        have c3 : ∀ p : Regrown, (Sort.grow (redrawn wq p.d) p.os).cell? ⟨z, 2, none⟩ = some (.int .i64 (16 * (f.c : Int))) := fun p => (HG.re p).fYW
        have c4 : ∀ p : Regrown, (Sort.grow (redrawn wq p.d) p.os).cell? ⟨z, 3, none⟩ = some (.int .i64 (16 * (f.r : Int))) := fun p => (HG.re p).fYH
        have c5 : ∀ p : Regrown, (Sort.grow (redrawn wq p.d) p.os).cell? ⟨z, 4, none⟩ = some (.slice (some ⟨bY, 0, none⟩) (16 * f.c * (16 * f.r)) kY) := fun p => (HG.re p).fYS
        refine wp_region_quiet_below (by kernel_rfl) (by kernel_rfl) ?_
        repeat (go_big_quiet_step (first | (go_at_call 34; with_reducible exact Calls.regrown_of (hGat.out _ (hG.later (below_regrown _ _ _)))) | (go_at_call 34; with_reducible exact Calls.regrown_of (ipAt16_any f.c f.r f.bY f.cY f.sY I J dn _ hc8 hr8 (hM.y.later (below_regrown _ _ _)) (by omega) (by omega) (by omega) (by omega)))))
        refine wpQuiet_nil ?_
        intro wq hwq
        replace hwq := Cls.below hwq
        replace HW := below_step HW hwq
        clear hwq c0 c1 c2 c3 c4 c5
        go_wp2_with fail
        go_ret
        exact ⟨rfl, HW⟩
  · have hd : decide (n ≤ 2000) = false := by simpa using hn2
    go_wp2_with fail
    go_ret
    exact ⟨rfl, HW⟩
end Go.Proofs.Ytggdaefgaakijaa

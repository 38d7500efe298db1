/- The walk of the law InterpFlat: true at every input. -/
import Derived.Test.YtggdaefgaakijaaIv2
import Derived.Test.YtggdaefgaakijaaSm3
namespace Go.Proofs.Ytggdaefgaakijaa
open Go.RowKit Go.Sort
attribute [local go_sem ↓] run_imax run_imin

/-- The sample at column X + i, row Y + j lies between lo and hi. -/
def FlatG (f : Fr) (X Y : Int) (i j : Nat) (lo hi : Int) : Prop := lo ≤ plAt (16 * f.c) (16 * f.r) f.sY (X + (i : Int)) (Y + (j : Int)) ∧ plAt (16 * f.c) (16 * f.r) f.sY (X + (i : Int)) (Y + (j : Int)) ≤ hi
theorem FlatG.mono {f : Fr} {X Y : Int} {i j : Nat} {lo hi lo' hi' : Int} (h : FlatG f X Y i j lo hi) (h1 : lo' ≤ lo) (h2 : hi ≤ hi') : FlatG f X Y i j lo' hi' := ⟨Int.le_trans h1 h.1, Int.le_trans h.2 h2⟩

set_option maxRecDepth 100000 in
set_option maxHeartbeats 4000000 in
theorem interpFlat_walk (co ro ki a b c sd : Int) (p : Option Addr) (n m : Nat) (sl : Nat → Int) (v x y : Int) (w : World) (hw : SmallW co ro ki a b c sd n sl) (hn : n ≤ maxLen) (hS : SL w p n (u8v sl))
    (hv : 0 ≤ v ∧ v ≤ 255) (hx : -32768 ≤ x ∧ x ≤ 32767) (hy : -32768 ≤ y ∧ y ≤ 32767) :
    Calls Try.prog 7 #[smV co ro ki a b c sd p n m, .int .u8 v, .int .i16 x, .int .i16 y] w fun e w' => e = .returned (.bool true) ∧ Below w.heap.size w w' := by
  have e1 := Lib.hid (ipAt_flat (W := 20) (H := 20) (by omega) (by omega) v x y false)
  have e2 := Lib.hid (ipAt_flat (W := 20) (H := 20) (by omega) (by omega) v x y true)
  replace hw := Lib.hid hw; replace hS := Lib.hid hS
  have HB0 : Ob (w.alloc (.cells (smC co ro ki a b c sd p n m) SMT)) w.heap.size SMT (smC co ro ki a b c sd p n m) := Ob.new_at _ _ rfl
  unfold smV
  unfold smC at *
  go_enter Try.func7, Try.ntmps7
  go_wp2_with fail
  have HW0 : Below w.heap.size w (w.alloc (.cells (smC co ro ki a b c sd p n m) SMT)) := by ((repeat (first | exact Below.refl _ _ | assumption | refine Below.setCell ?_ (by first | omega | (simp; done) | (simp; omega)) _ | refine Below.alloc ?_ (by first | omega | (simp; done) | (simp; omega)) _ | refine below_drewN ?_ _ | refine Below.drew ?_ | refine below_setRow ?_ (by first | omega | (simp; done) | (simp; omega)) _)))
  unfold smC at HW0
  refine (awake13 _).mono ?_
  rintro e w1 ⟨rfl, hb⟩
  have HB := HB0.later hb; have HW := below_step HW0 hb
  clear hb HB0 HW0
  go_wp2_with (refine wpList_load_ob_g HB rfl _ _ rfl rfl Try.underlying54 (by kernel_rfl) ?_)
  refine (light_any co ro ki a b c sd p n m _ hn).mono ?_
  rintro e w2 ⟨rfl, hb⟩
  replace HB := HB.later hb; replace HW := below_step HW hb
  clear hb
  by_cases hn2 : n ≤ 2000
  · have hd : decide (n ≤ 2000) = true := by simpa using hn2
    go_wp2_with fail
    refine (new_any 20 20 v 20 20 _ (by decide) (by decide) hv).mono ?_
    rintro e w3 ⟨bp, rfl, hbp, HP, hb⟩
    replace HB := HB.later hb; replace HW := below_step HW hb
    clear hb
    unfold plV
    go_wp2_with fail
    have HQ : Ob (w3.alloc (.cells (plC 20 20 bp 400 400) PLT)) w3.heap.size PLT (plC 20 20 bp 400 400) := Ob.new_at _ _ rfl
    replace HB := HB.alloc (.cells (plC 20 20 bp 400 400) PLT); replace HP := HP.alloc (.cells (plC 20 20 bp 400 400) PLT); replace HW := HW.alloc HW.size (.cells (plC 20 20 bp 400 400) PLT)
    refine (ipAt_any 20 20 bp 400 (fun _ => v) x y false _ (by omega) (by omega) HP (by omega) (by omega) (by omega) (by omega)).mono ?_
    rw [e1.out]
    rintro e w4 ⟨rfl, hb⟩
    replace HB := HB.later hb; replace HW := below_step HW hb; replace HP := HP.later hb; replace HQ := HQ.later hb
    clear hb
    go_wp2_with (refine wpList_load_ob_g HQ rfl _ _ rfl rfl Try.underlying46 (by kernel_rfl) ?_)
    refine (ipAt_any 20 20 bp 400 (fun _ => v) x y true _ (by omega) (by omega) HP (by omega) (by omega) (by omega) (by omega)).mono ?_
    rw [e2.out]
    rintro e w5 ⟨rfl, hb⟩
    replace HB := HB.later hb; replace HW := below_step HW hb
    clear hb HP HQ e1 e2
    go_wp2_with (refine wpList_load_ob_g HB rfl _ _ rfl rfl Try.underlying54 (by kernel_rfl) ?_)
    refine (smallW_any hw.out hn2 (sl_later hS.out HW)).mono ?_
    rintro e w6 ⟨f, rfl, f1, f2, f3, f4, hM, -, hb⟩
    replace HW := below_step HW hb
    clear hb HB
    unfold Fr.val Fr.cells
    have HP := hM.y
    clear hM
    have hfd := fun a0 a1 a2 a3 a4 a5 a6 a7 a8 a9 a10 => frame_fieldY a0 a1 a2 a3 a4 a5 a6 a7 a8 a9 a10
    go_wp2_with fail
    clear hfd
    have HQ : Ob (w6.alloc (.cells (pl16 f.c f.r f.bY f.cY) PLT)) w6.heap.size PLT (pl16 f.c f.r f.bY f.cY) := Ob.new_at _ _ rfl
    replace HP := HP.alloc (.cells (pl16 f.c f.r f.bY f.cY) PLT); replace HW := HW.alloc HW.size (.cells (pl16 f.c f.r f.bY f.cY) PLT)
    unfold pl16 at HW
    generalize w6.alloc (.cells #[.int .i64 (16 * (f.c : Int)), .int .i64 (16 * (f.r : Int)), .slice (some ⟨f.bY, 0, none⟩) (16 * f.c * (16 * f.r)) f.cY] PLT) = w7 at *
    generalize w6.heap.size = q at *
    have c0 : ∀ p : Regrown, (Sort.grow (redrawn w7 p.d) p.os).cell? ⟨q, 0, none⟩ = some (.int .i64 (16 * (f.c : Int))) := fun p => (HQ.re p).cell 0 rfl
    have c1 : ∀ p : Regrown, (Sort.grow (redrawn w7 p.d) p.os).cell? ⟨q, 1, none⟩ = some (.int .i64 (16 * (f.r : Int))) := fun p => (HQ.re p).cell 1 rfl
    have c2 : ∀ p : Regrown, (Sort.grow (redrawn w7 p.d) p.os).cell? ⟨q, 2, none⟩ = some (.slice (some ⟨f.bY, 0, none⟩) (16 * f.c * (16 * f.r)) f.cY) := fun p => (HQ.re p).cell 2 rfl
    have hc8 : f.c ≤ 8 := by omega
    have hr8 : f.r ≤ 8 := by omega
    refine wp_region_quiet_below (by kernel_rfl) (by kernel_rfl) ?_
    repeat (go_big_quiet_step ((go_at_call 34; exact Calls.regrown_of (ipAt16_any f.c f.r f.bY f.cY f.sY x y _ _ hc8 hr8 (HP.later (below_regrown _ _ _)) (by omega) (by omega) (by omega) (by omega)))))
    refine wpQuiet_nil ?_
    intro wq hwq
    replace hwq := Cls.below hwq
    replace HQ := HQ.later hwq; replace HP := HP.later hwq; replace HW := below_step HW hwq
    clear hwq c0 c1 c2
    go_wp2_with fail
    have hn1 := ipAt_near (16 * f.c) (16 * f.r) f.sY x y
    have hn2 := fun lo => ipAt_lo (16 * f.c) (16 * f.r) f.sY x y lo
    have hn3 := fun hi => ipAt_hi (16 * f.c) (16 * f.r) f.sY x y hi
    have hbd := fun x y => plAt_bd HP x y
    have hbu := ipAt_bd HP x y false
    have hbt := ipAt_bd HP x y true
    generalize hup : ipAt (16 * f.c) (16 * f.r) f.sY x y false = up at *
    generalize hdn : ipAt (16 * f.c) (16 * f.r) f.sY x y true = dn at *
    clear hup hdn
    replace hn1 := Lib.hid hn1; replace hn2 := Lib.hid hn2; replace hn3 := Lib.hid hn3; replace hbd := Lib.hid hbd
    have x1 : -16384 ≤ x / 2 ∧ x / 2 ≤ 16383 := by omega
    have y1 : -16384 ≤ y / 2 ∧ y / 2 ≤ 16383 := by omega
    obtain ⟨X, hX⟩ : ∃ X, x / 2 = X := ⟨_, rfl⟩
    obtain ⟨Y, hY⟩ : ∃ Y, y / 2 = Y := ⟨_, rfl⟩
    rw [hX] at x1; rw [hY] at y1
    obtain ⟨x1, x2⟩ := x1
    obtain ⟨y1, y2⟩ := y1
    go_loopw [13, 14, 60] (fun vl vh v wr => ∃ j : Nat, ∃ lo hi : Int, (j = 0 ∨ j = 1 ∨ j = 2) ∧ vl = .int .i64 lo ∧ vh = .int .i64 hi ∧ v = .int .i64 (j : Int) ∧ (0 ≤ lo ∧ lo ≤ 255 ∧ 0 ≤ hi ∧ hi ≤ 255) ∧ (∀ k, k < j → FlatG f X Y 0 k lo hi ∧ FlatG f X Y 1 k lo hi) ∧ Ob wr q PLT (pl16 f.c f.r f.bY f.cY) ∧ PB wr f.bY (16 * f.c * (16 * f.r)) f.sY ∧ Below w.heap.size w wr) (fun _ _ v _ => 2 - (intOf v).toNat)
    case atStart => exact ⟨0, 255, 0, Or.inl rfl, rfl, rfl, rfl, by omega, fun k hk => by omega, HQ, HP, HW⟩
    case round =>
      clear HQ HP HW
      obtain ⟨j, lo, hi, hj, rfl, rfl, rfl, hl, hg, HQ, HP, HW⟩ := hrel
      by_cases hlt : j < 2
      · have hd : decide ((j : Int) < 2) = true := by simp; omega
        go_wp2_with fail
        clear hd
        go_loopw [13, 14, 63] (fun vl vh v wr => ∃ i : Nat, ∃ l2 h2 : Int, (i = 0 ∨ i = 1 ∨ i = 2) ∧ vl = .int .i64 l2 ∧ vh = .int .i64 h2 ∧ v = .int .i64 (i : Int) ∧ (0 ≤ l2 ∧ l2 ≤ lo ∧ hi ≤ h2 ∧ h2 ≤ 255) ∧ (∀ k, k < i → FlatG f X Y k j l2 h2) ∧ Ob wr q PLT (pl16 f.c f.r f.bY f.cY) ∧ PB wr f.bY (16 * f.c * (16 * f.r)) f.sY ∧ Below w.heap.size w wr) (fun _ _ v _ => 2 - (intOf v).toNat)
        case atStart => exact ⟨0, lo, hi, Or.inl rfl, rfl, rfl, rfl, by omega, fun k hk => by omega, HQ, HP, HW⟩
        case round =>
          clear HQ HP HW
          obtain ⟨i, l2, h2, hi2, rfl, rfl, rfl, hl2, hg2, HQ, HP, HW⟩ := hrel
          replace hg2 := Lib.hid hg2; replace hg := Lib.hid hg
          by_cases hlt2 : i < 2
          · have hd : decide ((i : Int) < 2) = true := by simp; omega
            go_wp2_with (refine wpList_load_ob_g HQ rfl _ _ rfl rfl Try.underlying46 (by kernel_rfl) ?_)
            refine (at16_any f.c f.r f.bY f.cY f.sY _ _ _ hc8 hr8 HP).mono ?_
            rintro e w8 ⟨rfl, hb⟩
            replace HQ := HQ.later hb; replace HP := HP.later hb; replace HW := below_step HW hb
            clear hb
            have nb := hbd.out (X + (i : Int)) (Y + (j : Int))
            obtain ⟨N, hN⟩ : ∃ N, plAt (16 * f.c) (16 * f.r) f.sY (X + (i : Int)) (Y + (j : Int)) = N := ⟨_, rfl⟩
            rw [hN] at nb
            rw [hN]
            replace hN := Lib.hid hN
            go_wp2_with fail
            exact ⟨⟨i + 1, imin l2 N, imax h2 N, by omega, rfl, rfl, by go_num, by rw [imin_eq, imax_eq]; omega, fun k hk => (by
              rcases (show k < i ∨ k = i by omega) with h | rfl
              · exact (hg2.out k h).mono (by rw [imin_eq]; omega) (by rw [imax_eq]; omega)
              · unfold FlatG; rw [hN.out, imin_eq, imax_eq]; omega), HQ, HP, HW⟩, by simp [intOf]; omega⟩
          · obtain rfl : i = 2 := by omega
            go_wp2_with fail
            exact ⟨⟨j + 1, l2, h2, by omega, rfl, rfl, by go_num, by omega, fun k hk => (by
              rcases (show k < j ∨ k = j by omega) with h | rfl
              · exact ⟨(hg.out k h).1.mono (by omega) (by omega), (hg.out k h).2.mono (by omega) (by omega)⟩
              · exact ⟨hg2.out 0 (by omega), hg2.out 1 (by omega)⟩), HQ, HP, HW⟩, by simp [intOf]; omega⟩
      · obtain rfl : j = 2 := by omega
        obtain ⟨⟨g1, g2⟩, ⟨g3, g4⟩⟩ := hg 0 (by omega)
        obtain ⟨⟨g5, g6⟩, ⟨g7, g8⟩⟩ := hg 1 (by omega)
        simp only [Int.natCast_zero, Int.natCast_one, Int.add_zero] at g1 g2 g3 g4 g5 g6 g7 g8
        rw [hX, hY] at hn2 hn3
        have d1 : decide (dn ≤ up) = true := by simpa using hn1.out.1
        have d2 : decide (up ≤ dn + 1) = true := by simpa using hn1.out.2
        have d3 : decide (lo ≤ dn) = true := by simpa using hn2.out lo g1 g3 g5 g7
        have d4 : decide (up ≤ hi) = true := by simpa using hn3.out hi g2 g4 g6 g8
        clear g1 g2 g3 g4 g5 g6 g7 g8 hg
        go_wp2_with fail
        go_ret
        exact ⟨rfl, HW⟩
  · have hd : decide (n ≤ 2000) = false := by simpa using hn2
    go_wp2_with fail
    go_ret
    exact ⟨rfl, HW⟩
end Go.Proofs.Ytggdaefgaakijaa

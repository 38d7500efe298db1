/- The document's Touches, walked. -/
import Derived.Test.YtbldgpemocnboaaRefT
import Derived.Test.YtbldgpemocnboaaDm
namespace Go.Proofs.Ytbldgpemocnboaa
open Go.RowKit Go.Sort
attribute [local go_sem ↓] run_imax run_imin

theorem last_step {r0 R1 A a L : Int} (hR : R1 = imax r0 A) (h1 : r0 ≤ L) (h2 : L ≤ R1) (ha : a ≤ A) : r0 ≤ (if L < a then a else L) ∧ (if L < a then a else L) ≤ R1 ∧ ((a = A ∨ L = R1) → (if L < a then a else L) = R1) := by
  rw [imax_eq] at hR; split <;> omega
def RefToP (c r mb : Nat) (X Y : Nat → Int) (w : World) (e : Ending) (w' : World) : Prop :=
  ∃ (g : Nat) (F : Nat → Bool), e = .returned (.tuple #[.slice (some ⟨g, 0, none⟩) (c * r) (c * r), .int .i64 (reachTo c r mb X 5)]) ∧ w.heap.size ≤ g ∧ VB w' g 4 (c * r) (blv F) ∧ (∀ z, F z = true ↔ touched c r mb X Y z) ∧ Below w.heap.size w w'
/-- One more is true. -/
def orB (z0 : Nat) (F : Nat → Bool) (j : Nat) : Bool := decide (j = z0) || F j
theorem orB_iff {z0 z : Nat} {F : Nat → Bool} : orB z0 F z = true ↔ (F z = true ∨ z = z0) := by unfold orB; simp; exact or_comm
theorem szb_8 {k : Nat} (hk : k < 5) : szb k = if k = 4 then 8 else 16 := by unfold szb; split <;> split <;> omega

set_option maxRecDepth 1000000 in
set_option maxHeartbeats 16000000 in
theorem refTouches_any (c r mb : Nat) (al sk : Bool) (qp : Int) (X Y L : Nat → Int) (w : World) (h1 : 0 < c) (h2 : c ≤ 8) (h3 : 0 < r) (h4 : r ≤ 9) (hm : mb ≤ 1000000) (hV : V4b X Y) :
    Calls Try.prog 70 #[.int .i64 (c : Int), .int .i64 (r : Int), .int .i64 (mb : Int), .agg (fcells 395 (mcC al sk qp X Y L))] w (RefToP c r mb X Y w) := by
  replace hV := Lib.hid hV
  have hM8 : c * r ≤ 72 := Nat.mul_le_mul h2 h4
  have hMi : (c : Int) * (r : Int) = ((c * r : Nat) : Int) := by simp
  have hM0 : 0 ≤ (c : Int) * (r : Int) ∧ (c : Int) * (r : Int) ≤ 72 := by rw [hMi]; omega
  obtain ⟨hm0, hm1⟩ := hM0
  go_enter Try.func70, Try.ntmps70
  have HI : Blk (w.alloc (.cells (fcells 395 (mcC al sk qp X Y L)) M115)) w.heap.size M115 395 (mcC al sk qp X Y L) := Blk.new_at _ _ _ rfl
  have HW : Below w.heap.size w (w.alloc (.cells (fcells 395 (mcC al sk qp X Y L)) M115)) := by ((repeat (first | exact Below.refl _ _ | assumption | refine Below.setCell ?_ (by first | omega | (simp; done) | (simp; omega)) _ | refine Below.alloc ?_ (by first | omega | (simp; done) | (simp; omega)) _ | refine below_drewN ?_ _ | refine Below.drew ?_ | refine below_setRow ?_ (by first | omega | (simp; done) | (simp; omega)) _)))
  replace hMi := Lib.hid hMi
  go_wp2_with (refine wpList_make_vb rfl _ _ 55 rfl 4 (.bool false) 1 Try.underlying55 infoBool rfl .i64 .i64 _ _ (c * r) rfl rfl (by simp) (by simp) (by omega) (by unfold maxLen; omega) ?_)
  intro w1 hvb hb
  have HW1 : Below w.heap.size w w1 := HW.trans (hb.mono (by omega))
  replace HI := HI.below hb (by omega)
  have HB : VB w1 (w.heap.size + 1) 4 (c * r) (blv fun _ => false) := hvb
  clear hvb hb HW
  go_wp2_with fail
  go_loopw [11, 12] (fun m t wr => ∃ (k : Nat) (F : Nat → Bool), k ≤ 5 ∧ t = .int .i64 (k : Int) ∧ m = .int .i64 (reachTo c r mb X k) ∧ Hid (∀ z, F z = true ↔ sK c r mb X Y k z) ∧ Blk wr w.heap.size M115 395 (mcC al sk qp X Y L) ∧ VB wr (w.heap.size + 1) 4 (c * r) (blv F) ∧ Below w.heap.size w wr) (fun _ t _ => 5 - (intOf t).toNat)
  case atStart => exact ⟨0, _, by omega, rfl, rfl, Lib.hid (fun z => ⟨fun h => (by cases h), fun h => (sK_zero h).elim⟩), HI, HB, HW1⟩
  case round =>
    clear HI HB HW1
    obtain ⟨k, F, hk, rfl, rfl, hF, HI, HB, HW⟩ := hrel
    by_cases hk5 : k < 5
    · have hd : decide ((k : Int) < 5) = true := by simp; omega
      have hsz := szb_8 hk5
      have hS := szb_or k
      go_upto_if 36 with fail
      clear hd
      go_cut [13] (fun t wx => t = .int .i64 (szb k : Int) ∧ wx = wr)
      case first =>
        by_cases e4 : k = 4
        · have d4 : ((k : Int) == 4) = true := by simp; omega
          rw [if_pos e4] at hsz
          replace hsz := Lib.hid hsz; replace e4 := Lib.hid e4
          go_wp2_with fail
          go_meet
          exact ⟨by rw [hsz.out]; rfl, rfl⟩
        · have d4 : ((k : Int) == 4) = false := by simp; omega
          rw [if_neg e4] at hsz
          replace hsz := Lib.hid hsz; replace e4 := Lib.hid e4
          go_wp2_with fail
          go_meet
          exact ⟨by rw [hsz.out]; rfl, rfl⟩
      case rest =>
        obtain ⟨rfl, rfl⟩ := hcut
        obtain ⟨⟨v1, v2⟩, v3, v4⟩ := vk_bd hV.out k
        obtain ⟨p1, p2, p3, p4⟩ := (fz c r).pxy_bd (k := k) hm (by omega)
        have hpl := fun W => place_any c r mb k W h1 h2 hm (by omega)
        have hvc := fun W => refVector_any al sk qp X Y L k W (by omega) hV.out
        have hst := colV_step (c := c) (r := r) (mb := mb) (X := X) (k := k)
        obtain ⟨rb1, rb2⟩ := reachTo_bd (r := r) (mb := mb) (X := X) h1 h2 k
        obtain ⟨rb3, rb4⟩ := reachTo_bd (r := r) (mb := mb) (X := X) h1 h2 (k + 1)
        have hS1 := szc h1 k; have hS2 := szc h3 k
        have hS3 : (szb k : Int) * c ≤ 128 ∧ (szb k : Int) * r ≤ 144 := by rcases hS with h | h <;> rw [h] <;> omega
        obtain ⟨hS3, hS4⟩ := hS3
        have hflx : ∀ (i : Nat) W, Calls Try.prog 111 #[.int .i64 (2 * ((fz c r).px mb k + (i : Int) % 8) + vk X k)] W fun e w' => e = .returned (.tuple #[.int .i64 (fX c r mb X k + ((i % 8 : Nat) : Int)), .int .i64 (gH X k : Int)]) ∧ w' = W := fun i W => by
          have hq := fl_x (c := c) (r := r) (mb := mb) (X := X) (k := k) (i % 8)
          rw [show (((i % 8 : Nat)) : Int) = (i : Int) % 8 by simp] at hq ⊢
          rw [← hq.1, ← hq.2]
          exact (floor_any _ W (by omega) (by omega)).mono fun e w' h => ⟨h.1, h.2.symm⟩
        have hfly : ∀ (i : Nat) W, i < 64 → Calls Try.prog 111 #[.int .i64 (2 * ((fz c r).py mb k + (i : Int) / 8) + vk Y k)] W fun e w' => e = .returned (.tuple #[.int .i64 (fY c r mb Y k + ((i / 8 : Nat) : Int)), .int .i64 (gH Y k : Int)]) ∧ w' = W := fun i W hi => by
          have hq := fl_y (c := c) (r := r) (mb := mb) (Y := Y) (k := k) (i / 8)
          rw [show (((i / 8 : Nat)) : Int) = (i : Int) / 8 by simp] at hq ⊢
          rw [← hq.1, ← hq.2]
          exact (floor_any _ W (by omega) (by omega)).mono fun e w' h => ⟨h.1, h.2.symm⟩
        have gx := (gH_le X k).1; have gy := (gH_le Y k).1
        have fxb : -1000 ≤ fX c r mb X k ∧ fX c r mb X k ≤ 17000000 := by unfold fX; omega
        have fyb : -1000 ≤ fY c r mb Y k ∧ fY c r mb Y k ≤ 17000000 := by unfold fY; omega
        have hF0 : Hid (∀ z, F z = true ↔ sI c r mb X Y k 0 z) := Lib.hid fun z => by rw [sI_zero]; exact hF.out z
        replace hpl := Lib.hid hpl; replace hvc := Lib.hid hvc; replace hst := Lib.hid hst; replace hflx := Lib.hid hflx; replace hfly := Lib.hid hfly; replace hsz := Lib.hid hsz
        obtain ⟨R0, hR0⟩ : ∃ R0, reachTo c r mb X k = R0 := ⟨_, rfl⟩
        obtain ⟨R1, hR1⟩ : ∃ R1, reachTo c r mb X (k + 1) = R1 := ⟨_, rfl⟩
        rw [hR0] at rb1 rb2 ⊢; rw [hR1] at rb3 rb4
        replace hR0 := Lib.hid hR0; replace hR1 := Lib.hid hR1
        have hR01 : R0 ≤ R1 := by rw [← hR0.out, ← hR1.out, hst.out, imax_eq]; omega
        go_wp2_with fail
        refine (hpl.out _).mono ?_
        rintro e w3 ⟨rfl, hb⟩
        replace HI := HI.later hb; replace HB := HB.later hb; replace HW := below_step HW hb
        clear hb
        go_wp2_with (refine wpList_load_blkM HI rfl M115 _ rfl rfl Try.underlying115 (by kernel_rfl) ?_)
        refine (hvc.out _).mono ?_
        rintro e w4 ⟨rfl, hb⟩
        replace HI := HI.later hb; replace HB := HB.later hb; replace HW := below_step HW hb
        clear hb hF
        generalize hPX : (fz c r).px mb k = PX at *
        generalize hPY : (fz c r).py mb k = PY at *
        generalize hDX : vk X k = DX at *
        generalize hDY : vk Y k = DY at *
        clear hPX hPY hDX hDY
        obtain ⟨S, hSe⟩ : ∃ S, szb k = S := ⟨_, rfl⟩
        rw [hSe] at hS hS1 hS2 hS3 hS4 ⊢
        replace hSe := Lib.hid hSe
        generalize hGX : gH X k = GX at *
        generalize hGY : gH Y k = GY at *
        replace hGX := Lib.hid hGX; replace hGY := Lib.hid hGY
        have S1 : (8 : Int) ≤ (S : Int) := by omega
        have S2 : (S : Int) ≤ 16 := by omega
        have hz : ((S : Int) == 0) = false := by simp; omega
        go_wp2_with fail
        go_loopw [11, 18] (fun m t wr => ∃ (i : Nat) (F : Nat → Bool) (l : Int), i ≤ 64 ∧ t = .int .i64 (i : Int) ∧ m = .int .i64 l ∧ R0 ≤ l ∧ l ≤ R1 ∧ Hid (8 ≤ i → l = R1) ∧ Hid (∀ z, F z = true ↔ sI c r mb X Y k i z) ∧ Blk wr w.heap.size M115 395 (mcC al sk qp X Y L) ∧ VB wr (w.heap.size + 1) 4 (c * r) (blv F) ∧ Below w.heap.size w wr) (fun _ t _ => 64 - (intOf t).toNat)
        case atStart => exact ⟨0, F, R0, by omega, rfl, rfl, Int.le_refl _, hR01, Lib.hid (by omega), hF0, HI, HB, HW⟩
        case round =>
          clear HI HB HW hF0
          clear F
          obtain ⟨i, F, l, hi, rfl, rfl, hl0, hl1, hl2, hF, HI, HB, HW⟩ := hrel
          by_cases hi64 : i < 64
          · have hd : decide ((i : Int) < 64) = true := by simp; omega
            have i0 : (0 : Int) ≤ (i : Int) := by omega
            have i1 : (i : Int) < 64 := by omega
            have hF0 : Hid (∀ z, F z = true ↔ sJ c r mb X Y k i 0 z) := Lib.hid fun z => by rw [sJ_zero]; exact hF.out z
            have hfx := hflx.out i
            have hfy := fun W => hfly.out i W hi64
            obtain ⟨xs, hxs⟩ : ∃ xs, fX c r mb X k + ((i % 8 : Nat) : Int) = xs := ⟨_, rfl⟩
            obtain ⟨ys, hys⟩ : ∃ ys, fY c r mb Y k + ((i / 8 : Nat) : Int) = ys := ⟨_, rfl⟩
            have xb : -1000 ≤ xs ∧ xs ≤ 17000100 := by omega
            have yb : -1000 ≤ ys ∧ ys ≤ 17000100 := by omega
            rw [hxs] at hfx
            simp only [hys] at hfy
            obtain ⟨xb1, xb2⟩ := xb; obtain ⟨yb1, yb2⟩ := yb
            replace hxs := Lib.hid hxs; replace hys := Lib.hid hys; replace hfx := Lib.hid hfx; replace hfy := Lib.hid hfy
            go_wp2_with fail
            refine (hfx.out _).mono ?_
            rintro e w5 ⟨rfl, rfl⟩
            go_wp2_with fail
            refine (hfy.out _).mono ?_
            rintro e w6 ⟨rfl, rfl⟩
            clear hfx hfy
            clear hd hF
            go_wp2_with fail
            go_loopw [11, 23] (fun m t wr => ∃ (j : Nat) (F : Nat → Bool) (l : Int), j ≤ GY + 1 ∧ t = .int .i64 (j : Int) ∧ m = .int .i64 l ∧ R0 ≤ l ∧ l ≤ R1 ∧ Hid ((8 ≤ i ∨ (i = 7 ∧ 1 ≤ j)) → l = R1) ∧ Hid (∀ z, F z = true ↔ sJ c r mb X Y k i j z) ∧ Blk wr w.heap.size M115 395 (mcC al sk qp X Y L) ∧ VB wr (w.heap.size + 1) 4 (c * r) (blv F) ∧ Below w.heap.size w wr) (fun _ t _ => GY + 1 - (intOf t).toNat)
            case atStart => exact ⟨0, F, l, by omega, rfl, rfl, hl0, hl1, Lib.hid (fun h => hl2.out (by omega)), hF0, HI, HB, HW⟩
            case round =>
              clear HI HB HW hF0 hl0 hl1 hl2
              obtain ⟨j, F, l, hj, rfl, rfl, hl0, hl1, hl2, hF, HI, HB, HW⟩ := hrel
              by_cases hjG : j ≤ GY
              · have hd : decide ((j : Int) ≤ (GY : Int)) = true := by simp; omega
                have hF0 : Hid (∀ z, F z = true ↔ sH c r mb X Y k i j 0 z) := Lib.hid fun z => by rw [sH_zero]; exact hF.out z
                clear hF
                go_wp2_with fail
                clear hd
                go_loopw [11, 24] (fun m t wr => ∃ (h : Nat) (F : Nat → Bool) (l : Int), h ≤ GX + 1 ∧ t = .int .i64 (h : Int) ∧ m = .int .i64 l ∧ R0 ≤ l ∧ l ≤ R1 ∧ Hid ((8 ≤ i ∨ (i = 7 ∧ 1 ≤ j) ∨ (i = 7 ∧ GX < h)) → l = R1) ∧ Hid (∀ z, F z = true ↔ sH c r mb X Y k i j h z) ∧ Blk wr w.heap.size M115 395 (mcC al sk qp X Y L) ∧ VB wr (w.heap.size + 1) 4 (c * r) (blv F) ∧ Below w.heap.size w wr) (fun _ t _ => GX + 1 - (intOf t).toNat)
                case atStart => exact ⟨0, F, l, by omega, rfl, rfl, hl0, hl1, Lib.hid (fun h => hl2.out (by omega)), hF0, HI, HB, HW⟩
                case round =>
                  clear HI HB HW hF0 hl0 hl1 hl2
                  obtain ⟨h, F, l, hh, rfl, rfl, hl0, hl1, hl2, hF, HI, HB, HW⟩ := hrel
                  by_cases hhG : h ≤ GX
                  · have hd : decide ((h : Int) ≤ (GX : Int)) = true := by simp; omega
                    have hax := clX_bd h1 k (xs + h)
                    have hay := clX_bd h3 k (ys + j)
                    have hcx : clX c k (xs + h) = imin (imax (xs + h) 0) ((S : Int) * (c : Int) - 1) := by unfold clX; rw [hSe.out]
                    have hcy : clX r k (ys + j) = imin (imax (ys + j) 0) ((S : Int) * (r : Int) - 1) := by unfold clX; rw [hSe.out]
                    rw [hSe.out] at hax hay
                    have q1 := q_lt (n := c) hS hax.1 hax.2
                    have q2 := q_lt (n := r) hS hay.1 hay.2
                    have hin1 : ∀ W, Calls Try.prog 112 #[.int .i64 (xs + (h : Int)), .int .i64 ((S : Int) * (c : Int))] W fun e w' => e = .returned (.int .i64 (((clX c k (xs + h)).toNat : Nat) : Int)) ∧ w' = W := fun W => by
                      rw [Int.toNat_of_nonneg hax.1, hcx]; exact inside_any _ _ W (by omega) (by omega)
                    have hin2 : ∀ W, Calls Try.prog 112 #[.int .i64 (ys + (j : Int)), .int .i64 ((S : Int) * (r : Int))] W fun e w' => e = .returned (.int .i64 (((clX r k (ys + j)).toNat : Nat) : Int)) ∧ w' = W := fun W => by
                      rw [Int.toNat_of_nonneg hay.1, hcy]; exact inside_any _ _ W (by omega) (by omega)
                    have hz0 : (clX r k (ys + j)).toNat / S * c + (clX c k (xs + h)).toNat / S = smpAt c r mb X Y k i j h := by
                      unfold smpAt mbS
                      rw [hxs.out, hys.out]
                      show _ = (clX r k (ys + (j : Int))).toNat / szb k * c + (clX c k (xs + (h : Int))).toNat / szb k
                      rw [hSe.out]
                    have hzl := nat_rowR (r := r) (c := c) q2 q1
                    have hcol : colV k (((clX c k (xs + h)).toNat : Nat) : Int) ≤ colV k (tx1 c r mb X k) := by
                      rw [Int.toNat_of_nonneg hax.1, ← hxs.out]
                      exact colV_le h1 (by omega) (by rw [hGX.out]; exact hhG)
                    have hhit : i = 7 → h = GX → colV k (((clX c k (xs + h)).toNat : Nat) : Int) = colV k (tx1 c r mb X k) := by
                      intro e1 e2
                      rw [Int.toNat_of_nonneg hax.1, ← hxs.out, e1, e2, ← hGX.out]
                      exact colV_hit h1
                    obtain ⟨ls1, ls2, ls3⟩ := last_step (show R1 = imax R0 (colV k (tx1 c r mb X k)) by rw [← hR1.out, ← hR0.out]; exact hst.out) hl0 hl1 hcol
                    have hl3 : (8 ≤ i ∨ (i = 7 ∧ 1 ≤ j) ∨ (i = 7 ∧ GX < h + 1)) → (if l < colV k (((clX c k (xs + h)).toNat : Nat) : Int) then colV k (((clX c k (xs + h)).toNat : Nat) : Int) else l) = R1 := fun hq => ls3 (by
                      by_cases e1 : i = 7 ∧ h = GX
                      · exact Or.inl (hhit e1.1 e1.2)
                      · exact Or.inr (hl2.out (by omega)))
                    clear hcx hcy hcol hhit ls3
                    generalize hax2 : (clX c k (xs + h)).toNat = ax at *
                    generalize hay2 : (clX r k (ys + j)).toNat = ay at *
                    have axb : ax ≤ 127 := by omega
                    have ayb : ay ≤ 143 := by omega
                    clear hax2 hay2 hax hay
                    have eax : (ax : Int) / (S : Int) = ((ax / S : Nat) : Int) := (Int.natCast_ediv ax S).symm
                    have eay : (ay : Int) / (S : Int) = ((ay / S : Nat) : Int) := (Int.natCast_ediv ay S).symm
                    have eax2 : (ax : Int).tdiv (S : Int) = ((ax / S : Nat) : Int) := rfl
                    have eay2 : (ay : Int).tdiv (S : Int) = ((ay / S : Nat) : Int) := rfl
                    generalize ax / S = aq at *
                    generalize ay / S = bq at *
                    have hbq : 0 ≤ (bq : Int) * (c : Int) ∧ (bq : Int) * (c : Int) ≤ 64 := by
                      rw [← Int.natCast_mul]
                      have : bq * c ≤ 8 * 8 := Nat.mul_le_mul (by omega) h2
                      omega
                    obtain ⟨bq1, bq2⟩ := hbq
                    have w1 : IntKind.i64.wrap ((bq : Int) * (c : Int)) = (bq : Int) * (c : Int) := IntWalk.i64_in _ (by omega)
                    have w2 : IntKind.i64.wrap ((bq : Int) * (c : Int) + (aq : Int)) = ((bq * c + aq : Nat) : Int) := by
                      rw [Int.natCast_add, Int.natCast_mul]; exact IntWalk.i64_in _ (by omega)
                    obtain ⟨z0, hz0e⟩ : ∃ z0, bq * c + aq = z0 := ⟨_, rfl⟩
                    rw [hz0e] at w2 hz0 hzl
                    replace hin1 := Lib.hid hin1; replace hin2 := Lib.hid hin2; replace hz0 := Lib.hid hz0; replace hl3 := Lib.hid hl3; replace hz0e := Lib.hid hz0e
                    go_wp2_with fail
                    refine (hin1.out _).mono ?_
                    rintro e w7 ⟨rfl, rfl⟩
                    go_wp2_with fail
                    refine (hin2.out _).mono ?_
                    rintro e w8 ⟨rfl, rfl⟩
                    clear hin1 hin2 hd
                    go_wp2_with fail
                    apply wp_region_tail_drew 10
                    case hm => kernel_rfl
                    case hB => kernel_rfl
                    case hno => kernel_rfl
                    case hF =>
                      simp only [List.take_succ_cons, List.take_zero]
                      repeat (go_big_quiet_step (fail))
                      exact wpQuiet_nil rfl
                    case hT =>
                      intro nq
                      simp only [List.drop_succ_cons, List.drop_zero]
                      clear w1 w2 eax eay eax2 eay2 bq1 bq2
                      replace HI := HI.drewN nq; replace HB := HB.drewN nq; replace HW := below_drewN HW nq
                      generalize w8.drewN nq = w9 at *
                      have c9 := HB.cell hzl
                      have f9 := HB.free z0
                      unfold blv at c9
                      have z1 : (0 : Int) ≤ (z0 : Int) := by omega
                      have z2 : (z0 : Int) < ((c * r : Nat) : Int) := by omega
                      go_upto_if 112 with fail
                      generalize hw10 : w9.setCell ⟨w.heap.size + 1, z0, none⟩ (.bool true) = w10
                      replace HI : Blk w10 w.heap.size M115 395 (mcC al sk qp X Y L) := by rw [← hw10]; exact HI.other (by omega) _ _
                      replace HB : VB w10 (w.heap.size + 1) 4 (c * r) (blv (orB z0 F)) := by
                        rw [← hw10]
                        exact (HB.set z0 (.bool true)).congr fun q _ => by
                          unfold blv orB
                          by_cases e : q = z0
                          · rw [if_pos e]; simp [e]
                          · rw [if_neg e]; simp [e]
                      replace HW : Below w.heap.size w w10 := by rw [← hw10]; exact HW.setCell (by show w.heap.size ≤ w.heap.size + 1; omega) _
                      clear hw10 c9 f9 z1 z2
                      have hF0 : Hid (∀ z, orB z0 F z = true ↔ sH c r mb X Y k i j (h + 1) z) := Lib.hid fun z => by rw [orB_iff, sH_step, hF.out z, hz0.out]
                      clear hF
                      by_cases e4 : k = 4
                      · have eS : S = 8 := by have := hsz.out; rw [if_pos e4] at this; rw [← hSe.out]; exact this
                        have d4 : ((S : Int) == 8) = true := by simp; omega
                        have ecv : colV k (ax : Int) = 2 * (ax : Int) + 1 := by unfold colV; rw [if_pos e4]
                        have hl3 := hl3.out
                        rw [ecv] at ls1 ls2 hl3
                        replace ecv := Lib.hid ecv; replace e4 := Lib.hid e4; replace eS := Lib.hid eS; replace hl3 := Lib.hid hl3
                        by_cases hgt : l < 2 * (ax : Int) + 1
                        · rw [if_pos hgt] at ls1 ls2
                          have hl4 := hl3.out
                          rw [if_pos hgt] at hl4
                          replace hl4 := Lib.hid hl4
                          clear hl3
                          go_wp2_with fail
                          exact ⟨⟨h + 1, _, _, by omega, by go_num, rfl, ls1, ls2, hl4, hF0, HI, HB, HW⟩, by simp [intOf]; omega⟩
                        · rw [if_neg hgt] at ls1 ls2
                          have hl4 := hl3.out
                          rw [if_neg hgt] at hl4
                          replace hl4 := Lib.hid hl4
                          clear hl3
                          go_wp2_with fail
                          exact ⟨⟨h + 1, _, _, by omega, by go_num, rfl, ls1, ls2, hl4, hF0, HI, HB, HW⟩, by simp [intOf]; omega⟩
                      · have eS : S = 16 := by have := hsz.out; rw [if_neg e4] at this; rw [← hSe.out]; exact this
                        have d4 : ((S : Int) == 8) = false := by simp; omega
                        have ecv : colV k (ax : Int) = (ax : Int) := by unfold colV; rw [if_neg e4]
                        have hl3 := hl3.out
                        rw [ecv] at ls1 ls2 hl3
                        replace ecv := Lib.hid ecv; replace e4 := Lib.hid e4; replace eS := Lib.hid eS; replace hl3 := Lib.hid hl3
                        by_cases hgt : l < (ax : Int)
                        · rw [if_pos hgt] at ls1 ls2
                          have hl4 := hl3.out
                          rw [if_pos hgt] at hl4
                          replace hl4 := Lib.hid hl4
                          clear hl3
                          go_wp2_with fail
                          exact ⟨⟨h + 1, _, _, by omega, by go_num, rfl, ls1, ls2, hl4, hF0, HI, HB, HW⟩, by simp [intOf]; omega⟩
                        · rw [if_neg hgt] at ls1 ls2
                          have hl4 := hl3.out
                          rw [if_neg hgt] at hl4
                          replace hl4 := Lib.hid hl4
                          clear hl3
                          go_wp2_with fail
                          exact ⟨⟨h + 1, _, _, by omega, by go_num, rfl, ls1, ls2, hl4, hF0, HI, HB, HW⟩, by simp [intOf]; omega⟩
                  · obtain rfl : h = GX + 1 := by omega
                    have hd : decide (((GX + 1 : Nat) : Int) ≤ (GX : Int)) = false := decide_eq_false (by omega)
                    have hF0 : Hid (∀ z, F z = true ↔ sJ c r mb X Y k i (j + 1) z) := Lib.hid fun z => by rw [← sH_last (by rw [hGX.out])]; exact hF.out z
                    clear hF
                    go_wp2_with fail
                    exact ⟨⟨j + 1, F, l, by omega, by go_num, rfl, hl0, hl1, Lib.hid (fun h => hl2.out (by omega)), hF0, HI, HB, HW⟩, by simp [intOf]; omega⟩
              · obtain rfl : j = GY + 1 := by omega
                have hd : decide (((GY + 1 : Nat) : Int) ≤ (GY : Int)) = false := decide_eq_false (by omega)
                have hF0 : Hid (∀ z, F z = true ↔ sI c r mb X Y k (i + 1) z) := Lib.hid fun z => by rw [← sJ_last (by rw [hGY.out])]; exact hF.out z
                clear hF
                go_wp2_with fail
                exact ⟨⟨i + 1, F, l, by omega, by go_num, rfl, hl0, hl1, Lib.hid (fun h => hl2.out (by omega)), hF0, HI, HB, HW⟩, by simp [intOf]; omega⟩
          · obtain rfl : i = 64 := by omega
            have hd : decide (((64 : Nat) : Int) < 64) = false := by decide
            have hF0 : Hid (∀ z, F z = true ↔ sK c r mb X Y (k + 1) z) := Lib.hid fun z => by rw [← sI_last]; exact hF.out z
            have hlR := hl2.out (by omega)
            subst hlR
            clear hF hl2
            go_wp2_with fail
            exact ⟨⟨k + 1, F, by omega, by go_num, by rw [hR1.out], hF0, HI, HB, HW⟩, by simp [intOf]; omega⟩
    · obtain rfl : k = 5 := by omega
      have hd : decide (((5 : Nat) : Int) < 5) = false := by decide
      go_wp2_with fail
      go_ret2
      exact ⟨w.heap.size + 1, F, rfl, by omega, HB, fun z => by rw [hF.out z, sK_touched h1 h3], HW⟩
end Go.Proofs.Ytbldgpemocnboaa

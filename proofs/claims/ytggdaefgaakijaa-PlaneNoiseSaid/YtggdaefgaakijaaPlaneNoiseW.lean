/- The walk of the law PlaneNoise: true at every input (printed by wip/tools/pnoise.py). -/
import Derived.Test.YtggdaefgaakijaaSum1
import Derived.Test.YtggdaefgaakijaaFrRe
import Derived.Test.YtggdaefgaakijaaInterpMovesW
namespace Go.Proofs.Ytggdaefgaakijaa
open Go.RowKit Go.Sort
attribute [local go_sem ↓] run_imax run_imin

theorem sumTo_zip (g h : Nat → Int) : ∀ n, sumTo (fun k => g k + h k) n = sumTo g n + sumTo h n
  | 0 => by simp [sumTo]
  | n + 1 => by
    show sumTo (fun k => g k + h k) n + (g n + h n) = sumTo g n + g n + (sumTo h n + h n)
    rw [sumTo_zip g h n]; omega
theorem sumTo_add (g : Nat → Int) (n : Nat) : ∀ m, sumTo g (n + m) = sumTo g n + sumTo (fun k => g (n + k)) m
  | 0 => by simp [sumTo]
  | m + 1 => by
    show sumTo g (n + m) + g (n + m) = sumTo g n + (sumTo (fun k => g (n + k)) m + g (n + m))
    rw [sumTo_add g n m]; omega
theorem sumTo_mul8 (G : Nat → Nat → Int) : ∀ m, sumTo (fun i => G (i % 8) (i / 8)) (8 * m) = sumTo (fun b => sumTo (fun a => G a b) 8) m
  | 0 => by simp [sumTo]
  | m + 1 => by
    rw [show 8 * (m + 1) = 8 * m + 8 from by omega, sumTo_add, sumTo_mul8 G m]
    show _ = _ + _
    congr 1
    exact sumTo_congr 8 fun k hk => by rw [show (8 * m + k) % 8 = k by omega, show (8 * m + k) / 8 = m by omega]
/-- The sum of a macroblock's light, row by row. -/
def all16 (f : Fr) (mb : Nat) : Nat → Int := sumTo fun j => sumTo (fun i => plAt (16 * f.c) (16 * f.r) f.sY (16 * ((mb : Int) % (f.c : Int)) + (i : Int)) (16 * ((mb : Int) / (f.c : Int)) + (j : Int))) 16
theorem mid_all (f : Fr) (mb : Nat) : midS f mb 4 = all16 f mb 16 := by
  have hb : ∀ k, sumTo (lightF f mb k) 64 = sumTo (fun b => sumTo (fun a => plAt (16 * f.c) (16 * f.r) f.sY (16 * ((mb : Int) % (f.c : Int)) + 8 * ((k : Int) % 2) + (a : Int)) (16 * ((mb : Int) / (f.c : Int)) + 8 * ((k : Int) / 2) + (b : Int))) 8) 8 := fun k =>
    sumTo_mul8 (fun a b => plAt (16 * f.c) (16 * f.r) f.sY (16 * ((mb : Int) % (f.c : Int)) + 8 * ((k : Int) % 2) + (a : Int)) (16 * ((mb : Int) / (f.c : Int)) + 8 * ((k : Int) / 2) + (b : Int))) 8
  have hr : ∀ j, sumTo (fun i => plAt (16 * f.c) (16 * f.r) f.sY (16 * ((mb : Int) % (f.c : Int)) + (i : Int)) (16 * ((mb : Int) / (f.c : Int)) + (j : Int))) 16 = sumTo (fun i => plAt (16 * f.c) (16 * f.r) f.sY (16 * ((mb : Int) % (f.c : Int)) + (i : Int)) (16 * ((mb : Int) / (f.c : Int)) + (j : Int))) 8 + sumTo (fun i => plAt (16 * f.c) (16 * f.r) f.sY (16 * ((mb : Int) % (f.c : Int)) + ((8 + i : Nat) : Int)) (16 * ((mb : Int) / (f.c : Int)) + (j : Int))) 8 := fun j => by
    exact sumTo_add _ 8 8
  have hm : midS f mb 4 = sumTo (lightF f mb 0) 64 + sumTo (lightF f mb 1) 64 + sumTo (lightF f mb 2) 64 + sumTo (lightF f mb 3) 64 := by
    show 0 + sumTo (lightF f mb 0) 64 + sumTo (lightF f mb 1) 64 + sumTo (lightF f mb 2) 64 + sumTo (lightF f mb 3) 64 = _; omega
  rw [hm, hb, hb, hb, hb]
  unfold all16
  simp only [hr]
  have h16 : ∀ g : Nat → Int, sumTo g 16 = sumTo g 8 + sumTo (fun k => g (8 + k)) 8 := fun g => sumTo_add g 8 8
  rw [sumTo_zip, h16, h16]
  have e : ∀ (x0 y0 x1 y1 : Nat → Int), (∀ a, x0 a = x1 a) → (∀ b, y0 b = y1 b) → sumTo (fun b => sumTo (fun a => plAt (16 * f.c) (16 * f.r) f.sY (x0 a) (y0 b)) 8) 8 = sumTo (fun b => sumTo (fun a => plAt (16 * f.c) (16 * f.r) f.sY (x1 a) (y1 b)) 8) 8 := fun x0 y0 x1 y1 h1 h2 => by
    refine sumTo_congr _ fun b _ => sumTo_congr _ fun a _ => by rw [h1, h2]
  rw [e (fun a => 16 * ((mb : Int) % (f.c : Int)) + 8 * (((0 : Nat) : Int) % 2) + (a : Int)) (fun b => 16 * ((mb : Int) / (f.c : Int)) + 8 * (((0 : Nat) : Int) / 2) + (b : Int)) (fun a => 16 * ((mb : Int) % (f.c : Int)) + (a : Int)) (fun b => 16 * ((mb : Int) / (f.c : Int)) + (b : Int)) (fun a => by simp) (fun b => by simp),
    e (fun a => 16 * ((mb : Int) % (f.c : Int)) + 8 * (((1 : Nat) : Int) % 2) + (a : Int)) (fun b => 16 * ((mb : Int) / (f.c : Int)) + 8 * (((1 : Nat) : Int) / 2) + (b : Int)) (fun a => 16 * ((mb : Int) % (f.c : Int)) + ((8 + a : Nat) : Int)) (fun b => 16 * ((mb : Int) / (f.c : Int)) + (b : Int)) (fun a => by simp; omega) (fun b => by simp),
    e (fun a => 16 * ((mb : Int) % (f.c : Int)) + 8 * (((2 : Nat) : Int) % 2) + (a : Int)) (fun b => 16 * ((mb : Int) / (f.c : Int)) + 8 * (((2 : Nat) : Int) / 2) + (b : Int)) (fun a => 16 * ((mb : Int) % (f.c : Int)) + (a : Int)) (fun b => 16 * ((mb : Int) / (f.c : Int)) + ((8 + b : Nat) : Int)) (fun a => by simp) (fun b => by simp; omega),
    e (fun a => 16 * ((mb : Int) % (f.c : Int)) + 8 * (((3 : Nat) : Int) % 2) + (a : Int)) (fun b => 16 * ((mb : Int) / (f.c : Int)) + 8 * (((3 : Nat) : Int) / 2) + (b : Int)) (fun a => 16 * ((mb : Int) % (f.c : Int)) + ((8 + a : Nat) : Int)) (fun b => 16 * ((mb : Int) / (f.c : Int)) + ((8 + b : Nat) : Int)) (fun a => by simp; omega) (fun b => by simp; omega)]
  omega
theorem slF_at {W H : Nat} {fr ri dn : Int} {s : Nat → Int} {i j : Nat} (hi : i < W) (hj : j < H) : plAt W H (slF W fr ri dn (W * H) s) (i : Int) (j : Int) = slV fr ri dn i j := by
  unfold plAt
  rw [if_neg (by omega), cl_in (by omega) (by omega), cl_in (by omega) (by omega)]
  simp only [Int.toNat_natCast]
  have e1 : (j * W + i) % W = i := by rw [Nat.mul_comm, Nat.mul_add_mod]; exact Nat.mod_eq_of_lt hi
  have e2 : (j * W + i) / W = j := by rw [Nat.mul_comm, Nat.mul_add_div (by omega), Nat.div_eq_of_lt hi]; rfl
  have e3 : j * W + i < W * H := by
    calc j * W + i < j * W + W := by omega
      _ = (j + 1) * W := by rw [Nat.add_mul, Nat.one_mul]
      _ ≤ H * W := Nat.mul_le_mul_right _ (by omega)
      _ = W * H := Nat.mul_comm _ _
  unfold slF
  rw [if_pos e3, e1, e2]
/-- A plane's samples, taken out of its value. -/
theorem plane_fieldS (a b c : Value) (w : World) : (Instr.field PLT (.agg #[a, b, c]) 2).run Try.prog w = .ok c w := by kernel_rfl

set_option maxRecDepth 1000000 in
set_option maxHeartbeats 8000000 in
theorem planeNoise_walk (co ro ki a b c sd0 : Int) (p : Option Addr) (n m : Nat) (sl : Nat → Int) (sd mo fr ri dn : Int) (w : World) (hw : SmallW co ro ki a b c sd0 n sl) (hn : n ≤ maxLen) (hS : SL w p n (u8v sl))
    (hsd : 0 ≤ sd ∧ sd < 4294967296) (hfr : -32768 ≤ fr ∧ fr ≤ 32767) (hri : -32768 ≤ ri ∧ ri ≤ 32767) (hdn : -32768 ≤ dn ∧ dn ≤ 32767) :
    Calls Try.prog 11 #[smV co ro ki a b c sd0 p n m, .int .u32 sd, .int .i64 mo, .int .i16 fr, .int .i16 ri, .int .i16 dn] w fun e w' => e = .returned (.bool true) ∧ Below w.heap.size w w' := by
  replace hw := Lib.hid hw; replace hS := Lib.hid hS
  have HB0 : Ob (w.alloc (.cells (smC co ro ki a b c sd0 p n m) SMT)) w.heap.size SMT (smC co ro ki a b c sd0 p n m) := Ob.new_at _ _ rfl
  unfold smV
  unfold smC at *
  go_enter Try.func11, Try.ntmps11
  go_wp2_with fail
  have HW0 : Below w.heap.size w (w.alloc (.cells (smC co ro ki a b c sd0 p n m) SMT)) := by ((repeat (first | exact Below.refl _ _ | assumption | refine Below.setCell ?_ (by first | omega | (simp; done) | (simp; omega)) _ | refine Below.alloc ?_ (by first | omega | (simp; done) | (simp; omega)) _ | refine below_drewN ?_ _ | refine Below.drew ?_ | refine below_setRow ?_ (by first | omega | (simp; done) | (simp; omega)) _)))
  unfold smC at HW0
  refine (awake6 _).mono ?_
  rintro e w1 ⟨rfl, hb⟩
  have HB := HB0.later hb; have HW := below_step HW0 hb
  clear hb HB0 HW0
  go_wp2_with (refine wpList_load_ob_g HB rfl _ _ rfl rfl Try.underlying54 (by kernel_rfl) ?_)
  refine (light_any co ro ki a b c sd0 p n m _ hn).mono ?_
  rintro e w2 ⟨rfl, hb⟩
  replace HB := HB.later hb; replace HW := below_step HW hb
  clear hb
  by_cases hn2 : n ≤ 2000
  case neg =>
    have hd : decide (n ≤ 2000) = false := by simpa using hn2
    go_wp2_with fail
    go_ret
    exact ⟨rfl, HW⟩
  have hd : decide (n ≤ 2000) = true := by simpa using hn2
  go_wp2_with (refine wpList_load_ob_g HB rfl _ _ rfl rfl Try.underlying54 (by kernel_rfl) ?_)
  refine (smallW_any hw.out hn2 (sl_later hS.out HW)).mono ?_
  rintro e w3 ⟨f, rfl, f1, f2, f3, f4, hM, -, hb⟩
  replace HW := below_step HW hb
  clear hb HB
  have hc8 := hM.hc; have hr8 := hM.hr
  unfold Fr.val
  go_wp2_with (refine wpList_store_stop (Ob.new_at (w := w3) FRT frZ rfl) rfl _ _ _ rfl rfl f.cells rfl (by kernel_rfl) rfl rfl ?_)
  intro w4 hw4
  have HF := cell_ob hw4.out
  replace hM := cell_mem hw4.out hM
  replace HW := cell_below hw4.out HW HW.size
  clear hw4
  generalize w3.heap.size = q at *
  go_wp2_with (refine wpList_load_ob HF rfl _ _ rfl rfl Try.underlying58 (by kernel_rfl) ?_)
  refine (clone_any f _ hM).mono ?_
  rintro e w5 ⟨⟨gc, gr, bY, bU, bV, kY, kU, kV, gY, gU, gV⟩, rfl, ⟨hl1, hl2, hl3, hl4, hl5⟩, hG, hF, hb⟩
  simp only at hl1 hl2 hl3 hl4 hl5
  subst hl1 hl2 hl3 hl4 hl5
  have o1 : w4.heap.size ≤ bY := hF.y; have o2 : w4.heap.size ≤ bU := hF.u; have o3 : w4.heap.size ≤ bV := hF.v
  have o4 := HF.lt; have o5 := hM.y.lt; have o6 := hM.u.lt; have o7 := hM.v.lt; have o8 := HW.size
  have m1 : q ≠ bY := by omega
  have m2 : q ≠ bU := by omega
  have m3 : q ≠ bV := by omega
  have m4 : (f.bY ≠ bY ∧ f.bY ≠ bU ∧ f.bY ≠ bV) ∧ (f.bU ≠ bY ∧ f.bU ≠ bU ∧ f.bU ≠ bV) ∧ (f.bV ≠ bY ∧ f.bV ≠ bU ∧ f.bV ≠ bV) := by omega
  have o9 : w.heap.size ≤ bY ∧ w.heap.size ≤ bU ∧ w.heap.size ≤ bV := by omega
  obtain ⟨⟨p1, p2, p3⟩, ⟨p4, p5, p6⟩, ⟨p7, p8, p9⟩⟩ := m4
  obtain ⟨r1, r2, r3⟩ := o9
  replace HF := HF.later hb; replace hM := hM.later hb; replace HW := below_step HW hb
  clear hb hF o1 o2 o3 o4 o5 o6 o7 o8
  unfold Fr.val
  have l1 : bY < w5.heap.size := hG.y.lt
  have l2 : bU < w5.heap.size := hG.u.lt
  have l3 : bV < w5.heap.size := hG.v.lt
  go_wp2_with (refine wpList_store_stop (Ob.new_at (w := w5) FRT frZ rfl) rfl _ _ _ rfl rfl (Fr.cells ⟨f.c, f.r, bY, bU, bV, kY, kU, kV, f.sY, f.sU, f.sV⟩) rfl (by kernel_rfl) rfl rfl ?_)
  intro w6 hw6
  have HG : Ob w6 w5.heap.size FRT #[.int .i64 (f.c : Int), .int .i64 (f.r : Int), .int .i64 (16 * (f.c : Int)), .int .i64 (16 * (f.r : Int)), .slice (some ⟨bY, 0, none⟩) (16 * f.c * (16 * f.r)) kY, .int .i64 (8 * (f.c : Int)), .int .i64 (8 * (f.r : Int)), .slice (some ⟨bU, 0, none⟩) (8 * f.c * (8 * f.r)) kU, .int .i64 (8 * (f.c : Int)), .int .i64 (8 * (f.r : Int)), .slice (some ⟨bV, 0, none⟩) (8 * f.c * (8 * f.r)) kV] := cell_ob hw6.out
  replace HF := cell_keep hw6.out HF
  replace hM := cell_mem hw6.out hM
  replace hG := cell_mem hw6.out hG
  replace HW := cell_below hw6.out HW HW.size
  have s1 : w5.heap.size ≠ bY := by omega
  have s2 : w5.heap.size ≠ bU := by omega
  have s3 : w5.heap.size ≠ bV := by omega
  clear hw6 l1 l2 l3
  generalize w5.heap.size = z at *
  have hno := noise_any ⟨f.c, f.r, bY, bU, bV, kY, kU, kV, f.sY, f.sU, f.sV⟩ sd mo w6 hG hsd
  obtain ⟨m0, hm0, hm1⟩ : ∃ m : Int, imin (imax mo 0) 255 = m ∧ min (max mo 0) 255 = m := ⟨_, rfl, by rw [imin_eq, imax_eq]⟩
  have hmb : 0 ≤ m0 ∧ m0 ≤ 255 := by omega
  rw [hm1] at hno
  clear hm1
  unfold Fr.val Fr.cells at hno
  go_wp2_with (refine wpList_load_ob HG rfl _ _ rfl rfl Try.underlying58 (by kernel_rfl) ?_)
  refine hno.mono ?_
  clear hno
  rintro e w7 ⟨rfl, hN, hWr⟩
  have hWr' : WrF bY bU bV w6 w7 := hWr
  clear hWr hG
  replace HF := HF.wrf hWr' m1 m2 m3
  replace HG := HG.wrf hWr' s1 s2 s3
  replace hM : f.Mem w7 := ⟨hM.hc, hM.hr, hM.y.wrf hWr' p1 p2 p3, hM.u.wrf hWr' p4 p5 p6, hM.v.wrf hWr' p7 p8 p9, hM.yu, hM.yv, hM.uv⟩
  replace HW := hWr'.below HW HW.size r1 r2 r3
  clear hWr'
  go_wp2_with (refine wpList_load_ob HF rfl _ _ rfl rfl Try.underlying58 (by kernel_rfl) ?_)
  replace hm0 := Lib.hid hm0
  refine (planes_any f _).mono ?_
  rintro e w8 ⟨rfl, hb⟩
  replace HF := HF.later hb; replace HG := HG.later hb; replace hM := hM.later hb; replace hN := hN.later hb; replace HW := below_step HW hb
  clear hb
  unfold Fr.planes
  go_wp2_with fail
  go_loopw [1, 16, 46] (fun t1 t16 v wr => ∃ k : Nat, k ≤ 3 ∧ v = .int .i64 (k : Int) ∧ t1 = .int .u32 (sdN sd (nzA f k)) ∧ t16 = .int .u32 (hP (nzP m0 sd ⟨f.c, f.r, bY, bU, bV, kY, kU, kV, f.sY, f.sU, f.sV⟩ 3) k) ∧ Ob wr q FRT f.cells ∧ Ob wr z FRT #[.int .i64 (f.c : Int), .int .i64 (f.r : Int), .int .i64 (16 * (f.c : Int)), .int .i64 (16 * (f.r : Int)), .slice (some ⟨bY, 0, none⟩) (16 * f.c * (16 * f.r)) kY, .int .i64 (8 * (f.c : Int)), .int .i64 (8 * (f.r : Int)), .slice (some ⟨bU, 0, none⟩) (8 * f.c * (8 * f.r)) kU, .int .i64 (8 * (f.c : Int)), .int .i64 (8 * (f.r : Int)), .slice (some ⟨bV, 0, none⟩) (8 * f.c * (8 * f.r)) kV] ∧ f.Mem wr ∧ (nzP m0 sd ⟨f.c, f.r, bY, bU, bV, kY, kU, kV, f.sY, f.sU, f.sV⟩ 3).Mem wr ∧ Below w.heap.size w wr) (fun _ _ v _ => 3 - (intOf v).toNat)
  case atStart => exact ⟨0, by omega, rfl, rfl, rfl, HF, HG, hM, hN, HW⟩
  case round =>
    clear HF HG hM hN HW
    obtain ⟨k, hk, rfl, rfl, rfl, HF, HG, hM, hN, HW⟩ := hrel
    obtain rfl | rfl | rfl | rfl : k = 0 ∨ k = 1 ∨ k = 2 ∨ k = 3 := by omega
    · have i0 := fun W => idx_pl0 W (.int .i64 (16 * (f.c : Int))) (.int .i64 (16 * (f.r : Int))) (.slice (some ⟨f.bY, 0, none⟩) (16 * f.c * (16 * f.r)) f.cY) (.int .i64 (8 * (f.c : Int))) (.int .i64 (8 * (f.r : Int))) (.slice (some ⟨f.bU, 0, none⟩) (8 * f.c * (8 * f.r)) f.cU) (.int .i64 (8 * (f.c : Int))) (.int .i64 (8 * (f.r : Int))) (.slice (some ⟨f.bV, 0, none⟩) (8 * f.c * (8 * f.r)) f.cV)
      have ha := hP_bd (nzP m0 sd ⟨f.c, f.r, bY, bU, bV, kY, kU, kV, f.sY, f.sU, f.sV⟩ 3) 0
      have hsb := sdN_bd hsd (nzA f 0)
      have hnx : hF (nzP m0 sd ⟨f.c, f.r, bY, bU, bV, kY, kU, kV, f.sY, f.sU, f.sV⟩ 3).sY (hP (nzP m0 sd ⟨f.c, f.r, bY, bU, bV, kY, kU, kV, f.sY, f.sU, f.sV⟩ 3) 0) (16 * f.c * (16 * f.r)) = hP (nzP m0 sd ⟨f.c, f.r, bY, bU, bV, kY, kU, kV, f.sY, f.sU, f.sV⟩ 3) 1 := rfl
      generalize hP (nzP m0 sd ⟨f.c, f.r, bY, bU, bV, kY, kU, kV, f.sY, f.sU, f.sV⟩ 3) 0 = a0 at *
      replace hnx := Lib.hid hnx
      replace HF := HF.alloc (.cells #[.int .i64 (16 * (f.c : Int)), .int .i64 (16 * (f.r : Int)), .slice (some ⟨f.bY, 0, none⟩) (16 * f.c * (16 * f.r)) f.cY] PLT); replace HG := HG.alloc (.cells #[.int .i64 (16 * (f.c : Int)), .int .i64 (16 * (f.r : Int)), .slice (some ⟨f.bY, 0, none⟩) (16 * f.c * (16 * f.r)) f.cY] PLT); replace hM := hM.alloc (.cells #[.int .i64 (16 * (f.c : Int)), .int .i64 (16 * (f.r : Int)), .slice (some ⟨f.bY, 0, none⟩) (16 * f.c * (16 * f.r)) f.cY] PLT); replace hN := hN.alloc (.cells #[.int .i64 (16 * (f.c : Int)), .int .i64 (16 * (f.r : Int)), .slice (some ⟨f.bY, 0, none⟩) (16 * f.c * (16 * f.r)) f.cY] PLT); replace HW := HW.alloc HW.size (.cells #[.int .i64 (16 * (f.c : Int)), .int .i64 (16 * (f.r : Int)), .slice (some ⟨f.bY, 0, none⟩) (16 * f.c * (16 * f.r)) f.cY] PLT)
      go_wp2_with fail
      clear i0
      generalize wr.alloc (.cells #[.int .i64 (16 * (f.c : Int)), .int .i64 (16 * (f.r : Int)), .slice (some ⟨f.bY, 0, none⟩) (16 * f.c * (16 * f.r)) f.cY] PLT) = w9 at *
      clear hsb
      go_loopw [1, 16, 53] (fun t1 t16 v wr => ∃ j : Nat, j ≤ 16 * f.c * (16 * f.r) ∧ v = .int .i64 (j : Int) ∧ t1 = .int .u32 (sdN sd (nzA f 0 + j)) ∧ t16 = .int .u32 (hF (nzP m0 sd ⟨f.c, f.r, bY, bU, bV, kY, kU, kV, f.sY, f.sU, f.sV⟩ 3).sY a0 j) ∧ Ob wr q FRT f.cells ∧ Ob wr z FRT #[.int .i64 (f.c : Int), .int .i64 (f.r : Int), .int .i64 (16 * (f.c : Int)), .int .i64 (16 * (f.r : Int)), .slice (some ⟨bY, 0, none⟩) (16 * f.c * (16 * f.r)) kY, .int .i64 (8 * (f.c : Int)), .int .i64 (8 * (f.r : Int)), .slice (some ⟨bU, 0, none⟩) (8 * f.c * (8 * f.r)) kU, .int .i64 (8 * (f.c : Int)), .int .i64 (8 * (f.r : Int)), .slice (some ⟨bV, 0, none⟩) (8 * f.c * (8 * f.r)) kV] ∧ f.Mem wr ∧ (nzP m0 sd ⟨f.c, f.r, bY, bU, bV, kY, kU, kV, f.sY, f.sU, f.sV⟩ 3).Mem wr ∧ Below w.heap.size w wr) (fun _ _ v _ => 16 * f.c * (16 * f.r) - (intOf v).toNat)
      case atStart => exact ⟨0, by omega, rfl, rfl, rfl, HF, HG, hM, hN, HW⟩
      case round =>
        clear HF HG hM hN HW
        obtain ⟨j, hj, rfl, rfl, rfl, HF, HG, hM, hN, HW⟩ := hrel
        by_cases hlt : j < 16 * f.c * (16 * f.r)
        · have hd : decide ((j : Int) < 16 * (f.c : Int) * (16 * (f.r : Int))) = true := by
            have : ((j : Nat) : Int) < ((16 * f.c * (16 * f.r) : Nat) : Int) := by omega
            simpa using this
          have hN2 : 16 * f.c * (16 * f.r) ≤ 16384 := Nat.le_trans (Nat.mul_le_mul (by omega : _ ≤ 128) (by omega : _ ≤ 128)) (by omega)
          have c4 := hM.y.cell hlt
          obtain ⟨b1, b2⟩ := hM.y.bd hlt
          have hst : (sdN sd (nzA f 0 + j) * 1664525 + 1013904223) % 4294967296 = sdN sd (nzA f 0 + j + 1) := by
            show _ = (sdN sd (nzA f 0 + j) * 1664525 % 4294967296 + 1013904223) % 4294967296; omega
          obtain ⟨x1, x2⟩ := sdN_bd hsd (nzA f 0 + j)
          obtain ⟨x3, x4⟩ := sdN_bd hsd (nzA f 0 + j + 1)
          generalize hx0 : sdN sd (nzA f 0 + j) = x0 at *
          generalize ht : sdN sd (nzA f 0 + j + 1) = t at *
          have hV : (nzP m0 sd ⟨f.c, f.r, bY, bU, bV, kY, kU, kV, f.sY, f.sU, f.sV⟩ 3).sY j = nzV m0 (f.sY j) t := by
            show nzF m0 sd _ _ f.sY j = _
            unfold nzF; rw [← ht]; exact if_pos hlt
          have hV2 : imin (imax (f.sY j + t / 65536 % (2 * m0 + 1) - m0) 0) 255 = nzV m0 (f.sY j) t := by unfold nzV; rw [imin_eq, imax_eq, imin_eq, imax_eq]; omega
          obtain ⟨v1, v2⟩ := nzV_bd m0 (f.sY j) t
          have hhs : hF (nzP m0 sd ⟨f.c, f.r, bY, bU, bV, kY, kU, kV, f.sY, f.sU, f.sV⟩ 3).sY a0 (j + 1) = hStep (hF (nzP m0 sd ⟨f.c, f.r, bY, bU, bV, kY, kU, kV, f.sY, f.sU, f.sV⟩ 3).sY a0 j) (nzV m0 (f.sY j) t) := by rw [← hV]; rfl
          have hhb := hF_bd (s := (nzP m0 sd ⟨f.c, f.r, bY, bU, bV, kY, kU, kV, f.sY, f.sU, f.sV⟩ 3).sY) ha j
          have c5 : ∀ w', (nzP m0 sd ⟨f.c, f.r, bY, bU, bV, kY, kU, kV, f.sY, f.sU, f.sV⟩ 3).Mem w' → w'.cell? ⟨bY, j, none⟩ = some (.int .u8 (nzV m0 (f.sY j) t)) := fun w' h => by rw [← hV]; exact h.y.cell hlt
          replace hV := Lib.hid hV; replace c5 := Lib.hid c5; replace hhs := Lib.hid hhs; replace ht := Lib.hid ht; replace hx0 := Lib.hid hx0
          have y1 := Int.emod_nonneg ((x0 * 1664525 + 1013904223) % 4294967296 / 65536) (show 2 * m0 + 1 ≠ 0 by omega)
          have y2 := Int.emod_lt_of_pos ((x0 * 1664525 + 1013904223) % 4294967296 / 65536) (show 0 < 2 * m0 + 1 by omega)
          have y3 : 0 ≤ (x0 * 1664525 + 1013904223) % 4294967296 / 65536 ∧ (x0 * 1664525 + 1013904223) % 4294967296 / 65536 ≤ 65535 := by omega
          replace hst := Lib.hid hst; replace hV2 := Lib.hid hV2
          generalize hF (nzP m0 sd ⟨f.c, f.r, bY, bU, bV, kY, kU, kV, f.sY, f.sU, f.sV⟩ 3).sY a0 j = h0 at *
          go_wp2_with (refine wpList_load_ob HG rfl _ _ rfl rfl Try.underlying58 (by kernel_rfl) ?_)
          simp only [hst.out, hV2.out]
          clear y1 y2 y3
          generalize nzV m0 (f.sY j) t = V at *
          have hpl := planes_any ⟨f.c, f.r, bY, bU, bV, kY, kU, kV, f.sY, f.sU, f.sV⟩ wr
          unfold Fr.val Fr.cells Fr.planes at hpl
          refine hpl.mono ?_
          rintro e w10 ⟨rfl, hb⟩
          clear hpl
          replace HF := HF.later hb; replace HG := HG.later hb; replace hM := hM.later hb; replace hN := hN.later hb; replace HW := below_step HW hb
          clear hb c4
          have c6 := c5.out _ hN
          have i1 := fun W => idx_pl0 W (.int .i64 (16 * (f.c : Int))) (.int .i64 (16 * (f.r : Int))) (.slice (some ⟨bY, 0, none⟩) (16 * f.c * (16 * f.r)) kY) (.int .i64 (8 * (f.c : Int))) (.int .i64 (8 * (f.r : Int))) (.slice (some ⟨bU, 0, none⟩) (8 * f.c * (8 * f.r)) kU) (.int .i64 (8 * (f.c : Int))) (.int .i64 (8 * (f.r : Int))) (.slice (some ⟨bV, 0, none⟩) (8 * f.c * (8 * f.r)) kV)
          have i2 := fun a b c W => plane_fieldS a b c W
          go_wp2_with fail
          refine ⟨?_, by simp [intOf]; omega⟩
          repeat apply Exists.intro
          exact ⟨⟨j + 1, by omega, by go_num, by rw [← ht.out]; rfl, by rw [hhs.out]; rfl, HF, HG, hM, hN, HW⟩, rfl⟩
        · obtain rfl : j = 16 * f.c * (16 * f.r) := by omega
          have hd : decide (((16 * f.c * (16 * f.r) : Nat) : Int) < 16 * (f.c : Int) * (16 * (f.r : Int))) = false := by simp
          go_wp2_with fail
          exact ⟨⟨1, by omega, rfl, by first | rfl | (simp [nzA, lY]; done) | (simp [nzA, lY, lU]; done), by rw [hnx.out], HF, HG, hM, hN, HW⟩, by simp [intOf]⟩
    · have i0 := fun W => idx_pl1 W (.int .i64 (16 * (f.c : Int))) (.int .i64 (16 * (f.r : Int))) (.slice (some ⟨f.bY, 0, none⟩) (16 * f.c * (16 * f.r)) f.cY) (.int .i64 (8 * (f.c : Int))) (.int .i64 (8 * (f.r : Int))) (.slice (some ⟨f.bU, 0, none⟩) (8 * f.c * (8 * f.r)) f.cU) (.int .i64 (8 * (f.c : Int))) (.int .i64 (8 * (f.r : Int))) (.slice (some ⟨f.bV, 0, none⟩) (8 * f.c * (8 * f.r)) f.cV)
      have ha := hP_bd (nzP m0 sd ⟨f.c, f.r, bY, bU, bV, kY, kU, kV, f.sY, f.sU, f.sV⟩ 3) 1
      have hsb := sdN_bd hsd (nzA f 1)
      have hnx : hF (nzP m0 sd ⟨f.c, f.r, bY, bU, bV, kY, kU, kV, f.sY, f.sU, f.sV⟩ 3).sU (hP (nzP m0 sd ⟨f.c, f.r, bY, bU, bV, kY, kU, kV, f.sY, f.sU, f.sV⟩ 3) 1) (8 * f.c * (8 * f.r)) = hP (nzP m0 sd ⟨f.c, f.r, bY, bU, bV, kY, kU, kV, f.sY, f.sU, f.sV⟩ 3) 2 := rfl
      generalize hP (nzP m0 sd ⟨f.c, f.r, bY, bU, bV, kY, kU, kV, f.sY, f.sU, f.sV⟩ 3) 1 = a0 at *
      replace hnx := Lib.hid hnx
      replace HF := HF.alloc (.cells #[.int .i64 (8 * (f.c : Int)), .int .i64 (8 * (f.r : Int)), .slice (some ⟨f.bU, 0, none⟩) (8 * f.c * (8 * f.r)) f.cU] PLT); replace HG := HG.alloc (.cells #[.int .i64 (8 * (f.c : Int)), .int .i64 (8 * (f.r : Int)), .slice (some ⟨f.bU, 0, none⟩) (8 * f.c * (8 * f.r)) f.cU] PLT); replace hM := hM.alloc (.cells #[.int .i64 (8 * (f.c : Int)), .int .i64 (8 * (f.r : Int)), .slice (some ⟨f.bU, 0, none⟩) (8 * f.c * (8 * f.r)) f.cU] PLT); replace hN := hN.alloc (.cells #[.int .i64 (8 * (f.c : Int)), .int .i64 (8 * (f.r : Int)), .slice (some ⟨f.bU, 0, none⟩) (8 * f.c * (8 * f.r)) f.cU] PLT); replace HW := HW.alloc HW.size (.cells #[.int .i64 (8 * (f.c : Int)), .int .i64 (8 * (f.r : Int)), .slice (some ⟨f.bU, 0, none⟩) (8 * f.c * (8 * f.r)) f.cU] PLT)
      go_wp2_with fail
      clear i0
      generalize wr.alloc (.cells #[.int .i64 (8 * (f.c : Int)), .int .i64 (8 * (f.r : Int)), .slice (some ⟨f.bU, 0, none⟩) (8 * f.c * (8 * f.r)) f.cU] PLT) = w9 at *
      clear hsb
      go_loopw [1, 16, 53] (fun t1 t16 v wr => ∃ j : Nat, j ≤ 8 * f.c * (8 * f.r) ∧ v = .int .i64 (j : Int) ∧ t1 = .int .u32 (sdN sd (nzA f 1 + j)) ∧ t16 = .int .u32 (hF (nzP m0 sd ⟨f.c, f.r, bY, bU, bV, kY, kU, kV, f.sY, f.sU, f.sV⟩ 3).sU a0 j) ∧ Ob wr q FRT f.cells ∧ Ob wr z FRT #[.int .i64 (f.c : Int), .int .i64 (f.r : Int), .int .i64 (16 * (f.c : Int)), .int .i64 (16 * (f.r : Int)), .slice (some ⟨bY, 0, none⟩) (16 * f.c * (16 * f.r)) kY, .int .i64 (8 * (f.c : Int)), .int .i64 (8 * (f.r : Int)), .slice (some ⟨bU, 0, none⟩) (8 * f.c * (8 * f.r)) kU, .int .i64 (8 * (f.c : Int)), .int .i64 (8 * (f.r : Int)), .slice (some ⟨bV, 0, none⟩) (8 * f.c * (8 * f.r)) kV] ∧ f.Mem wr ∧ (nzP m0 sd ⟨f.c, f.r, bY, bU, bV, kY, kU, kV, f.sY, f.sU, f.sV⟩ 3).Mem wr ∧ Below w.heap.size w wr) (fun _ _ v _ => 8 * f.c * (8 * f.r) - (intOf v).toNat)
      case atStart => exact ⟨0, by omega, rfl, rfl, rfl, HF, HG, hM, hN, HW⟩
      case round =>
        clear HF HG hM hN HW
        obtain ⟨j, hj, rfl, rfl, rfl, HF, HG, hM, hN, HW⟩ := hrel
        by_cases hlt : j < 8 * f.c * (8 * f.r)
        · have hd : decide ((j : Int) < 8 * (f.c : Int) * (8 * (f.r : Int))) = true := by
            have : ((j : Nat) : Int) < ((8 * f.c * (8 * f.r) : Nat) : Int) := by omega
            simpa using this
          have hN2 : 8 * f.c * (8 * f.r) ≤ 16384 := Nat.le_trans (Nat.mul_le_mul (by omega : _ ≤ 128) (by omega : _ ≤ 128)) (by omega)
          have c4 := hM.u.cell hlt
          obtain ⟨b1, b2⟩ := hM.u.bd hlt
          have hst : (sdN sd (nzA f 1 + j) * 1664525 + 1013904223) % 4294967296 = sdN sd (nzA f 1 + j + 1) := by
            show _ = (sdN sd (nzA f 1 + j) * 1664525 % 4294967296 + 1013904223) % 4294967296; omega
          obtain ⟨x1, x2⟩ := sdN_bd hsd (nzA f 1 + j)
          obtain ⟨x3, x4⟩ := sdN_bd hsd (nzA f 1 + j + 1)
          generalize hx0 : sdN sd (nzA f 1 + j) = x0 at *
          generalize ht : sdN sd (nzA f 1 + j + 1) = t at *
          have hV : (nzP m0 sd ⟨f.c, f.r, bY, bU, bV, kY, kU, kV, f.sY, f.sU, f.sV⟩ 3).sU j = nzV m0 (f.sU j) t := by
            show nzF m0 sd _ _ f.sU j = _
            unfold nzF; rw [← ht]; exact if_pos hlt
          have hV2 : imin (imax (f.sU j + t / 65536 % (2 * m0 + 1) - m0) 0) 255 = nzV m0 (f.sU j) t := by unfold nzV; rw [imin_eq, imax_eq, imin_eq, imax_eq]; omega
          obtain ⟨v1, v2⟩ := nzV_bd m0 (f.sU j) t
          have hhs : hF (nzP m0 sd ⟨f.c, f.r, bY, bU, bV, kY, kU, kV, f.sY, f.sU, f.sV⟩ 3).sU a0 (j + 1) = hStep (hF (nzP m0 sd ⟨f.c, f.r, bY, bU, bV, kY, kU, kV, f.sY, f.sU, f.sV⟩ 3).sU a0 j) (nzV m0 (f.sU j) t) := by rw [← hV]; rfl
          have hhb := hF_bd (s := (nzP m0 sd ⟨f.c, f.r, bY, bU, bV, kY, kU, kV, f.sY, f.sU, f.sV⟩ 3).sU) ha j
          have c5 : ∀ w', (nzP m0 sd ⟨f.c, f.r, bY, bU, bV, kY, kU, kV, f.sY, f.sU, f.sV⟩ 3).Mem w' → w'.cell? ⟨bU, j, none⟩ = some (.int .u8 (nzV m0 (f.sU j) t)) := fun w' h => by rw [← hV]; exact h.u.cell hlt
          replace hV := Lib.hid hV; replace c5 := Lib.hid c5; replace hhs := Lib.hid hhs; replace ht := Lib.hid ht; replace hx0 := Lib.hid hx0
          have y1 := Int.emod_nonneg ((x0 * 1664525 + 1013904223) % 4294967296 / 65536) (show 2 * m0 + 1 ≠ 0 by omega)
          have y2 := Int.emod_lt_of_pos ((x0 * 1664525 + 1013904223) % 4294967296 / 65536) (show 0 < 2 * m0 + 1 by omega)
          have y3 : 0 ≤ (x0 * 1664525 + 1013904223) % 4294967296 / 65536 ∧ (x0 * 1664525 + 1013904223) % 4294967296 / 65536 ≤ 65535 := by omega
          replace hst := Lib.hid hst; replace hV2 := Lib.hid hV2
          generalize hF (nzP m0 sd ⟨f.c, f.r, bY, bU, bV, kY, kU, kV, f.sY, f.sU, f.sV⟩ 3).sU a0 j = h0 at *
          go_wp2_with (refine wpList_load_ob HG rfl _ _ rfl rfl Try.underlying58 (by kernel_rfl) ?_)
          simp only [hst.out, hV2.out]
          clear y1 y2 y3
          generalize nzV m0 (f.sU j) t = V at *
          have hpl := planes_any ⟨f.c, f.r, bY, bU, bV, kY, kU, kV, f.sY, f.sU, f.sV⟩ wr
          unfold Fr.val Fr.cells Fr.planes at hpl
          refine hpl.mono ?_
          rintro e w10 ⟨rfl, hb⟩
          clear hpl
          replace HF := HF.later hb; replace HG := HG.later hb; replace hM := hM.later hb; replace hN := hN.later hb; replace HW := below_step HW hb
          clear hb c4
          have c6 := c5.out _ hN
          have i1 := fun W => idx_pl1 W (.int .i64 (16 * (f.c : Int))) (.int .i64 (16 * (f.r : Int))) (.slice (some ⟨bY, 0, none⟩) (16 * f.c * (16 * f.r)) kY) (.int .i64 (8 * (f.c : Int))) (.int .i64 (8 * (f.r : Int))) (.slice (some ⟨bU, 0, none⟩) (8 * f.c * (8 * f.r)) kU) (.int .i64 (8 * (f.c : Int))) (.int .i64 (8 * (f.r : Int))) (.slice (some ⟨bV, 0, none⟩) (8 * f.c * (8 * f.r)) kV)
          have i2 := fun a b c W => plane_fieldS a b c W
          go_wp2_with fail
          refine ⟨?_, by simp [intOf]; omega⟩
          repeat apply Exists.intro
          exact ⟨⟨j + 1, by omega, by go_num, by rw [← ht.out]; rfl, by rw [hhs.out]; rfl, HF, HG, hM, hN, HW⟩, rfl⟩
        · obtain rfl : j = 8 * f.c * (8 * f.r) := by omega
          have hd : decide (((8 * f.c * (8 * f.r) : Nat) : Int) < 8 * (f.c : Int) * (8 * (f.r : Int))) = false := by simp
          go_wp2_with fail
          exact ⟨⟨2, by omega, rfl, by first | rfl | (simp [nzA, lY]; done) | (simp [nzA, lY, lU]; done), by rw [hnx.out], HF, HG, hM, hN, HW⟩, by simp [intOf]⟩
    · have i0 := fun W => idx_pl2 W (.int .i64 (16 * (f.c : Int))) (.int .i64 (16 * (f.r : Int))) (.slice (some ⟨f.bY, 0, none⟩) (16 * f.c * (16 * f.r)) f.cY) (.int .i64 (8 * (f.c : Int))) (.int .i64 (8 * (f.r : Int))) (.slice (some ⟨f.bU, 0, none⟩) (8 * f.c * (8 * f.r)) f.cU) (.int .i64 (8 * (f.c : Int))) (.int .i64 (8 * (f.r : Int))) (.slice (some ⟨f.bV, 0, none⟩) (8 * f.c * (8 * f.r)) f.cV)
      have ha := hP_bd (nzP m0 sd ⟨f.c, f.r, bY, bU, bV, kY, kU, kV, f.sY, f.sU, f.sV⟩ 3) 2
      have hsb := sdN_bd hsd (nzA f 2)
      have hnx : hF (nzP m0 sd ⟨f.c, f.r, bY, bU, bV, kY, kU, kV, f.sY, f.sU, f.sV⟩ 3).sV (hP (nzP m0 sd ⟨f.c, f.r, bY, bU, bV, kY, kU, kV, f.sY, f.sU, f.sV⟩ 3) 2) (8 * f.c * (8 * f.r)) = hP (nzP m0 sd ⟨f.c, f.r, bY, bU, bV, kY, kU, kV, f.sY, f.sU, f.sV⟩ 3) 3 := rfl
      generalize hP (nzP m0 sd ⟨f.c, f.r, bY, bU, bV, kY, kU, kV, f.sY, f.sU, f.sV⟩ 3) 2 = a0 at *
      replace hnx := Lib.hid hnx
      replace HF := HF.alloc (.cells #[.int .i64 (8 * (f.c : Int)), .int .i64 (8 * (f.r : Int)), .slice (some ⟨f.bV, 0, none⟩) (8 * f.c * (8 * f.r)) f.cV] PLT); replace HG := HG.alloc (.cells #[.int .i64 (8 * (f.c : Int)), .int .i64 (8 * (f.r : Int)), .slice (some ⟨f.bV, 0, none⟩) (8 * f.c * (8 * f.r)) f.cV] PLT); replace hM := hM.alloc (.cells #[.int .i64 (8 * (f.c : Int)), .int .i64 (8 * (f.r : Int)), .slice (some ⟨f.bV, 0, none⟩) (8 * f.c * (8 * f.r)) f.cV] PLT); replace hN := hN.alloc (.cells #[.int .i64 (8 * (f.c : Int)), .int .i64 (8 * (f.r : Int)), .slice (some ⟨f.bV, 0, none⟩) (8 * f.c * (8 * f.r)) f.cV] PLT); replace HW := HW.alloc HW.size (.cells #[.int .i64 (8 * (f.c : Int)), .int .i64 (8 * (f.r : Int)), .slice (some ⟨f.bV, 0, none⟩) (8 * f.c * (8 * f.r)) f.cV] PLT)
      go_wp2_with fail
      clear i0
      generalize wr.alloc (.cells #[.int .i64 (8 * (f.c : Int)), .int .i64 (8 * (f.r : Int)), .slice (some ⟨f.bV, 0, none⟩) (8 * f.c * (8 * f.r)) f.cV] PLT) = w9 at *
      clear hsb
      go_loopw [1, 16, 53] (fun t1 t16 v wr => ∃ j : Nat, j ≤ 8 * f.c * (8 * f.r) ∧ v = .int .i64 (j : Int) ∧ t1 = .int .u32 (sdN sd (nzA f 2 + j)) ∧ t16 = .int .u32 (hF (nzP m0 sd ⟨f.c, f.r, bY, bU, bV, kY, kU, kV, f.sY, f.sU, f.sV⟩ 3).sV a0 j) ∧ Ob wr q FRT f.cells ∧ Ob wr z FRT #[.int .i64 (f.c : Int), .int .i64 (f.r : Int), .int .i64 (16 * (f.c : Int)), .int .i64 (16 * (f.r : Int)), .slice (some ⟨bY, 0, none⟩) (16 * f.c * (16 * f.r)) kY, .int .i64 (8 * (f.c : Int)), .int .i64 (8 * (f.r : Int)), .slice (some ⟨bU, 0, none⟩) (8 * f.c * (8 * f.r)) kU, .int .i64 (8 * (f.c : Int)), .int .i64 (8 * (f.r : Int)), .slice (some ⟨bV, 0, none⟩) (8 * f.c * (8 * f.r)) kV] ∧ f.Mem wr ∧ (nzP m0 sd ⟨f.c, f.r, bY, bU, bV, kY, kU, kV, f.sY, f.sU, f.sV⟩ 3).Mem wr ∧ Below w.heap.size w wr) (fun _ _ v _ => 8 * f.c * (8 * f.r) - (intOf v).toNat)
      case atStart => exact ⟨0, by omega, rfl, rfl, rfl, HF, HG, hM, hN, HW⟩
      case round =>
        clear HF HG hM hN HW
        obtain ⟨j, hj, rfl, rfl, rfl, HF, HG, hM, hN, HW⟩ := hrel
        by_cases hlt : j < 8 * f.c * (8 * f.r)
        · have hd : decide ((j : Int) < 8 * (f.c : Int) * (8 * (f.r : Int))) = true := by
            have : ((j : Nat) : Int) < ((8 * f.c * (8 * f.r) : Nat) : Int) := by omega
            simpa using this
          have hN2 : 8 * f.c * (8 * f.r) ≤ 16384 := Nat.le_trans (Nat.mul_le_mul (by omega : _ ≤ 128) (by omega : _ ≤ 128)) (by omega)
          have c4 := hM.v.cell hlt
          obtain ⟨b1, b2⟩ := hM.v.bd hlt
          have hst : (sdN sd (nzA f 2 + j) * 1664525 + 1013904223) % 4294967296 = sdN sd (nzA f 2 + j + 1) := by
            show _ = (sdN sd (nzA f 2 + j) * 1664525 % 4294967296 + 1013904223) % 4294967296; omega
          obtain ⟨x1, x2⟩ := sdN_bd hsd (nzA f 2 + j)
          obtain ⟨x3, x4⟩ := sdN_bd hsd (nzA f 2 + j + 1)
          generalize hx0 : sdN sd (nzA f 2 + j) = x0 at *
          generalize ht : sdN sd (nzA f 2 + j + 1) = t at *
          have hV : (nzP m0 sd ⟨f.c, f.r, bY, bU, bV, kY, kU, kV, f.sY, f.sU, f.sV⟩ 3).sV j = nzV m0 (f.sV j) t := by
            show nzF m0 sd _ _ f.sV j = _
            unfold nzF; rw [← ht]; exact if_pos hlt
          have hV2 : imin (imax (f.sV j + t / 65536 % (2 * m0 + 1) - m0) 0) 255 = nzV m0 (f.sV j) t := by unfold nzV; rw [imin_eq, imax_eq, imin_eq, imax_eq]; omega
          obtain ⟨v1, v2⟩ := nzV_bd m0 (f.sV j) t
          have hhs : hF (nzP m0 sd ⟨f.c, f.r, bY, bU, bV, kY, kU, kV, f.sY, f.sU, f.sV⟩ 3).sV a0 (j + 1) = hStep (hF (nzP m0 sd ⟨f.c, f.r, bY, bU, bV, kY, kU, kV, f.sY, f.sU, f.sV⟩ 3).sV a0 j) (nzV m0 (f.sV j) t) := by rw [← hV]; rfl
          have hhb := hF_bd (s := (nzP m0 sd ⟨f.c, f.r, bY, bU, bV, kY, kU, kV, f.sY, f.sU, f.sV⟩ 3).sV) ha j
          have c5 : ∀ w', (nzP m0 sd ⟨f.c, f.r, bY, bU, bV, kY, kU, kV, f.sY, f.sU, f.sV⟩ 3).Mem w' → w'.cell? ⟨bV, j, none⟩ = some (.int .u8 (nzV m0 (f.sV j) t)) := fun w' h => by rw [← hV]; exact h.v.cell hlt
          replace hV := Lib.hid hV; replace c5 := Lib.hid c5; replace hhs := Lib.hid hhs; replace ht := Lib.hid ht; replace hx0 := Lib.hid hx0
          have y1 := Int.emod_nonneg ((x0 * 1664525 + 1013904223) % 4294967296 / 65536) (show 2 * m0 + 1 ≠ 0 by omega)
          have y2 := Int.emod_lt_of_pos ((x0 * 1664525 + 1013904223) % 4294967296 / 65536) (show 0 < 2 * m0 + 1 by omega)
          have y3 : 0 ≤ (x0 * 1664525 + 1013904223) % 4294967296 / 65536 ∧ (x0 * 1664525 + 1013904223) % 4294967296 / 65536 ≤ 65535 := by omega
          replace hst := Lib.hid hst; replace hV2 := Lib.hid hV2
          generalize hF (nzP m0 sd ⟨f.c, f.r, bY, bU, bV, kY, kU, kV, f.sY, f.sU, f.sV⟩ 3).sV a0 j = h0 at *
          go_wp2_with (refine wpList_load_ob HG rfl _ _ rfl rfl Try.underlying58 (by kernel_rfl) ?_)
          simp only [hst.out, hV2.out]
          clear y1 y2 y3
          generalize nzV m0 (f.sV j) t = V at *
          have hpl := planes_any ⟨f.c, f.r, bY, bU, bV, kY, kU, kV, f.sY, f.sU, f.sV⟩ wr
          unfold Fr.val Fr.cells Fr.planes at hpl
          refine hpl.mono ?_
          rintro e w10 ⟨rfl, hb⟩
          clear hpl
          replace HF := HF.later hb; replace HG := HG.later hb; replace hM := hM.later hb; replace hN := hN.later hb; replace HW := below_step HW hb
          clear hb c4
          have c6 := c5.out _ hN
          have i1 := fun W => idx_pl2 W (.int .i64 (16 * (f.c : Int))) (.int .i64 (16 * (f.r : Int))) (.slice (some ⟨bY, 0, none⟩) (16 * f.c * (16 * f.r)) kY) (.int .i64 (8 * (f.c : Int))) (.int .i64 (8 * (f.r : Int))) (.slice (some ⟨bU, 0, none⟩) (8 * f.c * (8 * f.r)) kU) (.int .i64 (8 * (f.c : Int))) (.int .i64 (8 * (f.r : Int))) (.slice (some ⟨bV, 0, none⟩) (8 * f.c * (8 * f.r)) kV)
          have i2 := fun a b c W => plane_fieldS a b c W
          go_wp2_with fail
          refine ⟨?_, by simp [intOf]; omega⟩
          repeat apply Exists.intro
          exact ⟨⟨j + 1, by omega, by go_num, by rw [← ht.out]; rfl, by rw [hhs.out]; rfl, HF, HG, hM, hN, HW⟩, rfl⟩
        · obtain rfl : j = 8 * f.c * (8 * f.r) := by omega
          have hd : decide (((8 * f.c * (8 * f.r) : Nat) : Int) < 8 * (f.c : Int) * (8 * (f.r : Int))) = false := by simp
          go_wp2_with fail
          exact ⟨⟨3, by omega, rfl, by first | rfl | (simp [nzA, lY]; done) | (simp [nzA, lY, lU]; done), by rw [hnx.out], HF, HG, hM, hN, HW⟩, by simp [intOf]⟩
    · obtain ⟨S1, S2⟩ := sdN_bd hsd (nzA f 3)
      generalize sdN sd (nzA f 3) = S at *
      have hsum : Calls Try.prog 48 #[.agg #[.int .i64 (f.c : Int), .int .i64 (f.r : Int), .int .i64 (16 * (f.c : Int)), .int .i64 (16 * (f.r : Int)), .slice (some ⟨bY, 0, none⟩) (16 * f.c * (16 * f.r)) kY, .int .i64 (8 * (f.c : Int)), .int .i64 (8 * (f.r : Int)), .slice (some ⟨bU, 0, none⟩) (8 * f.c * (8 * f.r)) kU, .int .i64 (8 * (f.c : Int)), .int .i64 (8 * (f.r : Int)), .slice (some ⟨bV, 0, none⟩) (8 * f.c * (8 * f.r)) kV]] wr fun e w' => e = .returned (.int .u32 (hP (nzP m0 sd ⟨f.c, f.r, bY, bU, bV, kY, kU, kV, f.sY, f.sU, f.sV⟩ 3) 3)) ∧ Below wr.heap.size wr w' := sum_any (nzP m0 sd ⟨f.c, f.r, bY, bU, bV, kY, kU, kV, f.sY, f.sU, f.sV⟩ 3) wr hN
      generalize hP (nzP m0 sd ⟨f.c, f.r, bY, bU, bV, kY, kU, kV, f.sY, f.sU, f.sV⟩ 3) 3 = h3 at *
      go_wp2_with (refine wpList_load_ob HG rfl _ _ rfl rfl Try.underlying58 (by kernel_rfl) ?_)
      refine hsum.mono ?_
      clear hsum
      rintro e w9 ⟨rfl, hb⟩
      replace HF := HF.later hb; replace HG := HG.later hb; replace hM := hM.later hb; replace hN := hN.later hb; replace HW := below_step HW hb
      clear hb
      have hsl : Calls Try.prog 49 #[.agg #[.int .i64 (f.c : Int), .int .i64 (f.r : Int), .int .i64 (16 * (f.c : Int)), .int .i64 (16 * (f.r : Int)), .slice (some ⟨bY, 0, none⟩) (16 * f.c * (16 * f.r)) kY, .int .i64 (8 * (f.c : Int)), .int .i64 (8 * (f.r : Int)), .slice (some ⟨bU, 0, none⟩) (8 * f.c * (8 * f.r)) kU, .int .i64 (8 * (f.c : Int)), .int .i64 (8 * (f.r : Int)), .slice (some ⟨bV, 0, none⟩) (8 * f.c * (8 * f.r)) kV], .int .i64 fr, .int .i64 ri, .int .i64 dn] w9 (WroteP bY (16 * f.c * (16 * f.r)) (slF (16 * f.c) fr ri dn (16 * f.c * (16 * f.r)) (nzP m0 sd ⟨f.c, f.r, bY, bU, bV, kY, kU, kV, f.sY, f.sU, f.sV⟩ 3).sY) w9) := slope_any (nzP m0 sd ⟨f.c, f.r, bY, bU, bV, kY, kU, kV, f.sY, f.sU, f.sV⟩ 3) fr ri dn w9 hN (by omega) (by omega) (by omega)
      generalize (nzP m0 sd ⟨f.c, f.r, bY, bU, bV, kY, kU, kV, f.sY, f.sU, f.sV⟩ 3).sY = s0 at hsl
      clear hN
      go_wp2_with (refine wpList_load_ob HG rfl _ _ rfl rfl Try.underlying58 (by kernel_rfl) ?_)
      refine hsl.mono ?_
      clear hsl
      rintro e w10 ⟨rfl, HY, hWr⟩
      replace HF := HF.wr hWr m1; replace HG := HG.wr hWr s1
      replace hM : f.Mem w10 := ⟨hM.hc, hM.hr, hM.y.wr hWr p1, hM.u.wr hWr p4, hM.v.wr hWr p7, hM.yu, hM.yv, hM.uv⟩
      replace HW := hWr.below HW r1
      clear hWr
      have c1 : w10.cell? ⟨z, 3, none⟩ = some (.int .i64 (16 * (f.r : Int))) := HG.cell 3 rfl
      go_wp2_with fail
      clear c1
      go_loopw [108] (fun v wr => ∃ j : Nat, j ≤ 16 * f.r ∧ v = .int .i64 (j : Int) ∧ Ob wr q FRT f.cells ∧ Ob wr z FRT #[.int .i64 (f.c : Int), .int .i64 (f.r : Int), .int .i64 (16 * (f.c : Int)), .int .i64 (16 * (f.r : Int)), .slice (some ⟨bY, 0, none⟩) (16 * f.c * (16 * f.r)) kY, .int .i64 (8 * (f.c : Int)), .int .i64 (8 * (f.r : Int)), .slice (some ⟨bU, 0, none⟩) (8 * f.c * (8 * f.r)) kU, .int .i64 (8 * (f.c : Int)), .int .i64 (8 * (f.r : Int)), .slice (some ⟨bV, 0, none⟩) (8 * f.c * (8 * f.r)) kV] ∧ f.Mem wr ∧ PB wr bY (16 * f.c * (16 * f.r)) (slF (16 * f.c) fr ri dn (16 * f.c * (16 * f.r)) s0) ∧ Below w.heap.size w wr) (fun v _ => 16 * f.r - (intOf v).toNat)
      case atStart => exact ⟨0, by omega, rfl, HF, HG, hM, HY, HW⟩
      case round =>
        clear HF HG hM HY HW
        obtain ⟨j, hj, rfl, HF, HG, hM, HY, HW⟩ := hrel
        by_cases hlt : j < 16 * f.r
        · have hd : decide ((j : Int) < 16 * (f.r : Int)) = true := by simp; omega
          have c2 : wr.cell? ⟨z, 2, none⟩ = some (.int .i64 (16 * (f.c : Int))) := HG.cell 2 rfl
          go_wp2_with fail
          clear c2 hd
          go_loopw [114] (fun v wr => ∃ i : Nat, i ≤ 16 * f.c ∧ v = .int .i64 (i : Int) ∧ Ob wr q FRT f.cells ∧ Ob wr z FRT #[.int .i64 (f.c : Int), .int .i64 (f.r : Int), .int .i64 (16 * (f.c : Int)), .int .i64 (16 * (f.r : Int)), .slice (some ⟨bY, 0, none⟩) (16 * f.c * (16 * f.r)) kY, .int .i64 (8 * (f.c : Int)), .int .i64 (8 * (f.r : Int)), .slice (some ⟨bU, 0, none⟩) (8 * f.c * (8 * f.r)) kU, .int .i64 (8 * (f.c : Int)), .int .i64 (8 * (f.r : Int)), .slice (some ⟨bV, 0, none⟩) (8 * f.c * (8 * f.r)) kV] ∧ f.Mem wr ∧ PB wr bY (16 * f.c * (16 * f.r)) (slF (16 * f.c) fr ri dn (16 * f.c * (16 * f.r)) s0) ∧ Below w.heap.size w wr) (fun v _ => 16 * f.c - (intOf v).toNat)
          case atStart => exact ⟨0, by omega, rfl, HF, HG, hM, HY, HW⟩
          case round =>
            clear HF HG hM HY HW
            obtain ⟨i, hi, rfl, HF, HG, hM, HY, HW⟩ := hrel
            by_cases hlt2 : i < 16 * f.c
            · have hd : decide ((i : Int) < 16 * (f.c : Int)) = true := by simp; omega
              have c2 : wr.cell? ⟨z, 2, none⟩ = some (.int .i64 (16 * (f.c : Int))) := HG.cell 2 rfl
              have c3 : wr.cell? ⟨z, 3, none⟩ = some (.int .i64 (16 * (f.r : Int))) := HG.cell 3 rfl
              have c4 : wr.cell? ⟨z, 4, none⟩ = some (.slice (some ⟨bY, 0, none⟩) (16 * f.c * (16 * f.r)) kY) := HG.cell 4 rfl
              have hAt := at16_any f.c f.r bY kY _ (i : Int) (j : Int) wr hc8 hr8 HY
              rw [slF_at hlt2 hlt] at hAt
              have hsv := slV_wrap (fr := fr) (ri := ri) (dn := dn) (i := i) (j := j) (by omega) (by omega) (by omega) (by omega) (by omega)
              obtain ⟨v1, v2⟩ := slV_bd fr ri dn i j
              generalize slV fr ri dn i j = V at *
              go_wp2_with fail
              refine hAt.mono ?_
              clear hAt c2 c3 c4
              rintro e w11 ⟨rfl, hb⟩
              replace HF := HF.later hb; replace HG := HG.later hb; replace hM := hM.later hb; replace HY := HY.later hb; replace HW := below_step HW hb
              clear hb
              go_wp2_with fail
              exact ⟨⟨i + 1, by omega, by go_num, HF, HG, hM, HY, HW⟩, by simp [intOf]; omega⟩
            · obtain rfl : i = 16 * f.c := by omega
              have hd : decide (((16 * f.c : Nat) : Int) < 16 * (f.c : Int)) = false := by simp
              go_wp2_with fail
              exact ⟨⟨j + 1, by omega, by go_num, HF, HG, hM, HY, HW⟩, by simp [intOf]; omega⟩
        · obtain rfl : j = 16 * f.r := by omega
          have hd : decide (((16 * f.r : Nat) : Int) < 16 * (f.r : Int)) = false := by simp
          clear HY HG
          have c0 := HF.fC
          have c1 := HF.fR
          have h9 : 1 ≤ f.c * f.r ∧ f.c * f.r ≤ 9 := ⟨Nat.mul_pos (by omega) (by omega), Nat.mul_le_mul (by omega : f.c ≤ 3) (by omega : f.r ≤ 3)⟩
          have hz0 : ((f.c : Int) * (f.r : Int) == 0) = false := by
            have : ¬ ((f.c * f.r : Nat) : Int) = 0 := by omega
            simpa using this
          have q9 : (0 : Int) < (f.c : Int) * (f.r : Int) ∧ (f.c : Int) * (f.r : Int) ≤ 9 := by
            rw [show (f.c : Int) * (f.r : Int) = ((f.c * f.r : Nat) : Int) by simp]; omega
          obtain ⟨mb, hmb1, hmb2⟩ : ∃ mb : Nat, (S / 256).tmod ((f.c : Int) * (f.r : Int)) = (mb : Int) ∧ mb < 9 := by
            have e1 := Int.tmod_nonneg ((f.c : Int) * (f.r : Int)) (show 0 ≤ S / 256 by omega)
            have e2 := Int.tmod_lt_of_pos (S / 256) q9.1
            exact ⟨((S / 256).tmod ((f.c : Int) * (f.r : Int))).toNat, by omega, by omega⟩
          go_wp2_with fail
          clear hd c0 c1 hz0 hmb1 h9 q9
          obtain ⟨C1, hC1, hC2, hC3, hC4⟩ : ∃ x : Int, (mb : Int).tmod (f.c : Int) = x ∧ (mb : Int) % (f.c : Int) = x ∧ 0 ≤ x ∧ x ≤ 8 := ⟨_, rfl, by rw [Int.tmod_eq_emod_of_nonneg (by omega)], Int.tmod_nonneg _ (by omega), by have := Int.tmod_lt_of_pos (mb : Int) (show (0 : Int) < (f.c : Int) by omega); omega⟩
          obtain ⟨R1, hR1, hR2, hR3, hR4⟩ : ∃ x : Int, (mb : Int).tdiv (f.c : Int) = x ∧ (mb : Int) / (f.c : Int) = x ∧ 0 ≤ x ∧ x ≤ 8 := ⟨(mb : Int).tdiv (f.c : Int), rfl, by rw [Int.tdiv_eq_ediv_of_nonneg (by omega)], Int.tdiv_nonneg (by omega) (by omega), by
            rw [Int.tdiv_eq_ediv_of_nonneg (by omega)]; have := Int.ediv_le_self (f.c : Int) (show (0 : Int) ≤ mb by omega); omega⟩
          have ha16 : ∀ j, all16 f mb (j + 1) = all16 f mb j + sumTo (fun i => plAt (16 * f.c) (16 * f.r) f.sY (16 * C1 + (i : Int)) (16 * R1 + (j : Int))) 16 := fun j => by rw [← hC2, ← hR2]; rfl
          have hpb : ∀ i j : Nat, 0 ≤ plAt (16 * f.c) (16 * f.r) f.sY (16 * C1 + (i : Int)) (16 * R1 + (j : Int)) ∧ plAt (16 * f.c) (16 * f.r) f.sY (16 * C1 + (i : Int)) (16 * R1 + (j : Int)) ≤ 255 := fun i j => plAt_bd hM.y _ _
          have hab : ∀ j, 0 ≤ all16 f mb j ∧ all16 f mb j ≤ 4080 * j := fun j => by
            have := sumTo_bd (g := fun j => sumTo (fun i => plAt (16 * f.c) (16 * f.r) f.sY (16 * ((mb : Int) % (f.c : Int)) + (i : Int)) (16 * ((mb : Int) / (f.c : Int)) + (j : Int))) 16) (K := 4080) (fun j => by
              have := sumTo_bd (g := fun i => plAt (16 * f.c) (16 * f.r) f.sY (16 * ((mb : Int) % (f.c : Int)) + (i : Int)) (16 * ((mb : Int) / (f.c : Int)) + (j : Int))) (K := 255) (fun i => plAt_bd hM.y _ _) 16
              omega) j
            exact this
          have hzc : ((f.c : Int) == 0) = false := by simp; omega
          replace ha16 := Lib.hid ha16; replace hpb := Lib.hid hpb; replace hab := Lib.hid hab
          go_loopw [25, 148] (fun s v wr => ∃ j : Nat, j ≤ 16 ∧ v = .int .i64 (j : Int) ∧ s = .int .i64 (all16 f mb j) ∧ Ob wr q FRT f.cells ∧ f.Mem wr ∧ Below w.heap.size w wr) (fun _ v _ => 16 - (intOf v).toNat)
          case atStart => exact ⟨0, by omega, rfl, rfl, HF, hM, HW⟩
          case round =>
            clear HF hM HW
            obtain ⟨j, hj, rfl, rfl, HF, hM, HW⟩ := hrel
            by_cases hlt : j < 16
            · have hd : decide ((j : Int) < 16) = true := by simp; omega
              obtain ⟨A1, A2⟩ := hab.out j
              have hst := Lib.hid (ha16.out j)
              generalize hA : all16 f mb j = A at *
              replace hA := Lib.hid hA
              go_wp2_with fail
              clear hd
              go_loopw [25, 151] (fun s v wr => ∃ i : Nat, i ≤ 16 ∧ v = .int .i64 (i : Int) ∧ s = .int .i64 (A + sumTo (fun i : Nat => plAt (16 * f.c) (16 * f.r) f.sY (16 * C1 + (i : Int)) (16 * R1 + (j : Int))) i) ∧ Ob wr q FRT f.cells ∧ f.Mem wr ∧ Below w.heap.size w wr) (fun _ v _ => 16 - (intOf v).toNat)
              case atStart => exact ⟨0, by omega, rfl, by simp [sumTo], HF, hM, HW⟩
              case round =>
                clear HF hM HW
                obtain ⟨i, hi, rfl, rfl, HF, hM, HW⟩ := hrel
                by_cases hlt2 : i < 16
                · have hd : decide ((i : Int) < 16) = true := by simp; omega
                  obtain ⟨B1, B2⟩ := sumTo_bd (g := fun i : Nat => plAt (16 * f.c) (16 * f.r) f.sY (16 * C1 + (i : Int)) (16 * R1 + (j : Int))) (K := 255) (fun i => hpb.out i j) i
                  have hs2 := Lib.hid (show sumTo (fun i : Nat => plAt (16 * f.c) (16 * f.r) f.sY (16 * C1 + (i : Int)) (16 * R1 + (j : Int))) (i + 1) = sumTo (fun i : Nat => plAt (16 * f.c) (16 * f.r) f.sY (16 * C1 + (i : Int)) (16 * R1 + (j : Int))) i + plAt (16 * f.c) (16 * f.r) f.sY (16 * C1 + (i : Int)) (16 * R1 + (j : Int)) from rfl)
                  obtain ⟨P1, P2⟩ := hpb.out i j
                  generalize sumTo (fun i : Nat => plAt (16 * f.c) (16 * f.r) f.sY (16 * C1 + (i : Int)) (16 * R1 + (j : Int))) i = B at *
                  go_wp2_with fail
                  have c0 := fun p => (HF.re p).fC
                  have c1 := fun p => (HF.re p).fYW
                  have c2 := fun p => (HF.re p).fYH
                  have c3 := fun p => (HF.re p).fYS
                  refine wp_region_quiet_below (by kernel_rfl) (by kernel_rfl) ?_
                  repeat (go_big_quiet_step ((go_at_call 31; with_reducible exact Calls.regrown_of (at16_any f.c f.r f.bY f.cY f.sY (16 * C1 + (i : Int)) (16 * R1 + (j : Int)) _ hc8 hr8 (hM.y.later (below_regrown _ _ _))))))
                  refine wpQuiet_nil ?_
                  intro wq hwq
                  replace hwq := Cls.below hwq
                  replace HF := HF.later hwq; replace hM := hM.later hwq; replace HW := below_step HW hwq
                  clear hwq c0 c1 c2 c3
                  go_wp2_with fail
                  exact ⟨⟨i + 1, by omega, by go_num, by rw [hs2.out, Int.add_assoc], HF, hM, HW⟩, by simp [intOf]; omega⟩
                · obtain rfl : i = 16 := by omega
                  go_wp2_with fail
                  exact ⟨⟨j + 1, by omega, by go_num, by rw [hst.out], HF, hM, HW⟩, by simp [intOf]; omega⟩
            · obtain rfl : j = 16 := by omega
              have hmid := mid_all f mb
              obtain ⟨A1, A2⟩ := hab.out 16
              have hmc := fun w hM => middle_any f mb w (by omega) hM (by omega)
              rw [hmid] at hmc
              generalize all16 f mb 16 = A at *
              replace hmc := Lib.hid hmc
              clear hmid
              go_wp2_with (refine wpList_load_ob HF rfl _ _ rfl rfl Try.underlying58 (by kernel_rfl) ?_)
              refine (hmc.out _ hM).mono ?_
              rintro e w11 ⟨rfl, hb⟩
              replace HW := below_step HW hb
              go_wp2_with fail
              go_ret
              exact ⟨rfl, HW⟩
end Go.Proofs.Ytggdaefgaakijaa

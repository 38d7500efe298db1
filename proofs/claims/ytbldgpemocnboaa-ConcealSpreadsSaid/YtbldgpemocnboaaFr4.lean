/- plane.Frame's Slope, walked. -/
import Derived.Test.YtbldgpemocnboaaFr2
namespace Go.Proofs.Ytbldgpemocnboaa
open Go.RowKit
attribute [local go_sem ↓] run_imax run_imin

theorem set16_any (c r b m : Nat) (s : Nat → Int) (x y v : Int) (w : World) (hc : c ≤ 8) (hr : r ≤ 8) (hv : 0 ≤ v ∧ v ≤ 255) (hP : PB w b (16 * c * (16 * r)) s) :
    Calls Try.prog 85 #[.agg #[.int .i64 (16 * (c : Int)), .int .i64 (16 * (r : Int)), .slice (some ⟨b, 0, none⟩) (16 * c * (16 * r)) m], .int .i64 x, .int .i64 y, .int .u8 v] w (WroteP b (16 * c * (16 * r)) (plSet (16 * c) (16 * r) s x y v) w) := by
  rw [← plV_16]; exact set_any (16 * c) (16 * r) b m s x y v w (by omega) (by omega) hv hP
theorem set8_any (c r b m : Nat) (s : Nat → Int) (x y v : Int) (w : World) (hc : c ≤ 8) (hr : r ≤ 8) (hv : 0 ≤ v ∧ v ≤ 255) (hP : PB w b (8 * c * (8 * r)) s) :
    Calls Try.prog 85 #[.agg #[.int .i64 (8 * (c : Int)), .int .i64 (8 * (r : Int)), .slice (some ⟨b, 0, none⟩) (8 * c * (8 * r)) m], .int .i64 x, .int .i64 y, .int .u8 v] w (WroteP b (8 * c * (8 * r)) (plSet (8 * c) (8 * r) s x y v) w) := by
  rw [← plV_8]; exact set_any (8 * c) (8 * r) b m s x y v w (by omega) (by omega) hv hP
section
variable {w : World} {q : Nat} {f : Fr}
theorem Ob.fYW (h : Ob w q FRT f.cells) : w.cell? ⟨q, 2, none⟩ = some (.int .i64 (16 * (f.c : Int))) := h.cell 2 rfl
theorem Ob.fYH (h : Ob w q FRT f.cells) : w.cell? ⟨q, 3, none⟩ = some (.int .i64 (16 * (f.r : Int))) := h.cell 3 rfl
theorem Ob.fYS (h : Ob w q FRT f.cells) : w.cell? ⟨q, 4, none⟩ = some (.slice (some ⟨f.bY, 0, none⟩) (16 * f.c * (16 * f.r)) f.cY) := h.cell 4 rfl
theorem Ob.fUW (h : Ob w q FRT f.cells) : w.cell? ⟨q, 5, none⟩ = some (.int .i64 (8 * (f.c : Int))) := h.cell 5 rfl
theorem Ob.fUH (h : Ob w q FRT f.cells) : w.cell? ⟨q, 6, none⟩ = some (.int .i64 (8 * (f.r : Int))) := h.cell 6 rfl
theorem Ob.fUS (h : Ob w q FRT f.cells) : w.cell? ⟨q, 7, none⟩ = some (.slice (some ⟨f.bU, 0, none⟩) (8 * f.c * (8 * f.r)) f.cU) := h.cell 7 rfl
theorem Ob.fVW (h : Ob w q FRT f.cells) : w.cell? ⟨q, 8, none⟩ = some (.int .i64 (8 * (f.c : Int))) := h.cell 8 rfl
theorem Ob.fVH (h : Ob w q FRT f.cells) : w.cell? ⟨q, 9, none⟩ = some (.int .i64 (8 * (f.r : Int))) := h.cell 9 rfl
theorem Ob.fVS (h : Ob w q FRT f.cells) : w.cell? ⟨q, 10, none⟩ = some (.slice (some ⟨f.bV, 0, none⟩) (8 * f.c * (8 * f.r)) f.cV) := h.cell 10 rfl
end

theorem tmod_bd16 (n : Int) : -16 < n.tmod 16 ∧ n.tmod 16 < 16 := by
  have h1 := Int.tmod_lt_of_pos n (show (0 : Int) < 16 by omega)
  have h2 := Int.tmod_lt_of_pos (-n) (show (0 : Int) < 16 by omega)
  rw [Int.neg_tmod] at h2
  omega
/-- The slope's value at column i, row j. -/
def slV (fr ri dn : Int) (i j : Nat) : Int := (fr + ((i : Int) * ri + (j : Int) * dn).tdiv 16) % 256
theorem WID {x : Int} (h1 : -9223372036854775808 ≤ x) (h2 : x ≤ 9223372036854775807) : wrap64 x = x := by unfold wrap64; omega
theorem mul_bd (i : Nat) (x : Int) (hi : i ≤ 127) (h : -40000 ≤ x ∧ x ≤ 40000) : -5080000 ≤ (i : Int) * x ∧ (i : Int) * x ≤ 5080000 := by
  have h1 := Int.mul_le_mul_of_nonneg_left h.2 (show (0 : Int) ≤ i by omega)
  have h2 := Int.mul_le_mul_of_nonneg_left h.1 (show (0 : Int) ≤ i by omega)
  omega
theorem slV_wrap {fr ri dn : Int} {i j : Nat} (hi : i ≤ 127) (hj : j ≤ 127) (h1 : -40000 ≤ fr ∧ fr ≤ 40000) (h2 : -40000 ≤ ri ∧ ri ≤ 40000) (h3 : -40000 ≤ dn ∧ dn ≤ 40000) :
    wrap64 (fr + wrap64 ((wrap64 (wrap64 ((i : Int) * ri) + wrap64 ((j : Int) * dn))).tdiv 16)) % 256 = slV fr ri dn i j := by
  have b1 := mul_bd i ri hi h2
  have b2 := mul_bd j dn hj h3
  unfold slV
  generalize (i : Int) * ri = x at *
  generalize (j : Int) * dn = y at *
  rw [WID (x := x) (by omega) (by omega), WID (x := y) (by omega) (by omega), WID (x := x + y) (by omega) (by omega)]
  have b3 : -10160000 ≤ (x + y).tdiv 16 ∧ (x + y).tdiv 16 ≤ 10160000 := by
    have h4 := Int.mul_tdiv_add_tmod (x + y) 16
    have h5 := tmod_bd16 (x + y)
    omega
  rw [WID (x := (x + y).tdiv 16) (by omega) (by omega), WID (x := fr + (x + y).tdiv 16) (by omega) (by omega)]
theorem slV_bd (fr ri dn : Int) (i j : Nat) : 0 ≤ slV fr ri dn i j ∧ slV fr ri dn i j ≤ 255 := by unfold slV; omega
/-- The samples, while they are overwritten row by row: n are done. -/
def slF (W : Nat) (fr ri dn : Int) (n : Nat) (s : Nat → Int) (k : Nat) : Int := if k < n then slV fr ri dn (k % W) (k / W) else s k
theorem slF_step {W H i j : Nat} {fr ri dn : Int} {s : Nat → Int} (hi : i < W) (hj : j < H) :
    plSet W H (slF W fr ri dn (j * W + i) s) (i : Int) (j : Int) (slV fr ri dn i j) = slF W fr ri dn (j * W + (i + 1)) s := by
  rw [plSet_in (by omega)]
  funext k
  simp only [Int.toNat_natCast]
  unfold slF
  by_cases e : k = j * W + i
  · subst e
    have e1 : (j * W + i) % W = i := by rw [Nat.mul_comm, Nat.mul_add_mod]; exact Nat.mod_eq_of_lt hi
    have e2 : (j * W + i) / W = j := by rw [Nat.mul_comm, Nat.mul_add_div (by omega), Nat.div_eq_of_lt hi]; rfl
    rw [if_pos rfl, if_pos (by omega), e1, e2]
  · rw [if_neg e]
    by_cases e2 : k < j * W + i
    · rw [if_pos e2, if_pos (by omega)]
    · rw [if_neg e2, if_neg (by omega)]

set_option maxHeartbeats 2000000 in
theorem slope_any (f : Fr) (fr ri dn : Int) (w : World) (hM : f.Mem w) (h1 : -40000 ≤ fr ∧ fr ≤ 40000) (h2 : -40000 ≤ ri ∧ ri ≤ 40000) (h3 : -40000 ≤ dn ∧ dn ≤ 40000) :
    Calls Try.prog 97 #[f.val, .int .i64 fr, .int .i64 ri, .int .i64 dn] w
      (WroteP f.bY (16 * f.c * (16 * f.r)) (slF (16 * f.c) fr ri dn (16 * f.c * (16 * f.r)) f.sY) w) := by
  have hc := hM.hc; have hr := hM.hr
  have HP := hM.y
  have hy := HP.lt
  clear hM
  unfold Fr.val
  go_enter Try.func97, Try.ntmps97
  have HO : Ob (w.alloc (.cells f.cells 43)) w.heap.size FRT f.cells := Ob.new_at _ _ rfl
  have c3 := HO.fYH
  go_wp2_with fail
  clear c3
  replace HP := HP.alloc (.cells f.cells 43)
  have HW : Wr f.bY w (w.alloc (.cells f.cells 43)) := (Wr.refl _ _).alloc _
  generalize w.alloc (.cells f.cells 43) = w2 at *
  replace HP := HP.congr (s' := slF (16 * f.c) fr ri dn (0 * (16 * f.c)) f.sY) (fun j _ => by simp [slF])
  go_loopw [13] (fun i wr => ∃ j : Nat, j ≤ 16 * f.r ∧ i = .int .i64 j ∧ Ob wr w.heap.size FRT f.cells ∧ PB wr f.bY (16 * f.c * (16 * f.r)) (slF (16 * f.c) fr ri dn (j * (16 * f.c)) f.sY) ∧ Wr f.bY w wr) (fun i _ => 16 * f.r - (intOf i).toNat)
  case atStart => exact ⟨0, by omega, rfl, HO, HP, HW⟩
  case round =>
    clear HO HP HW
    obtain ⟨j, hj, rfl, HO, HP, HW⟩ := hrel
    by_cases hlt : j < 16 * f.r
    · have hd : decide ((j : Int) < 16 * (f.r : Int)) = true := by simp; omega
      have c2 := HO.fYW
      go_wp2_with fail
      clear c2
      replace HP := HP.congr (s' := slF (16 * f.c) fr ri dn (j * (16 * f.c) + 0) f.sY) (fun j _ => by rfl)
      go_loopw [19] (fun v wr => ∃ i : Nat, i ≤ 16 * f.c ∧ v = .int .i64 i ∧ Ob wr w.heap.size FRT f.cells ∧ PB wr f.bY (16 * f.c * (16 * f.r)) (slF (16 * f.c) fr ri dn (j * (16 * f.c) + i) f.sY) ∧ Wr f.bY w wr) (fun i _ => 16 * f.c - (intOf i).toNat)
      case atStart => exact ⟨0, by omega, rfl, HO, HP, HW⟩
      case round =>
        clear HO HP HW
        obtain ⟨i, hi, rfl, HO, HP, HW⟩ := hrel
        by_cases hlt2 : i < 16 * f.c
        · have hd2 : decide ((i : Int) < 16 * (f.c : Int)) = true := by simp; omega
          have c2 := HO.fYW
          have c3 := HO.fYH
          have c4 := HO.fYS
          go_wp2_with fail
          rw [slV_wrap (by omega) (by omega) h1 h2 h3]
          refine (set16_any f.c f.r f.bY f.cY _ _ _ _ _ hc hr (slV_bd _ _ _ _ _) HP).mono ?_
          rintro e w3 ⟨rfl, HP3, hWr⟩
          rw [slF_step hlt2 hlt] at HP3
          replace HO := HO.wr hWr (by omega)
          replace HW := HW.trans hWr
          clear HP hWr c2 c3 c4
          go_wp2_with fail
          exact ⟨⟨i + 1, by omega, by go_num, HO, HP3, HW⟩, by simp [intOf]; omega⟩
        · obtain rfl : i = 16 * f.c := by omega
          have hd2 : decide (((16 * f.c : Nat) : Int) < 16 * (f.c : Int)) = false := by simp
          go_wp2_with fail
          exact ⟨⟨j + 1, by omega, by go_num, HO, HP.congr (fun k _ => by rw [Nat.add_mul, Nat.one_mul]), HW⟩, by simp [intOf]; omega⟩
    · obtain rfl : j = 16 * f.r := by omega
      go_wp2_with fail
      go_end0
      exact ⟨rfl, HP.congr (fun k _ => by rw [Nat.mul_comm (16 * f.r)]), HW⟩
end Go.Proofs.Ytbldgpemocnboaa

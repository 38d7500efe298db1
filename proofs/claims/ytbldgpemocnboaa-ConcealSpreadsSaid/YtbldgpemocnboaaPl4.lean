/- Plane.Put, walked. -/
import Derived.Test.YtbldgpemocnboaaPl3
namespace Go.Proofs.Ytbldgpemocnboaa
open Go.RowKit
attribute [local go_sem ↓] run_imax run_imin

def sat (n : Int) : Int := imax (imin n 255) 0
theorem sat_bd (n : Int) : 0 ≤ sat n ∧ sat n ≤ 255 := by unfold sat; rw [imax_eq, imin_eq]; omega
/-- The first k of eight by eight samples are put. -/
def putF (W H : Nat) (s : Nat → Int) (x y : Int) (p : Nat → Int) : Nat → Nat → Int
  | 0 => s
  | k + 1 => plSet W H (putF W H s x y p k) (x + (k : Int) % 8) (y + (k : Int) / 8) (sat (p k))

set_option maxHeartbeats 1000000 in
theorem put_any (W H b c : Nat) (s p : Nat → Int) (x y : Int) (w : World) (hW2 : W ≤ 1024) (hH2 : H ≤ 1024) (hP : PB w b (W * H) s)
    (hx : -2199023255552 ≤ x) (hx2 : x ≤ 2199023255552) (hy : -2199023255552 ≤ y) (hy2 : y ≤ 2199023255552) :
    Calls Try.prog 101 #[plV W H b (W * H) c, .int .i64 x, .int .i64 y, .agg (fcells 64 (ival p))] w (WroteP b (W * H) (putF W H s x y p 64) w) := by
  unfold plV
  go_enter Try.func101, Try.ntmps101
  have HZ : Blk ((w.alloc (.cells (plC W H b (W * H) c) PLT)).alloc (.cells (fcells 64 (ival p)) 27)) (w.heap.size + 1) 27 64 (ival p) := Blk.new_at _ _ _ (by simp)
  have HO : Ob ((w.alloc (.cells (plC W H b (W * H) c) PLT)).alloc (.cells (fcells 64 (ival p)) 27)) w.heap.size PLT (plC W H b (W * H) c) := (Ob.new_at _ _ rfl).alloc _
  have hlt := hP.lt
  replace hP : PB ((w.alloc (.cells (plC W H b (W * H) c) PLT)).alloc (.cells (fcells 64 (ival p)) 27)) b (W * H) s := (hP.alloc _).alloc _
  have hW : Wr b w ((w.alloc (.cells (plC W H b (W * H) c) PLT)).alloc (.cells (fcells 64 (ival p)) 27)) := ((Wr.refl _ _).alloc _).alloc _
  unfold plC at HZ HO hP hW
  go_wp2_with (refine wpList_load_blk HZ rfl _ _ rfl rfl und28 (by kernel_rfl) ?_)
  generalize (w.alloc (.cells #[.int .i64 (W : Int), .int .i64 (H : Int), .slice (some ⟨b, 0, none⟩) (W * H) c] PLT)).alloc (.cells (fcells 64 (ival p)) 27) = w2 at *
  clear HZ
  go_loopw [11] (fun i wr => ∃ k : Nat, k ≤ 64 ∧ i = .int .i64 k ∧ Ob wr w.heap.size PLT (plC W H b (W * H) c) ∧ PB wr b (W * H) (putF W H s x y p k) ∧ Wr b w wr) (fun i _ => 64 - (intOf i).toNat)
  case atStart => exact ⟨0, by omega, rfl, HO, hP, hW⟩
  case round =>
    clear HO hP hW
    obtain ⟨k, hk, rfl, HO, hP, hW⟩ := hrel
    by_cases hk8 : k < 64
    · have hd : decide ((k : Int) < 64) = true := by simp; omega
      have i1 : (0 : Int) ≤ k := by omega
      have i2 : (k : Int) < 64 := by omega
      have hix : ∀ W, (Instr.index 27 (.agg (fcells 64 (ival p))) (.int .i64 (k : Int))).run Try.prog W = .ok (.int .i64 (p k)) W := fun W =>
        run_index_fcells W _ _ 64 (ival p) k und28 (by kernel_rfl) (by kernel_rfl) (by omega) (by omega)
      obtain ⟨hs1, hs2⟩ := sat_bd (p k)
      have hsat := Lib.hid (show imax (imin (p k) 255) 0 = sat (p k) from rfl)
      unfold sat at hs1 hs2
      go_wp2_with (refine wpList_load_ob HO rfl _ _ rfl rfl Try.underlying41 (by kernel_rfl) ?_)
      rw [hsat.out]
      refine (set_any W H b c _ _ _ _ _ hW2 hH2 (sat_bd _) hP).mono ?_
      rintro e w3 ⟨rfl, hP3, hW3⟩
      replace HO := HO.wr hW3 (by omega); replace hW := hW.trans hW3
      clear hP hW3
      go_wp2_with fail
      exact ⟨⟨k + 1, by omega, by go_num, HO, hP3, hW⟩, by simp [intOf]; omega⟩
    · obtain rfl : k = 64 := by omega
      go_wp2_with fail
      go_end0
      exact ⟨rfl, hP, hW⟩

theorem idx_one {W i j x y : Nat} (hi : i < W) (hx : x < W) (h : j * W + i = y * W + x) : j = y ∧ i = x := by
  have h1 : (j * W + i) / W = j := by rw [Nat.mul_comm, Nat.mul_add_div (by omega), Nat.div_eq_of_lt hi, Nat.add_zero]
  have h2 : (y * W + x) / W = y := by rw [Nat.mul_comm, Nat.mul_add_div (by omega), Nat.div_eq_of_lt hx, Nat.add_zero]
  rw [h] at h1
  obtain rfl : j = y := h1.symm.trans h2
  exact ⟨rfl, by omega⟩
/-- What a sample is behind k of the 64. -/
theorem putF_at {W H : Nat} {s p : Nat → Int} {px py : Int} {i j : Nat} (hi : i < W) (hj : j < H) (k : Nat) (hk : k ≤ 64) :
    putF W H s px py p k (j * W + i) = if (px ≤ i ∧ i < px + 8 ∧ py ≤ j ∧ j < py + 8) ∧ 8 * ((j : Int) - py) + i - px < k then sat (p (8 * ((j : Int) - py) + i - px).toNat) else s (j * W + i) := by
  induction k with
  | zero => rw [if_neg (by omega)]; rfl
  | succ k ih =>
    have ih := ih (by omega)
    unfold putF plSet
    by_cases h : (0 ≤ px + (k : Int) % 8 ∧ px + (k : Int) % 8 < W ∧ 0 ≤ py + (k : Int) / 8 ∧ py + (k : Int) / 8 < H) ∧ j * W + i = (py + (k : Int) / 8).toNat * W + (px + (k : Int) % 8).toNat
    · obtain ⟨h1, h2⟩ := h
      obtain ⟨e1, e2⟩ := idx_one hi (by omega) h2
      rw [if_pos ⟨h1, h2⟩, if_pos (by omega)]
      congr 2
      omega
    · rw [if_neg h, ih]
      by_cases h3 : (px ≤ i ∧ i < px + 8 ∧ py ≤ j ∧ j < py + 8) ∧ 8 * ((j : Int) - py) + i - px < k
      · rw [if_pos h3, if_pos (by omega)]
      · rw [if_neg h3, if_neg ?_]
        rintro ⟨h4, h5⟩
        have e : 8 * ((j : Int) - py) + i - px = k := by omega
        have e1 : (i : Int) = px + (k : Int) % 8 := by omega
        have e2 : (j : Int) = py + (k : Int) / 8 := by omega
        refine h ⟨by omega, ?_⟩
        rw [← e1, ← e2]; simp
end Go.Proofs.Ytbldgpemocnboaa

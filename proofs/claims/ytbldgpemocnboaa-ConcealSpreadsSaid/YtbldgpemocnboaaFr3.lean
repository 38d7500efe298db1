/- Frame's Middle, walked; kinescopelaw06.Awake. -/
import Derived.Test.YtbldgpemocnboaaFr2
namespace Go.Proofs.Ytbldgpemocnboaa
open Go.RowKit
attribute [local go_sem ↓] run_imax run_imin

def sumTo (g : Nat → Int) : Nat → Int
  | 0 => 0
  | k + 1 => sumTo g k + g k
theorem sumTo_bd {g : Nat → Int} {K : Int} (h : ∀ k, 0 ≤ g k ∧ g k ≤ K) (n : Nat) : 0 ≤ sumTo g n ∧ sumTo g n ≤ K * n := by
  induction n with
  | zero => simp [sumTo]
  | succ n ih =>
    have := h n
    have e : K * ((n + 1 : Nat) : Int) = K * n + K := by rw [Int.natCast_add]; simp [Int.mul_add]
    rw [e]
    unfold sumTo; omega
theorem sumTo_congr {g h : Nat → Int} (n : Nat) (e : ∀ k, k < n → g k = h k) : sumTo g n = sumTo h n := by
  induction n with
  | zero => rfl
  | succ n ih => unfold sumTo; rw [ih (fun k hk => e k (by omega)), e n (by omega)]
/-- One of a macroblock's blocks of light. -/
def lightF (f : Fr) (mb k : Nat) : Nat → Int := blockF (16 * f.c) (16 * f.r) f.sY (16 * ((mb : Int) % (f.c : Int)) + 8 * ((k : Int) % 2)) (16 * ((mb : Int) / (f.c : Int)) + 8 * ((k : Int) / 2))
def midS (f : Fr) (mb : Nat) : Nat → Int := sumTo fun k => sumTo (lightF f mb k) 64
theorem lightF_bd {f : Fr} {w : World} (h : f.Mem w) (mb k i : Nat) : 0 ≤ lightF f mb k i ∧ lightF f mb k i ≤ 255 := plAt_bd h.y _ _
theorem midS_bd {f : Fr} {w : World} (h : f.Mem w) (mb k : Nat) : 0 ≤ midS f mb k ∧ midS f mb k ≤ 16320 * k :=
  sumTo_bd (fun k => by have := sumTo_bd (fun i => lightF_bd h mb k i) 64; omega) k

set_option maxRecDepth 100000 in
set_option maxHeartbeats 2000000 in
theorem middle_any (f : Fr) (mb : Nat) (w : World) (h1 : 0 < f.c) (hM : f.Mem w) (hm : mb ≤ 1000000) :
    Calls Try.prog 95 #[f.val, .int .i64 (mb : Int)] w fun e w' => e = .returned (.int .i64 (midS f mb 4 / 256)) ∧ Below w.heap.size w w' := by
  have h2 := hM.hc
  unfold Fr.val
  go_enter Try.func95, Try.ntmps95
  have HO : Ob (w.alloc (.cells f.cells FRT)) w.heap.size FRT f.cells := Ob.new_at _ _ rfl
  have HW : Below w.heap.size w (w.alloc (.cells f.cells FRT)) := by ((repeat (first | exact Below.refl _ _ | assumption | refine Below.setCell ?_ (by first | omega | (simp; done) | (simp; omega)) _ | refine Below.alloc ?_ (by first | omega | (simp; done) | (simp; omega)) _ | refine below_drewN ?_ _ | refine Below.drew ?_ | refine below_setRow ?_ (by first | omega | (simp; done) | (simp; omega)) _)))
  replace hM := hM.alloc (.cells f.cells FRT)
  go_wp2_with fail
  generalize w.alloc (.cells f.cells FRT) = w2 at *
  go_loopw [5, 12] (fun s i wr => ∃ k : Nat, k ≤ 4 ∧ i = .int .i64 k ∧ s = .int .i64 (midS f mb k) ∧ Ob wr w.heap.size FRT f.cells ∧ f.Mem wr ∧ Below w.heap.size w wr) (fun _ i _ => 4 - (intOf i).toNat)
  case atStart => exact ⟨0, by omega, rfl, rfl, HO, hM, HW⟩
  case round =>
    clear HO hM HW
    obtain ⟨k, hk, rfl, rfl, HO, hM, HW⟩ := hrel
    obtain ⟨mb1, mb2⟩ := midS_bd hM mb k
    by_cases hk8 : k < 4
    · have hd : decide ((k : Int) < 4) = true := by simp; omega
      have i1 : (0 : Int) ≤ k := by omega
      obtain ⟨m1, m2, m3, m4⟩ := mb_bd mb f.c hm
      have hst := Lib.hid (show midS f mb (k + 1) = midS f mb k + sumTo (lightF f mb k) 64 from rfl)
      have hlb := fun i => lightF_bd hM mb k i
      have hsb := Lib.hid (sumTo_bd hlb)
      replace hlb := Lib.hid hlb
      generalize hS : midS f mb k = S at *
      replace hS := Lib.hid hS
      go_wp2_with (refine wpList_load_ob HO rfl _ _ rfl rfl Try.underlying43 (by kernel_rfl) ?_)
      refine (frBlockY f mb k _ h1 h2 hm hk8).mono ?_
      rintro e w3 ⟨rfl, hb⟩
      replace HO := HO.later hb; replace hM := hM.later hb; replace HW := below_step HW hb
      clear hb
      simp only [blkY, plV_16]
      go_wp2_with fail
      rw [← plV_16]
      refine (block_any (16 * f.c) (16 * f.r) _ _ _ _ _ _ (by omega) (by have := hM.hr; omega) (hM.y.alloc _) (by omega) (by omega) (by omega) (by omega)).mono ?_
      rintro e w4 ⟨rfl, hb⟩
      replace HO := (HO.alloc _).later hb; replace hM := (hM.alloc _).later hb; replace HW := below_step (HW.alloc HW.size _) hb
      clear hb
      go_wp2_with fail
      generalize hg : lightF f mb k = g at *
      replace hg := Lib.hid hg
      have hg2 : blockF (16 * f.c) (16 * f.r) f.sY (16 * ((mb : Int) % (f.c : Int)) + 8 * ((k : Int) % 2)) (16 * ((mb : Int) / (f.c : Int)) + 8 * ((k : Int) / 2)) = g := hg.out
      rw [hg2]
      clear hg2
      go_loop [5, 27] (fun s i => ∃ j : Nat, j ≤ 64 ∧ i = .int .i64 j ∧ s = .int .i64 (S + sumTo g j)) (fun _ i => 64 - (intOf i).toNat)
      case atStart => exact ⟨0, by omega, rfl, by simp [sumTo]⟩
      case round =>
        obtain ⟨j, hj, rfl, rfl⟩ := hrel
        have hsj := hsb.out j
        by_cases hj8 : j < 64
        · have hd : decide ((j : Int) < 64) = true := by simp; omega
          have i2 : (0 : Int) ≤ j := by omega
          have i3 : (j : Int) < 64 := by omega
          have hgj := hlb.out j
          have hix : ∀ W, (Instr.index 27 (.agg (fcells 64 (ival g))) (.int .i64 (j : Int))).run Try.prog W = .ok (.int .i64 (g j)) W := fun W =>
            run_index_fcells W _ _ 64 (ival g) j und28 (by kernel_rfl) (by kernel_rfl) (by omega) (by omega)
          have hst2 := Lib.hid (show sumTo g (j + 1) = sumTo g j + g j from rfl)
          go_wp2_with fail
          go_round
          case rel => exact ⟨j + 1, by omega, by go_num, by rw [hst2.out]; go_num⟩
          case measure => simp [intOf]; omega
        · obtain rfl : j = 64 := by omega
          go_wp2_with fail
          exact ⟨⟨k + 1, by omega, by go_num, by rw [hst.out], HO, hM, HW⟩, by simp [intOf]; omega⟩
    · obtain rfl : k = 4 := by omega
      go_wp2_with fail
      go_ret
      exact ⟨rfl, HW⟩

theorem sumTo_const (v : Int) (n : Nat) : sumTo (fun _ => v) n = v * n := by
  induction n with
  | zero => simp [sumTo]
  | succ n ih => unfold sumTo; rw [ih, Int.natCast_add]; simp [Int.mul_add]
theorem plAt_flat {W H : Nat} (hW : 0 < W) (hH : 0 < H) (v x y : Int) : plAt W H (fun _ => v) x y = v := by
  unfold plAt; rw [if_neg (by omega)]
theorem mid_flat (c r b1 b2 b3 mb : Nat) (v : Int) (hc : 0 < c) (hr : 0 < r) : midS (frFlat c r b1 b2 b3 v) mb 4 / 256 = v := by
  have h : ∀ k, lightF (frFlat c r b1 b2 b3 v) mb k = fun _ => v := by
    intro k; funext i
    exact plAt_flat (W := 16 * c) (H := 16 * r) (by omega) (by omega) v (16 * ((mb : Int) % (c : Int)) + 8 * ((k : Int) % 2) + (i % 8 : Nat)) (16 * ((mb : Int) / (c : Int)) + 8 * ((k : Int) / 2) + (i / 8 : Nat))
  unfold midS
  simp only [h, sumTo_const]
  omega

set_option maxHeartbeats 1000000 in
theorem awake6 (w : World) :
    Calls Try.prog 30 #[] w fun e w' => e = .returned (.bool true) ∧ Below w.heap.size w w' := by
  go_enter Try.func30, Try.ntmps30
  go_wp2_with fail
  refine (newFrame_any _ _ 7 1 1 _ (by decide) (by decide) (by omega)).mono ?_
  rintro e w1 ⟨b1, b2, b3, rfl, _, hM, hb⟩
  have HO : Ob (w1.alloc (.cells (frFlat 1 1 b1 b2 b3 7).cells FRT)) w1.heap.size FRT (frFlat 1 1 b1 b2 b3 7).cells := Ob.new_at _ _ rfl
  replace hM := hM.alloc (.cells (frFlat 1 1 b1 b2 b3 7).cells FRT)
  replace hb := hb.alloc hb.size (.cells (frFlat 1 1 b1 b2 b3 7).cells FRT)
  have hmid := Lib.hid (mid_flat 1 1 b1 b2 b3 0 7 (by omega) (by omega))
  have g1 : 0 < (frFlat 1 1 b1 b2 b3 7).c := by simp [frFlat]
  have g2 : 0 < (frFlat 1 1 b1 b2 b3 7).r := by simp [frFlat]
  generalize frFlat 1 1 b1 b2 b3 7 = f at *
  unfold Fr.val Fr.cells
  go_wp2_with (refine wpList_load_ob HO rfl _ _ rfl rfl Try.underlying43 (by kernel_rfl) ?_)
  refine (check_ok f _ g1 hM.hc g2 hM.hr).mono ?_
  rintro e w3 ⟨rfl, hb3⟩
  replace HO := HO.later hb3; replace hM := hM.later hb3; replace hb := below_step hb hb3
  clear hb3
  go_wp2_with (refine wpList_load_ob_g HO rfl _ _ rfl rfl Try.underlying43 (by kernel_rfl) ?_)
  refine (middle_any f 0 _ g1 hM (by omega)).mono ?_
  rw [hmid.out]
  rintro e w4 ⟨rfl, hb4⟩
  go_wp2_with fail
  go_ret
  exact ⟨rfl, below_step hb hb4⟩
end Go.Proofs.Ytbldgpemocnboaa

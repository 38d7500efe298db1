/- comp.Reach; kinescopelaw14.Awake, walked. -/
import Derived.Test.YtbldgpemocnboaaTou
namespace Go.Proofs.Ytbldgpemocnboaa
open Go.RowKit Go.Sort Go.Maps
attribute [local go_sem ↓] run_imax run_imin

/-- The last column of light, of the first k blocks. -/
def reachTo (c r mb : Nat) (X : Nat → Int) : Nat → Int
  | 0 => 0
  | k + 1 => imax (reachTo c r mb X k) (if k = 4 then 2 * tx1 c r mb X k + 1 else tx1 c r mb X k)
theorem reachTo_bd {c r mb : Nat} {X : Nat → Int} (hc : 0 < c) (h8 : c ≤ 8) (k : Nat) : 0 ≤ reachTo c r mb X k ∧ reachTo c r mb X k ≤ 300 := by
  induction k with
  | zero => unfold reachTo; omega
  | succ k ih =>
    unfold reachTo
    have b1 := tx_bd (c := c) (r := r) (mb := mb) (X := X) hc k
    have b2 : (szb k : Int) * c ≤ 128 := by rcases szb_or k with h | h <;> rw [h] <;> omega
    rw [imax_eq]
    split <;> omega
set_option maxRecDepth 1000000 in
set_option maxHeartbeats 8000000 in
theorem reach_any (c r mb : Nat) (X Y : Nat → Int) (w : World) (h1 : 0 < c) (h2 : c ≤ 8) (hm : mb ≤ 1000000) (hV : V4b X Y) :
    Calls Try.prog 73 #[.int .i64 (c : Int), .int .i64 (mb : Int), .agg (fcells 4 (vc4 X Y))] w fun e w' => e = .returned (.int .i64 (reachTo c r mb X 5)) ∧ Below w.heap.size w w' := by
  replace hV := Lib.hid hV
  have ic : imax (c : Int) 1 = c := by rw [imax_eq]; omega
  go_enter Try.func73, Try.ntmps73
  go_wp2_with fail
  clear ic
  generalize hw2 : (w.alloc (.cells (fcells 4 (vc4 X Y)) 63)).alloc (.cells #[.int .i64 (c : Int), .int .i64 0, .int .i64 0, .int .i64 0, .slice none 0 0, .int .i64 0, .int .i64 0, .slice none 0 0, .int .i64 0, .int .i64 0, .slice none 0 0] FRT) = w2
  have HV : Blk w2 w.heap.size 63 4 (vc4 X Y) := by rw [← hw2]; exact (Blk.new_at _ _ _ rfl).alloc _
  have HF : Ob w2 (w.heap.size + 1) FRT #[.int .i64 (c : Int), .int .i64 0, .int .i64 0, .int .i64 0, .slice none 0 0, .int .i64 0, .int .i64 0, .slice none 0 0, .int .i64 0, .int .i64 0, .slice none 0 0] := by rw [← hw2]; exact Ob.new_at _ _ (by simp)
  have HW : Below w.heap.size w w2 := by rw [← hw2]; ((repeat (first | exact Below.refl _ _ | assumption | refine Below.setCell ?_ (by first | omega | (simp; done) | (simp; omega)) _ | refine Below.alloc ?_ (by first | omega | (simp; done) | (simp; omega)) _ | refine below_drewN ?_ _ | refine Below.drew ?_ | refine below_setRow ?_ (by first | omega | (simp; done) | (simp; omega)) _)))
  clear hw2
  go_loopw [7, 22] (fun m i wr => ∃ (k : Nat), k ≤ 5 ∧ i = .int .i64 k ∧ m = .int .i64 (reachTo c r mb X k) ∧ Blk wr w.heap.size 63 4 (vc4 X Y) ∧ Ob wr (w.heap.size + 1) FRT #[.int .i64 (c : Int), .int .i64 0, .int .i64 0, .int .i64 0, .slice none 0 0, .int .i64 0, .int .i64 0, .slice none 0 0, .int .i64 0, .int .i64 0, .slice none 0 0] ∧ Below w.heap.size w wr) (fun _ i _ => 5 - (intOf i).toNat)
  case atStart => exact ⟨0, by omega, rfl, rfl, HV, HF, HW⟩
  case round =>
    clear HV HF HW
    obtain ⟨k, hk, rfl, rfl, HV, HF, HW⟩ := hrel
    by_cases hk5 : k < 5
    · have hd : decide ((k : Int) < 5) = true := by simp; omega
      go_wp2_with (refine wpList_load_blk HV rfl 63 _ rfl rfl und63 (by kernel_rfl) ?_)
      refine (colour_any X Y _ hV.out).mono ?_
      rintro e w3 ⟨rfl, hb⟩
      replace HV := HV.later hb; replace HF := HF.later hb; replace HW := below_step HW hb
      clear hb hd
      unfold vcV
      go_upto_if 28 with fail
      go_cut [10, 11] (fun t u wx => t = vcV (vk X k) (vk Y k) ∧ u = .int .i64 (szb k : Int) ∧ wx = w3)
      case first =>
        by_cases h4 : k < 4
        · have d4 : decide ((k : Int) < 4) = true := by simp; omega
          have c5 := HV.cell h4
          have e : szb k = 16 := by unfold szb; rw [if_pos h4]
          replace e := Lib.hid e
          unfold vc4 vcV at c5
          go_wp2_with fail
          go_meet
          exact ⟨by unfold vk vcV; rw [if_pos h4, if_pos h4], by rw [e.out]; rfl, rfl⟩
        · have d4 : decide ((k : Int) < 4) = false := by simp; omega
          have e : szb k = 8 := by unfold szb; rw [if_neg h4]
          replace e := Lib.hid e
          go_wp2_with fail
          go_meet
          exact ⟨by unfold vk vcV; rw [if_neg h4, if_neg h4], by rw [e.out]; rfl, rfl⟩
      case rest =>
        obtain ⟨rfl, rfl, rfl⟩ := hcut
        obtain ⟨⟨v1, v2⟩, v3, v4⟩ := vk_bd hV.out k
        have hS := szb_or k
        obtain ⟨x1, x2, x3⟩ := tx_bd (c := c) (r := r) (mb := mb) (X := X) h1 k
        obtain ⟨p1, p2, p3, p4⟩ := (fz c r).pxy_bd (k := k) hm (by omega)
        have hsx : ∀ W, Calls Try.prog 113 #[.int .i64 ((fz c r).px mb k), .int .i64 (vk X k), .int .i64 ((szb k : Int) * (c : Int))] W fun e w' => e = .returned (.tuple #[.int .i64 (tx0 c r mb X k), .int .i64 (tx1 c r mb X k)]) ∧ w' = W := fun W => by
          have h := span_any ((fz c r).px mb k) (vk X k) ((szb k : Int) * (c : Int)) W (by omega) (by omega) (by omega) (by omega) (by rcases hS with h | h <;> rw [h] <;> omega) (by rcases hS with h | h <;> rw [h] <;> omega)
          exact h.mono fun e w' h => ⟨h.1, h.2.symm⟩
        have hfb := fun W => frBlock0 c r mb k 0 W h1 h2 hm hk5
        have hst : reachTo c r mb X (k + 1) = imax (reachTo c r mb X k) (if k = 4 then 2 * tx1 c r mb X k + 1 else tx1 c r mb X k) := rfl
        obtain ⟨r1, r2⟩ := reachTo_bd (r := r) (mb := mb) (X := X) h1 h2 k
        have hsc : 0 ≤ (szb k : Int) * (c : Int) ∧ (szb k : Int) * (c : Int) ≤ 128 := by rcases hS with h | h <;> rw [h] <;> omega
        obtain ⟨sc1, sc2⟩ := hsc
        generalize reachTo c r mb X k = m1 at *
        generalize tx0 c r mb X k = x0 at *
        generalize tx1 c r mb X k = xl at *
        generalize (fz c r).px mb k = px at *
        generalize (fz c r).py mb k = py at *
        generalize szb k = S at *
        have xl2 : xl ≤ 128 := by omega
        replace hsx := Lib.hid hsx; replace hfb := Lib.hid hfb; replace hS := Lib.hid hS; replace hst := Lib.hid hst
        clear x3
        go_wp2_with fail
        refine (parts_any (vk X k) (vk Y k) _ (by omega) (by omega)).mono ?_
        rintro e w4 ⟨rfl, rfl⟩
        go_wp2_with (refine wpList_load_ob_g HF rfl 43 _ rfl rfl Try.underlying43 (by kernel_rfl) ?_)
        refine (hfb.out _).mono ?_
        rintro e w5 ⟨rfl, hb⟩
        replace HV := HV.later hb; replace HF := HF.later hb; replace HW := below_step HW hb
        clear hb
        unfold plZ
        go_upto_region 11 with fail
        replace HV := HV.alloc (.cells #[.int .i64 0, .int .i64 0, .slice none 0 0] PLT); replace HF := HF.alloc (.cells #[.int .i64 0, .int .i64 0, .slice none 0 0] PLT); replace HW := HW.alloc HW.size (.cells #[.int .i64 0, .int .i64 0, .slice none 0 0] PLT)
        generalize w5.alloc (.cells #[.int .i64 0, .int .i64 0, .slice none 0 0] PLT) = w6 at *
        generalize w5.heap.size = pp at *
        have g0 := HF.cell 0 rfl
        go_wp2_with fail
        refine (hsx.out _).mono ?_
        rintro e w7 ⟨rfl, rfl⟩
        clear g0
        by_cases h4 : k = 4
        · have d4 : ((k : Int) == 4) = true := by simp; omega
          have hst2 := hst.out
          rw [if_pos h4] at hst2
          replace hst2 := Lib.hid hst2; replace h4 := Lib.hid h4
          go_wp2_with fail
          exact ⟨⟨k + 1, by omega, by go_num, by rw [hst2.out], HV, HF, HW⟩, by simp [intOf]; omega⟩
        · have d4 : ((k : Int) == 4) = false := by simp; omega
          have hst2 := hst.out
          rw [if_neg h4] at hst2
          replace hst2 := Lib.hid hst2; replace h4 := Lib.hid h4
          go_wp2_with fail
          exact ⟨⟨k + 1, by omega, by go_num, by rw [hst2.out], HV, HF, HW⟩, by simp [intOf]; omega⟩
    · obtain rfl : k = 5 := by omega
      have hd : decide (((5 : Nat) : Int) < 5) = false := by decide
      go_wp2_with fail
      go_ret
      exact ⟨rfl, HW⟩
theorem vc00 : vcV 0 0 = .complex .f64 0 0 := rfl
/-- A list of one. -/
theorem one_list {L : List Int} {v : Int} (hp : L.Pairwise (· < ·)) (h : ∀ x, x ∈ L ↔ x = v) : L = [v] := by
  match L, hp, h with
  | [], _, h => have := (h v).2 rfl; cases this
  | [a], _, h => have := (h a).1 (by simp); rw [this]
  | a :: b :: l, hp, h =>
    have e1 := (h a).1 (by simp)
    have e2 := (h b).1 (by simp)
    rw [List.pairwise_cons] at hp
    have := hp.1 b (by simp)
    omega
theorem box14 : ∀ k, k < 5 → (ty0 2 2 3 (fun _ => 0) k).toNat / szb k = 1 ∧ (ty1 2 2 3 (fun _ => 0) k).toNat / szb k = 1 ∧ (tx0 2 2 3 (fun _ => 0) k).toNat / szb k = 1 ∧ (tx1 2 2 3 (fun _ => 0) k).toNat / szb k = 1 := by decide +kernel
theorem touched14 (z : Nat) : touched 2 2 3 (fun _ => 0) (fun _ => 0) z ↔ z = 3 := by
  constructor
  · rintro ⟨k, hk, j, i, ⟨h1, h2⟩, ⟨h3, h4⟩, rfl⟩
    obtain ⟨b1, b2, b3, b4⟩ := box14 k hk
    rw [b1] at h1; rw [b2] at h2; rw [b3] at h3; rw [b4] at h4
    omega
  · rintro rfl
    obtain ⟨b1, b2, b3, b4⟩ := box14 0 (by omega)
    exact ⟨0, by omega, 1, 1, by rw [b1, b2]; omega, by rw [b3, b4]; omega, rfl⟩
theorem reach14 : reachTo 2 1 1 (fun _ => 0) 5 = 31 := by decide +kernel
set_option maxRecDepth 100000 in
set_option maxHeartbeats 1000000 in
theorem awake14 (w : World) : Calls Try.prog 69 #[] w fun e w' => e = .returned (.bool true) ∧ Below w.heap.size w w' := by
  have h0 := all_any 0 0
  rw [vc00] at h0
  have hV : V4b (fun _ => 0) (fun _ => 0) := fun k _ => ⟨⟨by show (-32 : Int) ≤ 0; omega, by show (0 : Int) ≤ 32; omega⟩, by show (-32 : Int) ≤ 0; omega, by show (0 : Int) ≤ 32; omega⟩
  have hrc := fun W => reach_any 2 1 1 (fun _ => 0) (fun _ => 0) W (by omega) (by omega) (by omega) hV
  rw [reach14] at hrc
  replace h0 := Lib.hid h0; replace hrc := Lib.hid hrc
  go_enter Try.func69, Try.ntmps69
  go_wp2_with fail
  refine (h0.out _).mono ?_
  rintro e w1 ⟨rfl, hb⟩
  have HW := hb
  clear hb
  go_wp2_with fail
  refine (touches_any 2 2 3 (fun _ => 0) (fun _ => 0) _ (by omega) (by omega) (by omega) (by omega) (by omega) hV).mono ?_
  rintro e w2 ⟨g, cap, L, rfl, -, -, -, hp, hm, hVB, hb⟩
  replace HW := below_step HW hb
  clear hb
  obtain rfl : L = [3] := one_list hp (fun x => by
    rw [hm x]
    constructor
    · rintro ⟨z, rfl, h⟩; rw [(touched14 z).1 h]; rfl
    · rintro rfl; exact ⟨3, rfl, (touched14 3).2 rfl⟩)
  have c0 := hVB.cell (k := 0) (by simp)
  clear hm hp
  go_wp2_with fail
  refine (h0.out _).mono ?_
  rintro e w3 ⟨rfl, hb⟩
  replace HW := below_step HW hb
  clear hb c0
  go_wp2_with fail
  refine (hrc.out _).mono ?_
  rintro e w4 ⟨rfl, hb⟩
  replace HW := below_step HW hb
  go_wp2_with fail
  go_ret
  exact ⟨rfl, HW⟩
end Go.Proofs.Ytbldgpemocnboaa

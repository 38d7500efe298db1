/- plane.Frame's Moved, walked (printed by wip/tools/moved.py). -/
import Derived.Test.YtbldgpemocnboaaCl1
import Derived.Test.YtbldgpemocnboaaSm
import Derived.Test.YtbldgpemocnboaaIv
namespace Go.Proofs.Ytbldgpemocnboaa
open Go.RowKit Go.Sort
attribute [local go_sem ↓] run_imax run_imin

/-- A plane's samples, moved. -/
def mvS (W H : Nat) (s : Nat → Int) (dx dy : Int) (k : Nat) : Int := plAt W H s (((k % W : Nat) : Int) - dx) (((k / W : Nat) : Int) - dy)
/-- The first j are new. -/
def mvT (j : Nat) (new old : Nat → Int) (k : Nat) : Int := if k < j then new k else old k
theorem mvT_step {j : Nat} {new old : Nat → Int} {v : Int} (hv : v = new j) : (fun k => if k = j then v else mvT j new old k) = mvT (j + 1) new old := by
  funext k; unfold mvT
  by_cases h : k = j
  · subst h; rw [if_pos rfl, if_pos (by omega), hv]
  · rw [if_neg h]
    by_cases h2 : k < j
    · rw [if_pos h2, if_pos (by omega)]
    · rw [if_neg h2, if_neg (by omega)]
theorem mvT_zero (new old : Nat → Int) : mvT 0 new old = old := by funext k; unfold mvT; rw [if_neg (by omega)]
structure MovedF (g f : Fr) (dx dy : Int) : Prop where
  c : g.c = f.c
  r : g.r = f.r
  y : g.sY = mvS (16 * f.c) (16 * f.r) f.sY dx dy
  u : g.sU = mvS (8 * f.c) (8 * f.r) f.sU (dx / 2) (dy / 2)
  v : g.sV = mvS (8 * f.c) (8 * f.r) f.sV (dx / 2) (dy / 2)
def MovedP (f : Fr) (dx dy : Int) (w : World) (e : Ending) (w' : World) : Prop := ∃ g : Fr, e = .returned g.val ∧ MovedF g f dx dy ∧ g.Mem w' ∧ g.From w.heap.size ∧ Below w.heap.size w w'

set_option maxRecDepth 100000 in
set_option maxHeartbeats 8000000 in
theorem moved_any (f : Fr) (dx dy : Int) (w : World) (hM : f.Mem w) (hx : -2147483648 ≤ dx ∧ dx ≤ 2147483648) (hy : -2147483648 ≤ dy ∧ dy ≤ 2147483648) :
    Calls Try.prog 36 #[f.val, .int .i64 dx, .int .i64 dy] w (MovedP f dx dy w) := by
  have hc := hM.hc; have hr := hM.hr
  have hly := hM.y.lt; have hlu := hM.u.lt; have hlv := hM.v.lt
  have HF0 : Ob ((w.alloc (.cells f.cells FRT)).alloc (.cells frZ FRT)) w.heap.size FRT f.cells := (Ob.new_at (w := w) FRT f.cells rfl).alloc _
  have HZ0 : Ob ((w.alloc (.cells f.cells FRT)).alloc (.cells frZ FRT)) (w.heap.size + 1) FRT frZ := Ob.new_at FRT frZ (by simp)
  have HW0 : Below w.heap.size w ((w.alloc (.cells f.cells FRT)).alloc (.cells frZ FRT)) := by ((repeat (first | exact Below.refl _ _ | assumption | refine Below.setCell ?_ (by first | omega | (simp; done) | (simp; omega)) _ | refine Below.alloc ?_ (by first | omega | (simp; done) | (simp; omega)) _ | refine below_drewN ?_ _ | refine Below.drew ?_ | refine below_setRow ?_ (by first | omega | (simp; done) | (simp; omega)) _)))
  replace hM := (hM.alloc (.cells f.cells FRT)).alloc (.cells frZ FRT)
  have hcl := clone_any f _ hM
  have hsz : ((w.alloc (.cells f.cells FRT)).alloc (.cells frZ FRT)).heap.size = w.heap.size + 2 := by simp
  unfold Fr.val at hcl ⊢
  unfold frZ at HF0 HZ0 HW0 hM hcl hsz
  unfold Fr.cells at HF0 HZ0 HW0 hM hcl hsz ⊢
  go_enter Try.func36, Try.ntmps36
  go_wp2_with fail
  refine hcl.mono ?_
  clear hcl
  rintro e w1 ⟨⟨gc, gr, bY, bU, bV, kY, kU, kV, gY, gU, gV⟩, rfl, ⟨hl1, hl2, hl3, hl4, hl5⟩, hG, hF, hb⟩
  simp only at hl1 hl2 hl3 hl4 hl5
  subst hl1 hl2 hl3 hl4 hl5
  have HF := HF0.later hb; have HZ := HZ0.later hb; have HW := below_step HW0 hb
  replace hM := hM.later hb
  rw [hsz] at hF
  have f1 : w.heap.size + 2 ≤ bY := hF.y; have f2 : w.heap.size + 2 ≤ bU := hF.u; have f3 : w.heap.size + 2 ≤ bV := hF.v
  have n1 : bY ≠ bU := hG.yu; have n2 : bY ≠ bV := hG.yv; have n3 : bU ≠ bV := hG.uv
  have HY : PB w1 bY (16 * f.c * (16 * f.r)) f.sY := hG.y
  have HU : PB w1 bU (8 * f.c * (8 * f.r)) f.sU := hG.u
  have HV : PB w1 bV (8 * f.c * (8 * f.r)) f.sV := hG.v
  clear hb HF0 HZ0 HW0 hG hF hsz
  unfold Fr.val Fr.cells
  have hst := HF.lt; have hzt := HZ.lt; have hqY := HY.lt; have hqU := HU.lt; have hqV := HV.lt
  have hqy := hM.y.lt; have hqu := hM.u.lt; have hqv := hM.v.lt
  go_wp2_with (refine wpList_store_stop (Ob.new_at (w := w1) FRT frZ rfl) rfl _ _ _ rfl rfl #[.int .i64 (f.c : Int), .int .i64 (f.r : Int), .int .i64 (16 * (f.c : Int)), .int .i64 (16 * (f.r : Int)), .slice (some ⟨bY, 0, none⟩) (16 * f.c * (16 * f.r)) kY, .int .i64 (8 * (f.c : Int)), .int .i64 (8 * (f.r : Int)), .slice (some ⟨bU, 0, none⟩) (8 * f.c * (8 * f.r)) kU, .int .i64 (8 * (f.c : Int)), .int .i64 (8 * (f.r : Int)), .slice (some ⟨bV, 0, none⟩) (8 * f.c * (8 * f.r)) kV] rfl (by kernel_rfl) rfl rfl ?_)
  intro w2 hw2
  replace hw2 := hw2.out
  replace HF : Ob w2 w.heap.size FRT f.cells := by rw [← hw2]; exact (HF.alloc _).setRow (by omega) _
  replace HZ : Ob w2 (w.heap.size + 1) FRT frZ := by rw [← hw2]; exact (HZ.alloc _).setRow (by omega) _
  have HO : Ob w2 w1.heap.size FRT #[.int .i64 (f.c : Int), .int .i64 (f.r : Int), .int .i64 (16 * (f.c : Int)), .int .i64 (16 * (f.r : Int)), .slice (some ⟨bY, 0, none⟩) (16 * f.c * (16 * f.r)) kY, .int .i64 (8 * (f.c : Int)), .int .i64 (8 * (f.r : Int)), .slice (some ⟨bU, 0, none⟩) (8 * f.c * (8 * f.r)) kU, .int .i64 (8 * (f.c : Int)), .int .i64 (8 * (f.r : Int)), .slice (some ⟨bV, 0, none⟩) (8 * f.c * (8 * f.r)) kV] := by rw [← hw2]; exact (Ob.new_at (w := w1) FRT frZ rfl).setRow_same _
  replace hM : f.Mem w2 := by rw [← hw2]; exact (hM.alloc _).setRow (by omega) (by omega) (by omega) _
  replace HY : PB w2 bY (16 * f.c * (16 * f.r)) f.sY := by rw [← hw2]; exact (HY.alloc _).setRow (by omega) _
  replace HU : PB w2 bU (8 * f.c * (8 * f.r)) f.sU := by rw [← hw2]; exact (HU.alloc _).setRow (by omega) _
  replace HV : PB w2 bV (8 * f.c * (8 * f.r)) f.sV := by rw [← hw2]; exact (HV.alloc _).setRow (by omega) _
  replace HW : Below w.heap.size w w2 := by rw [← hw2]; exact below_setRow (HW.alloc HW.size _) HW.size _
  clear hw2
  have hqz : w1.heap.size ≠ w.heap.size + 1 := by omega
  have k1 : w1.heap.size ≠ bY := by omega
  have k2 : w1.heap.size ≠ bU := by omega
  have k3 : w1.heap.size ≠ bV := by omega
  have kq : w.heap.size ≤ w1.heap.size := by omega
  clear hst hzt hqY hqU hqV hqy hqu hqv
  generalize w1.heap.size = q at *
  go_wp2_with (refine wpList_load_ob HF rfl _ _ rfl rfl Try.underlying43 (by kernel_rfl) ?_)
  refine (planes_any f _).mono ?_
  rintro e w3 ⟨rfl, hb⟩
  replace HO := HO.later hb; replace HZ := HZ.later hb; replace HW := below_step HW hb; replace hM := hM.later hb; replace HY := HY.later hb; replace HU := HU.later hb; replace HV := HV.later hb
  clear hb HF
  unfold Fr.planes
  obtain ⟨z, hz⟩ : ∃ z, z = w.heap.size + 1 := ⟨_, rfl⟩
  rw [← hz] at HZ hqz
  go_wp2_with fail
  go_loopw [18] (fun v wr => ∃ k : Nat, k ≤ 3 ∧ v = .int .i64 (k : Int) ∧ Ob wr q FRT #[.int .i64 (f.c : Int), .int .i64 (f.r : Int), .int .i64 (16 * (f.c : Int)), .int .i64 (16 * (f.r : Int)), .slice (some ⟨bY, 0, none⟩) (16 * f.c * (16 * f.r)) kY, .int .i64 (8 * (f.c : Int)), .int .i64 (8 * (f.r : Int)), .slice (some ⟨bU, 0, none⟩) (8 * f.c * (8 * f.r)) kU, .int .i64 (8 * (f.c : Int)), .int .i64 (8 * (f.r : Int)), .slice (some ⟨bV, 0, none⟩) (8 * f.c * (8 * f.r)) kV] ∧ Ob wr z FRT frZ ∧ f.Mem wr ∧ PB wr bY (16 * f.c * (16 * f.r)) (mvT (if 0 < k then 16 * f.c * (16 * f.r) else 0) (mvS (16 * f.c) (16 * f.r) f.sY dx dy) f.sY) ∧ PB wr bU (8 * f.c * (8 * f.r)) (mvT (if 1 < k then 8 * f.c * (8 * f.r) else 0) (mvS (8 * f.c) (8 * f.r) f.sU (dx / 2) (dy / 2)) f.sU) ∧ PB wr bV (8 * f.c * (8 * f.r)) (mvT (if 2 < k then 8 * f.c * (8 * f.r) else 0) (mvS (8 * f.c) (8 * f.r) f.sV (dx / 2) (dy / 2)) f.sV) ∧ Below w.heap.size w wr) (fun v _ => 3 - (intOf v).toNat)
  case atStart => exact ⟨0, by omega, rfl, HO, HZ, hM, by simpa [mvT_zero] using HY, by simpa [mvT_zero] using HU, by simpa [mvT_zero] using HV, HW⟩
  case round =>
    clear HO HZ HW hM HY HU HV
    obtain ⟨k, hk, rfl, HO, HZ, hM, HY, HU, HV, HW⟩ := hrel
    obtain rfl | rfl | rfl | rfl : k = 0 ∨ k = 1 ∨ k = 2 ∨ k = 3 := by omega
    · replace HY : PB wr bY (16 * f.c * (16 * f.r)) (mvT 0 (mvS (16 * f.c) (16 * f.r) f.sY dx dy) f.sY) := HY
      replace HU : PB wr bU (8 * f.c * (8 * f.r)) (mvT 0 (mvS (8 * f.c) (8 * f.r) f.sU (dx / 2) (dy / 2)) f.sU) := HU
      replace HV : PB wr bV (8 * f.c * (8 * f.r)) (mvT 0 (mvS (8 * f.c) (8 * f.r) f.sV (dx / 2) (dy / 2)) f.sV) := HV
      have i0 := fun W => idx_pl0 W (.int .i64 (16 * (f.c : Int))) (.int .i64 (16 * (f.r : Int))) (.slice (some ⟨f.bY, 0, none⟩) (16 * f.c * (16 * f.r)) f.cY) (.int .i64 (8 * (f.c : Int))) (.int .i64 (8 * (f.r : Int))) (.slice (some ⟨f.bU, 0, none⟩) (8 * f.c * (8 * f.r)) f.cU) (.int .i64 (8 * (f.c : Int))) (.int .i64 (8 * (f.r : Int))) (.slice (some ⟨f.bV, 0, none⟩) (8 * f.c * (8 * f.r)) f.cV)
      have i1 := fun W => idx_pl0 W (.int .i64 (16 * (f.c : Int))) (.int .i64 (16 * (f.r : Int))) (.slice (some ⟨bY, 0, none⟩) (16 * f.c * (16 * f.r)) kY) (.int .i64 (8 * (f.c : Int))) (.int .i64 (8 * (f.r : Int))) (.slice (some ⟨bU, 0, none⟩) (8 * f.c * (8 * f.r)) kU) (.int .i64 (8 * (f.c : Int))) (.int .i64 (8 * (f.r : Int))) (.slice (some ⟨bV, 0, none⟩) (8 * f.c * (8 * f.r)) kV)
      have hz1 := HO.lt
      have hp1 := HW.size
      have HP : Ob (wr.alloc (.cells #[.int .i64 (16 * (f.c : Int)), .int .i64 (16 * (f.r : Int)), .slice (some ⟨f.bY, 0, none⟩) (16 * f.c * (16 * f.r)) f.cY] PLT)) wr.heap.size PLT #[.int .i64 (16 * (f.c : Int)), .int .i64 (16 * (f.r : Int)), .slice (some ⟨f.bY, 0, none⟩) (16 * f.c * (16 * f.r)) f.cY] := Ob.new_at _ _ rfl
      have hZ := HZ.lt; have hbY := HY.lt; have hbU := HU.lt; have hbV := HV.lt
      replace HO := HO.alloc (.cells #[.int .i64 (16 * (f.c : Int)), .int .i64 (16 * (f.r : Int)), .slice (some ⟨f.bY, 0, none⟩) (16 * f.c * (16 * f.r)) f.cY] PLT); replace HZ := HZ.alloc (.cells #[.int .i64 (16 * (f.c : Int)), .int .i64 (16 * (f.r : Int)), .slice (some ⟨f.bY, 0, none⟩) (16 * f.c * (16 * f.r)) f.cY] PLT); replace hM := hM.alloc (.cells #[.int .i64 (16 * (f.c : Int)), .int .i64 (16 * (f.r : Int)), .slice (some ⟨f.bY, 0, none⟩) (16 * f.c * (16 * f.r)) f.cY] PLT); replace HY := HY.alloc (.cells #[.int .i64 (16 * (f.c : Int)), .int .i64 (16 * (f.r : Int)), .slice (some ⟨f.bY, 0, none⟩) (16 * f.c * (16 * f.r)) f.cY] PLT); replace HU := HU.alloc (.cells #[.int .i64 (16 * (f.c : Int)), .int .i64 (16 * (f.r : Int)), .slice (some ⟨f.bY, 0, none⟩) (16 * f.c * (16 * f.r)) f.cY] PLT); replace HV := HV.alloc (.cells #[.int .i64 (16 * (f.c : Int)), .int .i64 (16 * (f.r : Int)), .slice (some ⟨f.bY, 0, none⟩) (16 * f.c * (16 * f.r)) f.cY] PLT); replace HW := HW.alloc HW.size (.cells #[.int .i64 (16 * (f.c : Int)), .int .i64 (16 * (f.r : Int)), .slice (some ⟨f.bY, 0, none⟩) (16 * f.c * (16 * f.r)) f.cY] PLT)
      have hbY : wr.heap.size ≠ bY := by omega
      go_wp2_with (refine wpList_load_ob HO rfl _ _ rfl rfl Try.underlying43 (by kernel_rfl) ?_)
      generalize wr.alloc (.cells #[.int .i64 (16 * (f.c : Int)), .int .i64 (16 * (f.r : Int)), .slice (some ⟨f.bY, 0, none⟩) (16 * f.c * (16 * f.r)) f.cY] PLT) = w4 at *
      generalize wr.heap.size = p at *
      have hpl := planes_any ⟨f.c, f.r, bY, bU, bV, kY, kU, kV, f.sY, f.sU, f.sV⟩ w4
      unfold Fr.val Fr.cells Fr.planes at hpl
      refine hpl.mono ?_
      rintro e w5 ⟨rfl, hb⟩
      clear hpl
      replace HO := HO.later hb; replace HZ := HZ.later hb; replace hM := hM.later hb; replace HY := HY.later hb; replace HU := HU.later hb; replace HV := HV.later hb; replace HW := below_step HW hb; replace HP := HP.later hb
      clear hb
      have HQ : Ob (w5.alloc (.cells #[.int .i64 (16 * (f.c : Int)), .int .i64 (16 * (f.r : Int)), .slice (some ⟨bY, 0, none⟩) (16 * f.c * (16 * f.r)) kY] PLT)) w5.heap.size PLT #[.int .i64 (16 * (f.c : Int)), .int .i64 (16 * (f.r : Int)), .slice (some ⟨bY, 0, none⟩) (16 * f.c * (16 * f.r)) kY] := Ob.new_at _ _ rfl
      have hb2 : w5.heap.size ≠ bY := by have := HY.lt; omega
      replace HO := HO.alloc (.cells #[.int .i64 (16 * (f.c : Int)), .int .i64 (16 * (f.r : Int)), .slice (some ⟨bY, 0, none⟩) (16 * f.c * (16 * f.r)) kY] PLT); replace HZ := HZ.alloc (.cells #[.int .i64 (16 * (f.c : Int)), .int .i64 (16 * (f.r : Int)), .slice (some ⟨bY, 0, none⟩) (16 * f.c * (16 * f.r)) kY] PLT); replace hM := hM.alloc (.cells #[.int .i64 (16 * (f.c : Int)), .int .i64 (16 * (f.r : Int)), .slice (some ⟨bY, 0, none⟩) (16 * f.c * (16 * f.r)) kY] PLT); replace HY := HY.alloc (.cells #[.int .i64 (16 * (f.c : Int)), .int .i64 (16 * (f.r : Int)), .slice (some ⟨bY, 0, none⟩) (16 * f.c * (16 * f.r)) kY] PLT); replace HU := HU.alloc (.cells #[.int .i64 (16 * (f.c : Int)), .int .i64 (16 * (f.r : Int)), .slice (some ⟨bY, 0, none⟩) (16 * f.c * (16 * f.r)) kY] PLT); replace HV := HV.alloc (.cells #[.int .i64 (16 * (f.c : Int)), .int .i64 (16 * (f.r : Int)), .slice (some ⟨bY, 0, none⟩) (16 * f.c * (16 * f.r)) kY] PLT); replace HW := HW.alloc HW.size (.cells #[.int .i64 (16 * (f.c : Int)), .int .i64 (16 * (f.r : Int)), .slice (some ⟨bY, 0, none⟩) (16 * f.c * (16 * f.r)) kY] PLT); replace HP := HP.alloc (.cells #[.int .i64 (16 * (f.c : Int)), .int .i64 (16 * (f.r : Int)), .slice (some ⟨bY, 0, none⟩) (16 * f.c * (16 * f.r)) kY] PLT)
      go_wp2_with fail
      generalize w5.alloc (.cells #[.int .i64 (16 * (f.c : Int)), .int .i64 (16 * (f.r : Int)), .slice (some ⟨bY, 0, none⟩) (16 * f.c * (16 * f.r)) kY] PLT) = w6 at *
      generalize w5.heap.size = t at *
      clear i0 i1
      have hN : 16 * f.c * (16 * f.r) ≤ 16384 := Nat.mul_le_mul (show 16 * f.c ≤ 128 by omega) (show 16 * f.r ≤ 128 by omega)
      go_loopw [37] (fun v wr => ∃ j : Nat, j ≤ 16 * f.c * (16 * f.r) ∧ v = .int .i64 (j : Int) ∧ Ob wr p PLT #[.int .i64 (16 * (f.c : Int)), .int .i64 (16 * (f.r : Int)), .slice (some ⟨f.bY, 0, none⟩) (16 * f.c * (16 * f.r)) f.cY] ∧ Ob wr t PLT #[.int .i64 (16 * (f.c : Int)), .int .i64 (16 * (f.r : Int)), .slice (some ⟨bY, 0, none⟩) (16 * f.c * (16 * f.r)) kY] ∧ Ob wr q FRT #[.int .i64 (f.c : Int), .int .i64 (f.r : Int), .int .i64 (16 * (f.c : Int)), .int .i64 (16 * (f.r : Int)), .slice (some ⟨bY, 0, none⟩) (16 * f.c * (16 * f.r)) kY, .int .i64 (8 * (f.c : Int)), .int .i64 (8 * (f.r : Int)), .slice (some ⟨bU, 0, none⟩) (8 * f.c * (8 * f.r)) kU, .int .i64 (8 * (f.c : Int)), .int .i64 (8 * (f.r : Int)), .slice (some ⟨bV, 0, none⟩) (8 * f.c * (8 * f.r)) kV] ∧ Ob wr z FRT frZ ∧ f.Mem wr ∧ PB wr bY (16 * f.c * (16 * f.r)) (mvT j (mvS (16 * f.c) (16 * f.r) f.sY dx dy) f.sY) ∧ PB wr bU (8 * f.c * (8 * f.r)) (mvT 0 (mvS (8 * f.c) (8 * f.r) f.sU (dx / 2) (dy / 2)) f.sU) ∧ PB wr bV (8 * f.c * (8 * f.r)) (mvT 0 (mvS (8 * f.c) (8 * f.r) f.sV (dx / 2) (dy / 2)) f.sV) ∧ Below w.heap.size w wr) (fun v _ => 16 * f.c * (16 * f.r) - (intOf v).toNat)
      case atStart => exact ⟨0, by omega, rfl, HP, HQ, HO, HZ, hM, HY, HU, HV, HW⟩
      case round =>
        clear HP HQ HO HZ HW hM HY HU HV
        obtain ⟨j, hj, rfl, HP, HQ, HO, HZ, hM, HY, HU, HV, HW⟩ := hrel
        by_cases hlt : j < 16 * f.c * (16 * f.r)
        · have hd : decide ((j : Int) < 16 * (f.c : Int) * (16 * (f.r : Int))) = true := by
            have : ((j : Nat) : Int) < ((16 * f.c * (16 * f.r) : Nat) : Int) := by omega
            simpa using this
          have hc0 : 0 < 16 * f.c := by
            rcases Nat.eq_zero_or_pos (16 * f.c) with h | h
            · rw [h, Nat.zero_mul] at hlt; omega
            · exact h
          have hz0 : (16 * (f.c : Int) == 0) = false := by simp; omega
          obtain ⟨a, ha, ha2⟩ : ∃ a : Nat, (j : Int).tmod (16 * (f.c : Int)) = (a : Int) ∧ a = j % (16 * f.c) := ⟨_, by rw [show 16 * (f.c : Int) = ((16 * f.c : Nat) : Int) by simp]; rfl, rfl⟩
          obtain ⟨b, hb', hb3⟩ : ∃ b : Nat, (j : Int).tdiv (16 * (f.c : Int)) = (b : Int) ∧ b = j / (16 * f.c) := ⟨_, by rw [show 16 * (f.c : Int) = ((16 * f.c : Nat) : Int) by simp]; rfl, rfl⟩
          have a1 : a < 16384 := by have := Nat.mod_lt j hc0; omega
          have b1 : b < 16385 := by have := Nat.div_le_self j (16 * f.c); omega
          replace ha2 := Lib.hid ha2; replace hb3 := Lib.hid hb3
          have c0 : ∀ p : Regrown, (Sort.grow (redrawn wr p.d) p.os).cell? ⟨t, 0, none⟩ = some (.int .i64 (16 * (f.c : Int))) := fun p => (HQ.re p).cell 0 rfl
          have c1 : ∀ p : Regrown, (Sort.grow (redrawn wr p.d) p.os).cell? ⟨t, 2, none⟩ = some (.slice (some ⟨bY, 0, none⟩) (16 * f.c * (16 * f.r)) kY) := fun p => (HQ.re p).cell 2 rfl
          have c2 : ∀ r : Regrown, (Sort.grow (redrawn wr r.d) r.os).cell? ⟨p, 0, none⟩ = some (.int .i64 (16 * (f.c : Int))) := fun r => (HP.re r).cell 0 rfl
          have c3 : ∀ r : Regrown, (Sort.grow (redrawn wr r.d) r.os).cell? ⟨p, 1, none⟩ = some (.int .i64 (16 * (f.r : Int))) := fun r => (HP.re r).cell 1 rfl
          have c4 : ∀ r : Regrown, (Sort.grow (redrawn wr r.d) r.os).cell? ⟨p, 2, none⟩ = some (.slice (some ⟨f.bY, 0, none⟩) (16 * f.c * (16 * f.r)) f.cY) := fun r => (HP.re r).cell 2 rfl
          go_wp2_with fail
          apply wp_region_tail_below 17
          case hm => kernel_rfl
          case hB => kernel_rfl
          case hno => kernel_rfl
          case hF =>
            simp only [List.take_succ_cons, List.take_zero]
            repeat (go_big_quiet_step ((go_at_call 35; exact Calls.regrown_of (at16_any f.c f.r f.bY f.cY f.sY _ _ _ hc hr (hM.y.later (below_regrown _ _ _))))))
            exact wpQuiet_nil rfl
          case hT =>
            intro w7 hw7
            simp only [List.drop_succ_cons, List.drop_zero]
            have hbd := plAt_bd hM.y ((a : Int) - dx) ((b : Int) - dy)
            clear c0 c1 c2 c3 c4
            replace HO := HO.later hw7; replace HZ := HZ.later hw7; replace hM := hM.later hw7; replace HY := HY.later hw7; replace HU := HU.later hw7; replace HV := HV.later hw7; replace HW := below_step HW hw7; replace HP := HP.later hw7; replace HQ := HQ.later hw7
            have c8 := HY.cell hlt
            have f8 := HY.free j
            go_wp2_with fail
            refine ⟨⟨j + 1, by omega, by go_num, HP.other (fun e => hbY e.symm) _ _, HQ.other (fun e => hb2 e.symm) _ _, HO.other (fun e => k1 e.symm) _ _, HZ.other (by omega) _ _, hM.other (by omega) (by omega) (by omega) _ _, ?_, HU.other n1 _ _, HV.other n2 _ _, HW.setCell (by show _ ≤ bY; omega) _⟩, by simp [intOf]; omega⟩
            rw [← mvT_step (v := plAt (16 * f.c) (16 * f.r) f.sY ((a : Int) - dx) ((b : Int) - dy)) (by unfold mvS; rw [ha2.out, hb3.out])]
            exact HY.set j _ hbd
        · obtain rfl : j = 16 * f.c * (16 * f.r) := by omega
          have hd : decide (((16 * f.c * (16 * f.r) : Nat) : Int) < 16 * (f.c : Int) * (16 * (f.r : Int))) = false := by simp
          go_wp2_with fail
          exact ⟨⟨1, by omega, rfl, HO, HZ, hM, HY, HU, HV, HW⟩, by simp [intOf]⟩
    · replace HY : PB wr bY (16 * f.c * (16 * f.r)) (mvT (16 * f.c * (16 * f.r)) (mvS (16 * f.c) (16 * f.r) f.sY dx dy) f.sY) := HY
      replace HU : PB wr bU (8 * f.c * (8 * f.r)) (mvT 0 (mvS (8 * f.c) (8 * f.r) f.sU (dx / 2) (dy / 2)) f.sU) := HU
      replace HV : PB wr bV (8 * f.c * (8 * f.r)) (mvT 0 (mvS (8 * f.c) (8 * f.r) f.sV (dx / 2) (dy / 2)) f.sV) := HV
      have i0 := fun W => idx_pl1 W (.int .i64 (16 * (f.c : Int))) (.int .i64 (16 * (f.r : Int))) (.slice (some ⟨f.bY, 0, none⟩) (16 * f.c * (16 * f.r)) f.cY) (.int .i64 (8 * (f.c : Int))) (.int .i64 (8 * (f.r : Int))) (.slice (some ⟨f.bU, 0, none⟩) (8 * f.c * (8 * f.r)) f.cU) (.int .i64 (8 * (f.c : Int))) (.int .i64 (8 * (f.r : Int))) (.slice (some ⟨f.bV, 0, none⟩) (8 * f.c * (8 * f.r)) f.cV)
      have i1 := fun W => idx_pl1 W (.int .i64 (16 * (f.c : Int))) (.int .i64 (16 * (f.r : Int))) (.slice (some ⟨bY, 0, none⟩) (16 * f.c * (16 * f.r)) kY) (.int .i64 (8 * (f.c : Int))) (.int .i64 (8 * (f.r : Int))) (.slice (some ⟨bU, 0, none⟩) (8 * f.c * (8 * f.r)) kU) (.int .i64 (8 * (f.c : Int))) (.int .i64 (8 * (f.r : Int))) (.slice (some ⟨bV, 0, none⟩) (8 * f.c * (8 * f.r)) kV)
      have hz1 := HO.lt
      have hp1 := HW.size
      have HP : Ob (wr.alloc (.cells #[.int .i64 (8 * (f.c : Int)), .int .i64 (8 * (f.r : Int)), .slice (some ⟨f.bU, 0, none⟩) (8 * f.c * (8 * f.r)) f.cU] PLT)) wr.heap.size PLT #[.int .i64 (8 * (f.c : Int)), .int .i64 (8 * (f.r : Int)), .slice (some ⟨f.bU, 0, none⟩) (8 * f.c * (8 * f.r)) f.cU] := Ob.new_at _ _ rfl
      have hZ := HZ.lt; have hbY := HY.lt; have hbU := HU.lt; have hbV := HV.lt
      replace HO := HO.alloc (.cells #[.int .i64 (8 * (f.c : Int)), .int .i64 (8 * (f.r : Int)), .slice (some ⟨f.bU, 0, none⟩) (8 * f.c * (8 * f.r)) f.cU] PLT); replace HZ := HZ.alloc (.cells #[.int .i64 (8 * (f.c : Int)), .int .i64 (8 * (f.r : Int)), .slice (some ⟨f.bU, 0, none⟩) (8 * f.c * (8 * f.r)) f.cU] PLT); replace hM := hM.alloc (.cells #[.int .i64 (8 * (f.c : Int)), .int .i64 (8 * (f.r : Int)), .slice (some ⟨f.bU, 0, none⟩) (8 * f.c * (8 * f.r)) f.cU] PLT); replace HY := HY.alloc (.cells #[.int .i64 (8 * (f.c : Int)), .int .i64 (8 * (f.r : Int)), .slice (some ⟨f.bU, 0, none⟩) (8 * f.c * (8 * f.r)) f.cU] PLT); replace HU := HU.alloc (.cells #[.int .i64 (8 * (f.c : Int)), .int .i64 (8 * (f.r : Int)), .slice (some ⟨f.bU, 0, none⟩) (8 * f.c * (8 * f.r)) f.cU] PLT); replace HV := HV.alloc (.cells #[.int .i64 (8 * (f.c : Int)), .int .i64 (8 * (f.r : Int)), .slice (some ⟨f.bU, 0, none⟩) (8 * f.c * (8 * f.r)) f.cU] PLT); replace HW := HW.alloc HW.size (.cells #[.int .i64 (8 * (f.c : Int)), .int .i64 (8 * (f.r : Int)), .slice (some ⟨f.bU, 0, none⟩) (8 * f.c * (8 * f.r)) f.cU] PLT)
      have hbU : wr.heap.size ≠ bU := by omega
      go_wp2_with (refine wpList_load_ob HO rfl _ _ rfl rfl Try.underlying43 (by kernel_rfl) ?_)
      generalize wr.alloc (.cells #[.int .i64 (8 * (f.c : Int)), .int .i64 (8 * (f.r : Int)), .slice (some ⟨f.bU, 0, none⟩) (8 * f.c * (8 * f.r)) f.cU] PLT) = w4 at *
      generalize wr.heap.size = p at *
      have hpl := planes_any ⟨f.c, f.r, bY, bU, bV, kY, kU, kV, f.sY, f.sU, f.sV⟩ w4
      unfold Fr.val Fr.cells Fr.planes at hpl
      refine hpl.mono ?_
      rintro e w5 ⟨rfl, hb⟩
      clear hpl
      replace HO := HO.later hb; replace HZ := HZ.later hb; replace hM := hM.later hb; replace HY := HY.later hb; replace HU := HU.later hb; replace HV := HV.later hb; replace HW := below_step HW hb; replace HP := HP.later hb
      clear hb
      have HQ : Ob (w5.alloc (.cells #[.int .i64 (8 * (f.c : Int)), .int .i64 (8 * (f.r : Int)), .slice (some ⟨bU, 0, none⟩) (8 * f.c * (8 * f.r)) kU] PLT)) w5.heap.size PLT #[.int .i64 (8 * (f.c : Int)), .int .i64 (8 * (f.r : Int)), .slice (some ⟨bU, 0, none⟩) (8 * f.c * (8 * f.r)) kU] := Ob.new_at _ _ rfl
      have hb2 : w5.heap.size ≠ bU := by have := HU.lt; omega
      replace HO := HO.alloc (.cells #[.int .i64 (8 * (f.c : Int)), .int .i64 (8 * (f.r : Int)), .slice (some ⟨bU, 0, none⟩) (8 * f.c * (8 * f.r)) kU] PLT); replace HZ := HZ.alloc (.cells #[.int .i64 (8 * (f.c : Int)), .int .i64 (8 * (f.r : Int)), .slice (some ⟨bU, 0, none⟩) (8 * f.c * (8 * f.r)) kU] PLT); replace hM := hM.alloc (.cells #[.int .i64 (8 * (f.c : Int)), .int .i64 (8 * (f.r : Int)), .slice (some ⟨bU, 0, none⟩) (8 * f.c * (8 * f.r)) kU] PLT); replace HY := HY.alloc (.cells #[.int .i64 (8 * (f.c : Int)), .int .i64 (8 * (f.r : Int)), .slice (some ⟨bU, 0, none⟩) (8 * f.c * (8 * f.r)) kU] PLT); replace HU := HU.alloc (.cells #[.int .i64 (8 * (f.c : Int)), .int .i64 (8 * (f.r : Int)), .slice (some ⟨bU, 0, none⟩) (8 * f.c * (8 * f.r)) kU] PLT); replace HV := HV.alloc (.cells #[.int .i64 (8 * (f.c : Int)), .int .i64 (8 * (f.r : Int)), .slice (some ⟨bU, 0, none⟩) (8 * f.c * (8 * f.r)) kU] PLT); replace HW := HW.alloc HW.size (.cells #[.int .i64 (8 * (f.c : Int)), .int .i64 (8 * (f.r : Int)), .slice (some ⟨bU, 0, none⟩) (8 * f.c * (8 * f.r)) kU] PLT); replace HP := HP.alloc (.cells #[.int .i64 (8 * (f.c : Int)), .int .i64 (8 * (f.r : Int)), .slice (some ⟨bU, 0, none⟩) (8 * f.c * (8 * f.r)) kU] PLT)
      go_wp2_with fail
      generalize w5.alloc (.cells #[.int .i64 (8 * (f.c : Int)), .int .i64 (8 * (f.r : Int)), .slice (some ⟨bU, 0, none⟩) (8 * f.c * (8 * f.r)) kU] PLT) = w6 at *
      generalize w5.heap.size = t at *
      clear i0 i1
      have hN : 8 * f.c * (8 * f.r) ≤ 4096 := Nat.mul_le_mul (show 8 * f.c ≤ 64 by omega) (show 8 * f.r ≤ 64 by omega)
      go_loopw [37] (fun v wr => ∃ j : Nat, j ≤ 8 * f.c * (8 * f.r) ∧ v = .int .i64 (j : Int) ∧ Ob wr p PLT #[.int .i64 (8 * (f.c : Int)), .int .i64 (8 * (f.r : Int)), .slice (some ⟨f.bU, 0, none⟩) (8 * f.c * (8 * f.r)) f.cU] ∧ Ob wr t PLT #[.int .i64 (8 * (f.c : Int)), .int .i64 (8 * (f.r : Int)), .slice (some ⟨bU, 0, none⟩) (8 * f.c * (8 * f.r)) kU] ∧ Ob wr q FRT #[.int .i64 (f.c : Int), .int .i64 (f.r : Int), .int .i64 (16 * (f.c : Int)), .int .i64 (16 * (f.r : Int)), .slice (some ⟨bY, 0, none⟩) (16 * f.c * (16 * f.r)) kY, .int .i64 (8 * (f.c : Int)), .int .i64 (8 * (f.r : Int)), .slice (some ⟨bU, 0, none⟩) (8 * f.c * (8 * f.r)) kU, .int .i64 (8 * (f.c : Int)), .int .i64 (8 * (f.r : Int)), .slice (some ⟨bV, 0, none⟩) (8 * f.c * (8 * f.r)) kV] ∧ Ob wr z FRT frZ ∧ f.Mem wr ∧ PB wr bY (16 * f.c * (16 * f.r)) (mvT (16 * f.c * (16 * f.r)) (mvS (16 * f.c) (16 * f.r) f.sY dx dy) f.sY) ∧ PB wr bU (8 * f.c * (8 * f.r)) (mvT j (mvS (8 * f.c) (8 * f.r) f.sU (dx / 2) (dy / 2)) f.sU) ∧ PB wr bV (8 * f.c * (8 * f.r)) (mvT 0 (mvS (8 * f.c) (8 * f.r) f.sV (dx / 2) (dy / 2)) f.sV) ∧ Below w.heap.size w wr) (fun v _ => 8 * f.c * (8 * f.r) - (intOf v).toNat)
      case atStart => exact ⟨0, by omega, rfl, HP, HQ, HO, HZ, hM, HY, HU, HV, HW⟩
      case round =>
        clear HP HQ HO HZ HW hM HY HU HV
        obtain ⟨j, hj, rfl, HP, HQ, HO, HZ, hM, HY, HU, HV, HW⟩ := hrel
        by_cases hlt : j < 8 * f.c * (8 * f.r)
        · have hd : decide ((j : Int) < 8 * (f.c : Int) * (8 * (f.r : Int))) = true := by
            have : ((j : Nat) : Int) < ((8 * f.c * (8 * f.r) : Nat) : Int) := by omega
            simpa using this
          have hc0 : 0 < 8 * f.c := by
            rcases Nat.eq_zero_or_pos (8 * f.c) with h | h
            · rw [h, Nat.zero_mul] at hlt; omega
            · exact h
          have hz0 : (8 * (f.c : Int) == 0) = false := by simp; omega
          obtain ⟨a, ha, ha2⟩ : ∃ a : Nat, (j : Int).tmod (8 * (f.c : Int)) = (a : Int) ∧ a = j % (8 * f.c) := ⟨_, by rw [show 8 * (f.c : Int) = ((8 * f.c : Nat) : Int) by simp]; rfl, rfl⟩
          obtain ⟨b, hb', hb3⟩ : ∃ b : Nat, (j : Int).tdiv (8 * (f.c : Int)) = (b : Int) ∧ b = j / (8 * f.c) := ⟨_, by rw [show 8 * (f.c : Int) = ((8 * f.c : Nat) : Int) by simp]; rfl, rfl⟩
          have a1 : a < 16384 := by have := Nat.mod_lt j hc0; omega
          have b1 : b < 16385 := by have := Nat.div_le_self j (8 * f.c); omega
          replace ha2 := Lib.hid ha2; replace hb3 := Lib.hid hb3
          have c0 : ∀ p : Regrown, (Sort.grow (redrawn wr p.d) p.os).cell? ⟨t, 0, none⟩ = some (.int .i64 (8 * (f.c : Int))) := fun p => (HQ.re p).cell 0 rfl
          have c1 : ∀ p : Regrown, (Sort.grow (redrawn wr p.d) p.os).cell? ⟨t, 2, none⟩ = some (.slice (some ⟨bU, 0, none⟩) (8 * f.c * (8 * f.r)) kU) := fun p => (HQ.re p).cell 2 rfl
          have c2 : ∀ r : Regrown, (Sort.grow (redrawn wr r.d) r.os).cell? ⟨p, 0, none⟩ = some (.int .i64 (8 * (f.c : Int))) := fun r => (HP.re r).cell 0 rfl
          have c3 : ∀ r : Regrown, (Sort.grow (redrawn wr r.d) r.os).cell? ⟨p, 1, none⟩ = some (.int .i64 (8 * (f.r : Int))) := fun r => (HP.re r).cell 1 rfl
          have c4 : ∀ r : Regrown, (Sort.grow (redrawn wr r.d) r.os).cell? ⟨p, 2, none⟩ = some (.slice (some ⟨f.bU, 0, none⟩) (8 * f.c * (8 * f.r)) f.cU) := fun r => (HP.re r).cell 2 rfl
          go_wp2_with fail
          apply wp_region_tail_below 17
          case hm => kernel_rfl
          case hB => kernel_rfl
          case hno => kernel_rfl
          case hF =>
            simp only [List.take_succ_cons, List.take_zero]
            repeat (go_big_quiet_step ((go_at_call 35; exact Calls.regrown_of (at8_any f.c f.r f.bU f.cU f.sU _ _ _ hc hr (hM.u.later (below_regrown _ _ _))))))
            exact wpQuiet_nil rfl
          case hT =>
            intro w7 hw7
            simp only [List.drop_succ_cons, List.drop_zero]
            have hbd := plAt_bd hM.u ((a : Int) - (dx / 2)) ((b : Int) - (dy / 2))
            clear c0 c1 c2 c3 c4
            replace HO := HO.later hw7; replace HZ := HZ.later hw7; replace hM := hM.later hw7; replace HY := HY.later hw7; replace HU := HU.later hw7; replace HV := HV.later hw7; replace HW := below_step HW hw7; replace HP := HP.later hw7; replace HQ := HQ.later hw7
            have c8 := HU.cell hlt
            have f8 := HU.free j
            go_wp2_with fail
            refine ⟨⟨j + 1, by omega, by go_num, HP.other (fun e => hbU e.symm) _ _, HQ.other (fun e => hb2 e.symm) _ _, HO.other (fun e => k2 e.symm) _ _, HZ.other (by omega) _ _, hM.other (by omega) (by omega) (by omega) _ _, HY.other n1.symm _ _, ?_, HV.other n3 _ _, HW.setCell (by show _ ≤ bU; omega) _⟩, by simp [intOf]; omega⟩
            rw [← mvT_step (v := plAt (8 * f.c) (8 * f.r) f.sU ((a : Int) - (dx / 2)) ((b : Int) - (dy / 2))) (by unfold mvS; rw [ha2.out, hb3.out])]
            exact HU.set j _ hbd
        · obtain rfl : j = 8 * f.c * (8 * f.r) := by omega
          have hd : decide (((8 * f.c * (8 * f.r) : Nat) : Int) < 8 * (f.c : Int) * (8 * (f.r : Int))) = false := by simp
          go_wp2_with fail
          exact ⟨⟨2, by omega, rfl, HO, HZ, hM, HY, HU, HV, HW⟩, by simp [intOf]⟩
    · replace HY : PB wr bY (16 * f.c * (16 * f.r)) (mvT (16 * f.c * (16 * f.r)) (mvS (16 * f.c) (16 * f.r) f.sY dx dy) f.sY) := HY
      replace HU : PB wr bU (8 * f.c * (8 * f.r)) (mvT (8 * f.c * (8 * f.r)) (mvS (8 * f.c) (8 * f.r) f.sU (dx / 2) (dy / 2)) f.sU) := HU
      replace HV : PB wr bV (8 * f.c * (8 * f.r)) (mvT 0 (mvS (8 * f.c) (8 * f.r) f.sV (dx / 2) (dy / 2)) f.sV) := HV
      have i0 := fun W => idx_pl2 W (.int .i64 (16 * (f.c : Int))) (.int .i64 (16 * (f.r : Int))) (.slice (some ⟨f.bY, 0, none⟩) (16 * f.c * (16 * f.r)) f.cY) (.int .i64 (8 * (f.c : Int))) (.int .i64 (8 * (f.r : Int))) (.slice (some ⟨f.bU, 0, none⟩) (8 * f.c * (8 * f.r)) f.cU) (.int .i64 (8 * (f.c : Int))) (.int .i64 (8 * (f.r : Int))) (.slice (some ⟨f.bV, 0, none⟩) (8 * f.c * (8 * f.r)) f.cV)
      have i1 := fun W => idx_pl2 W (.int .i64 (16 * (f.c : Int))) (.int .i64 (16 * (f.r : Int))) (.slice (some ⟨bY, 0, none⟩) (16 * f.c * (16 * f.r)) kY) (.int .i64 (8 * (f.c : Int))) (.int .i64 (8 * (f.r : Int))) (.slice (some ⟨bU, 0, none⟩) (8 * f.c * (8 * f.r)) kU) (.int .i64 (8 * (f.c : Int))) (.int .i64 (8 * (f.r : Int))) (.slice (some ⟨bV, 0, none⟩) (8 * f.c * (8 * f.r)) kV)
      have hz1 := HO.lt
      have hp1 := HW.size
      have HP : Ob (wr.alloc (.cells #[.int .i64 (8 * (f.c : Int)), .int .i64 (8 * (f.r : Int)), .slice (some ⟨f.bV, 0, none⟩) (8 * f.c * (8 * f.r)) f.cV] PLT)) wr.heap.size PLT #[.int .i64 (8 * (f.c : Int)), .int .i64 (8 * (f.r : Int)), .slice (some ⟨f.bV, 0, none⟩) (8 * f.c * (8 * f.r)) f.cV] := Ob.new_at _ _ rfl
      have hZ := HZ.lt; have hbY := HY.lt; have hbU := HU.lt; have hbV := HV.lt
      replace HO := HO.alloc (.cells #[.int .i64 (8 * (f.c : Int)), .int .i64 (8 * (f.r : Int)), .slice (some ⟨f.bV, 0, none⟩) (8 * f.c * (8 * f.r)) f.cV] PLT); replace HZ := HZ.alloc (.cells #[.int .i64 (8 * (f.c : Int)), .int .i64 (8 * (f.r : Int)), .slice (some ⟨f.bV, 0, none⟩) (8 * f.c * (8 * f.r)) f.cV] PLT); replace hM := hM.alloc (.cells #[.int .i64 (8 * (f.c : Int)), .int .i64 (8 * (f.r : Int)), .slice (some ⟨f.bV, 0, none⟩) (8 * f.c * (8 * f.r)) f.cV] PLT); replace HY := HY.alloc (.cells #[.int .i64 (8 * (f.c : Int)), .int .i64 (8 * (f.r : Int)), .slice (some ⟨f.bV, 0, none⟩) (8 * f.c * (8 * f.r)) f.cV] PLT); replace HU := HU.alloc (.cells #[.int .i64 (8 * (f.c : Int)), .int .i64 (8 * (f.r : Int)), .slice (some ⟨f.bV, 0, none⟩) (8 * f.c * (8 * f.r)) f.cV] PLT); replace HV := HV.alloc (.cells #[.int .i64 (8 * (f.c : Int)), .int .i64 (8 * (f.r : Int)), .slice (some ⟨f.bV, 0, none⟩) (8 * f.c * (8 * f.r)) f.cV] PLT); replace HW := HW.alloc HW.size (.cells #[.int .i64 (8 * (f.c : Int)), .int .i64 (8 * (f.r : Int)), .slice (some ⟨f.bV, 0, none⟩) (8 * f.c * (8 * f.r)) f.cV] PLT)
      have hbV : wr.heap.size ≠ bV := by omega
      go_wp2_with (refine wpList_load_ob HO rfl _ _ rfl rfl Try.underlying43 (by kernel_rfl) ?_)
      generalize wr.alloc (.cells #[.int .i64 (8 * (f.c : Int)), .int .i64 (8 * (f.r : Int)), .slice (some ⟨f.bV, 0, none⟩) (8 * f.c * (8 * f.r)) f.cV] PLT) = w4 at *
      generalize wr.heap.size = p at *
      have hpl := planes_any ⟨f.c, f.r, bY, bU, bV, kY, kU, kV, f.sY, f.sU, f.sV⟩ w4
      unfold Fr.val Fr.cells Fr.planes at hpl
      refine hpl.mono ?_
      rintro e w5 ⟨rfl, hb⟩
      clear hpl
      replace HO := HO.later hb; replace HZ := HZ.later hb; replace hM := hM.later hb; replace HY := HY.later hb; replace HU := HU.later hb; replace HV := HV.later hb; replace HW := below_step HW hb; replace HP := HP.later hb
      clear hb
      have HQ : Ob (w5.alloc (.cells #[.int .i64 (8 * (f.c : Int)), .int .i64 (8 * (f.r : Int)), .slice (some ⟨bV, 0, none⟩) (8 * f.c * (8 * f.r)) kV] PLT)) w5.heap.size PLT #[.int .i64 (8 * (f.c : Int)), .int .i64 (8 * (f.r : Int)), .slice (some ⟨bV, 0, none⟩) (8 * f.c * (8 * f.r)) kV] := Ob.new_at _ _ rfl
      have hb2 : w5.heap.size ≠ bV := by have := HV.lt; omega
      replace HO := HO.alloc (.cells #[.int .i64 (8 * (f.c : Int)), .int .i64 (8 * (f.r : Int)), .slice (some ⟨bV, 0, none⟩) (8 * f.c * (8 * f.r)) kV] PLT); replace HZ := HZ.alloc (.cells #[.int .i64 (8 * (f.c : Int)), .int .i64 (8 * (f.r : Int)), .slice (some ⟨bV, 0, none⟩) (8 * f.c * (8 * f.r)) kV] PLT); replace hM := hM.alloc (.cells #[.int .i64 (8 * (f.c : Int)), .int .i64 (8 * (f.r : Int)), .slice (some ⟨bV, 0, none⟩) (8 * f.c * (8 * f.r)) kV] PLT); replace HY := HY.alloc (.cells #[.int .i64 (8 * (f.c : Int)), .int .i64 (8 * (f.r : Int)), .slice (some ⟨bV, 0, none⟩) (8 * f.c * (8 * f.r)) kV] PLT); replace HU := HU.alloc (.cells #[.int .i64 (8 * (f.c : Int)), .int .i64 (8 * (f.r : Int)), .slice (some ⟨bV, 0, none⟩) (8 * f.c * (8 * f.r)) kV] PLT); replace HV := HV.alloc (.cells #[.int .i64 (8 * (f.c : Int)), .int .i64 (8 * (f.r : Int)), .slice (some ⟨bV, 0, none⟩) (8 * f.c * (8 * f.r)) kV] PLT); replace HW := HW.alloc HW.size (.cells #[.int .i64 (8 * (f.c : Int)), .int .i64 (8 * (f.r : Int)), .slice (some ⟨bV, 0, none⟩) (8 * f.c * (8 * f.r)) kV] PLT); replace HP := HP.alloc (.cells #[.int .i64 (8 * (f.c : Int)), .int .i64 (8 * (f.r : Int)), .slice (some ⟨bV, 0, none⟩) (8 * f.c * (8 * f.r)) kV] PLT)
      go_wp2_with fail
      generalize w5.alloc (.cells #[.int .i64 (8 * (f.c : Int)), .int .i64 (8 * (f.r : Int)), .slice (some ⟨bV, 0, none⟩) (8 * f.c * (8 * f.r)) kV] PLT) = w6 at *
      generalize w5.heap.size = t at *
      clear i0 i1
      have hN : 8 * f.c * (8 * f.r) ≤ 4096 := Nat.mul_le_mul (show 8 * f.c ≤ 64 by omega) (show 8 * f.r ≤ 64 by omega)
      go_loopw [37] (fun v wr => ∃ j : Nat, j ≤ 8 * f.c * (8 * f.r) ∧ v = .int .i64 (j : Int) ∧ Ob wr p PLT #[.int .i64 (8 * (f.c : Int)), .int .i64 (8 * (f.r : Int)), .slice (some ⟨f.bV, 0, none⟩) (8 * f.c * (8 * f.r)) f.cV] ∧ Ob wr t PLT #[.int .i64 (8 * (f.c : Int)), .int .i64 (8 * (f.r : Int)), .slice (some ⟨bV, 0, none⟩) (8 * f.c * (8 * f.r)) kV] ∧ Ob wr q FRT #[.int .i64 (f.c : Int), .int .i64 (f.r : Int), .int .i64 (16 * (f.c : Int)), .int .i64 (16 * (f.r : Int)), .slice (some ⟨bY, 0, none⟩) (16 * f.c * (16 * f.r)) kY, .int .i64 (8 * (f.c : Int)), .int .i64 (8 * (f.r : Int)), .slice (some ⟨bU, 0, none⟩) (8 * f.c * (8 * f.r)) kU, .int .i64 (8 * (f.c : Int)), .int .i64 (8 * (f.r : Int)), .slice (some ⟨bV, 0, none⟩) (8 * f.c * (8 * f.r)) kV] ∧ Ob wr z FRT frZ ∧ f.Mem wr ∧ PB wr bY (16 * f.c * (16 * f.r)) (mvT (16 * f.c * (16 * f.r)) (mvS (16 * f.c) (16 * f.r) f.sY dx dy) f.sY) ∧ PB wr bU (8 * f.c * (8 * f.r)) (mvT (8 * f.c * (8 * f.r)) (mvS (8 * f.c) (8 * f.r) f.sU (dx / 2) (dy / 2)) f.sU) ∧ PB wr bV (8 * f.c * (8 * f.r)) (mvT j (mvS (8 * f.c) (8 * f.r) f.sV (dx / 2) (dy / 2)) f.sV) ∧ Below w.heap.size w wr) (fun v _ => 8 * f.c * (8 * f.r) - (intOf v).toNat)
      case atStart => exact ⟨0, by omega, rfl, HP, HQ, HO, HZ, hM, HY, HU, HV, HW⟩
      case round =>
        clear HP HQ HO HZ HW hM HY HU HV
        obtain ⟨j, hj, rfl, HP, HQ, HO, HZ, hM, HY, HU, HV, HW⟩ := hrel
        by_cases hlt : j < 8 * f.c * (8 * f.r)
        · have hd : decide ((j : Int) < 8 * (f.c : Int) * (8 * (f.r : Int))) = true := by
            have : ((j : Nat) : Int) < ((8 * f.c * (8 * f.r) : Nat) : Int) := by omega
            simpa using this
          have hc0 : 0 < 8 * f.c := by
            rcases Nat.eq_zero_or_pos (8 * f.c) with h | h
            · rw [h, Nat.zero_mul] at hlt; omega
            · exact h
          have hz0 : (8 * (f.c : Int) == 0) = false := by simp; omega
          obtain ⟨a, ha, ha2⟩ : ∃ a : Nat, (j : Int).tmod (8 * (f.c : Int)) = (a : Int) ∧ a = j % (8 * f.c) := ⟨_, by rw [show 8 * (f.c : Int) = ((8 * f.c : Nat) : Int) by simp]; rfl, rfl⟩
          obtain ⟨b, hb', hb3⟩ : ∃ b : Nat, (j : Int).tdiv (8 * (f.c : Int)) = (b : Int) ∧ b = j / (8 * f.c) := ⟨_, by rw [show 8 * (f.c : Int) = ((8 * f.c : Nat) : Int) by simp]; rfl, rfl⟩
          have a1 : a < 16384 := by have := Nat.mod_lt j hc0; omega
          have b1 : b < 16385 := by have := Nat.div_le_self j (8 * f.c); omega
          replace ha2 := Lib.hid ha2; replace hb3 := Lib.hid hb3
          have c0 : ∀ p : Regrown, (Sort.grow (redrawn wr p.d) p.os).cell? ⟨t, 0, none⟩ = some (.int .i64 (8 * (f.c : Int))) := fun p => (HQ.re p).cell 0 rfl
          have c1 : ∀ p : Regrown, (Sort.grow (redrawn wr p.d) p.os).cell? ⟨t, 2, none⟩ = some (.slice (some ⟨bV, 0, none⟩) (8 * f.c * (8 * f.r)) kV) := fun p => (HQ.re p).cell 2 rfl
          have c2 : ∀ r : Regrown, (Sort.grow (redrawn wr r.d) r.os).cell? ⟨p, 0, none⟩ = some (.int .i64 (8 * (f.c : Int))) := fun r => (HP.re r).cell 0 rfl
          have c3 : ∀ r : Regrown, (Sort.grow (redrawn wr r.d) r.os).cell? ⟨p, 1, none⟩ = some (.int .i64 (8 * (f.r : Int))) := fun r => (HP.re r).cell 1 rfl
          have c4 : ∀ r : Regrown, (Sort.grow (redrawn wr r.d) r.os).cell? ⟨p, 2, none⟩ = some (.slice (some ⟨f.bV, 0, none⟩) (8 * f.c * (8 * f.r)) f.cV) := fun r => (HP.re r).cell 2 rfl
          go_wp2_with fail
          apply wp_region_tail_below 17
          case hm => kernel_rfl
          case hB => kernel_rfl
          case hno => kernel_rfl
          case hF =>
            simp only [List.take_succ_cons, List.take_zero]
            repeat (go_big_quiet_step ((go_at_call 35; exact Calls.regrown_of (at8_any f.c f.r f.bV f.cV f.sV _ _ _ hc hr (hM.v.later (below_regrown _ _ _))))))
            exact wpQuiet_nil rfl
          case hT =>
            intro w7 hw7
            simp only [List.drop_succ_cons, List.drop_zero]
            have hbd := plAt_bd hM.v ((a : Int) - (dx / 2)) ((b : Int) - (dy / 2))
            clear c0 c1 c2 c3 c4
            replace HO := HO.later hw7; replace HZ := HZ.later hw7; replace hM := hM.later hw7; replace HY := HY.later hw7; replace HU := HU.later hw7; replace HV := HV.later hw7; replace HW := below_step HW hw7; replace HP := HP.later hw7; replace HQ := HQ.later hw7
            have c8 := HV.cell hlt
            have f8 := HV.free j
            go_wp2_with fail
            refine ⟨⟨j + 1, by omega, by go_num, HP.other (fun e => hbV e.symm) _ _, HQ.other (fun e => hb2 e.symm) _ _, HO.other (fun e => k3 e.symm) _ _, HZ.other (by omega) _ _, hM.other (by omega) (by omega) (by omega) _ _, HY.other n2.symm _ _, HU.other n3.symm _ _, ?_, HW.setCell (by show _ ≤ bV; omega) _⟩, by simp [intOf]; omega⟩
            rw [← mvT_step (v := plAt (8 * f.c) (8 * f.r) f.sV ((a : Int) - (dx / 2)) ((b : Int) - (dy / 2))) (by unfold mvS; rw [ha2.out, hb3.out])]
            exact HV.set j _ hbd
        · obtain rfl : j = 8 * f.c * (8 * f.r) := by omega
          have hd : decide (((8 * f.c * (8 * f.r) : Nat) : Int) < 8 * (f.c : Int) * (8 * (f.r : Int))) = false := by simp
          go_wp2_with fail
          exact ⟨⟨3, by omega, rfl, HO, HZ, hM, HY, HU, HV, HW⟩, by simp [intOf]⟩
    · subst hz
      go_wp2_with (first | (refine wpList_load_ob HO rfl _ _ rfl rfl Try.underlying43 (by kernel_rfl) ?_) | (refine wpList_store_ob HZ rfl _ _ _ rfl rfl #[.int .i64 (f.c : Int), .int .i64 (f.r : Int), .int .i64 (16 * (f.c : Int)), .int .i64 (16 * (f.r : Int)), .slice (some ⟨bY, 0, none⟩) (16 * f.c * (16 * f.r)) kY, .int .i64 (8 * (f.c : Int)), .int .i64 (8 * (f.r : Int)), .slice (some ⟨bU, 0, none⟩) (8 * f.c * (8 * f.r)) kU, .int .i64 (8 * (f.c : Int)), .int .i64 (8 * (f.r : Int)), .slice (some ⟨bV, 0, none⟩) (8 * f.c * (8 * f.r)) kV] rfl (by kernel_rfl) rfl rfl ?_))
      have hzY : w.heap.size + 1 ≠ bY := by omega
      have hzU : w.heap.size + 1 ≠ bU := by omega
      have hzV : w.heap.size + 1 ≠ bV := by omega
      replace HY : PB wr bY (16 * f.c * (16 * f.r)) (mvT (16 * f.c * (16 * f.r)) (mvS (16 * f.c) (16 * f.r) f.sY dx dy) f.sY) := HY
      replace HU : PB wr bU (8 * f.c * (8 * f.r)) (mvT (8 * f.c * (8 * f.r)) (mvS (8 * f.c) (8 * f.r) f.sU (dx / 2) (dy / 2)) f.sU) := HU
      replace HV : PB wr bV (8 * f.c * (8 * f.r)) (mvT (8 * f.c * (8 * f.r)) (mvS (8 * f.c) (8 * f.r) f.sV (dx / 2) (dy / 2)) f.sV) := HV
      exact bodyPost_ret (results_ob rfl _ (HZ.setRow_same _) rfl Try.underlying43 (by kernel_rfl)) rfl ⟨⟨f.c, f.r, bY, bU, bV, kY, kU, kV, (mvS (16 * f.c) (16 * f.r) f.sY dx dy), (mvS (8 * f.c) (8 * f.r) f.sU (dx / 2) (dy / 2)), (mvS (8 * f.c) (8 * f.r) f.sV (dx / 2) (dy / 2))⟩, rfl, ⟨rfl, rfl, rfl, rfl, rfl⟩, ⟨hc, hr, ((HY.congr (fun k hk => by unfold mvT; rw [if_pos hk])).setRow hzY _), ((HU.congr (fun k hk => by unfold mvT; rw [if_pos hk])).setRow hzU _), ((HV.congr (fun k hk => by unfold mvT; rw [if_pos hk])).setRow hzV _), n1, n2, n3⟩, ⟨by show _ ≤ bY; omega, by show _ ≤ bU; omega, by show _ ≤ bV; omega⟩, below_setRow HW (by omega) _⟩
end Go.Proofs.Ytbldgpemocnboaa

/- plane.Frame's Fill, walked. -/
import Derived.Test.YtbldgpemocnboaaFr5
namespace Go.Proofs.Ytbldgpemocnboaa
open Go.RowKit
attribute [local go_sem ↓] run_imax run_imin

def FillP (f : Fr) (x y wd ht l b r : Int) (w : World) (e : Ending) (w' : World) : Prop :=
  e = .returned (.tuple #[]) ∧ ∃ sY sU sV, (f.put sY sU sV).Mem w' ∧ WrF f.bY f.bU f.bV w w' ∧
    (∀ a c, a < 16 * f.c → c < 16 * f.r → (x ≤ a ∧ (a : Int) < x + wd ∧ y ≤ c ∧ (c : Int) < y + ht) → sY (c * (16 * f.c) + a) = l ∧ sU (c / 2 * (8 * f.c) + a / 2) = b ∧ sV (c / 2 * (8 * f.c) + a / 2) = r) ∧
    (∀ a c, a < 16 * f.c → c < 16 * f.r → ¬ (x ≤ a ∧ (a : Int) < x + wd ∧ y ≤ c ∧ (c : Int) < y + ht) → sY (c * (16 * f.c) + a) = f.sY (c * (16 * f.c) + a))

set_option maxHeartbeats 2000000 in
theorem fill_any (f : Fr) (x y wd ht l b r : Int) (w : World) (hM : f.Mem w) (h1 : -40000 ≤ x ∧ x ≤ 40000) (h2 : -40000 ≤ y ∧ y ≤ 40000) (h3 : -40000 ≤ wd ∧ wd ≤ 40000) (h4 : -40000 ≤ ht ∧ ht ≤ 40000)
    (hl : 0 ≤ l ∧ l ≤ 255) (hb : 0 ≤ b ∧ b ≤ 255) (hr : 0 ≤ r ∧ r ≤ 255) :
    Calls Try.prog 34 #[f.val, .int .i64 x, .int .i64 y, .int .i64 wd, .int .i64 ht, .int .u8 l, .int .u8 b, .int .u8 r] w (FillP f x y wd ht l b r w) := by
  have hc := hM.hc; have hrr := hM.hr
  have ey := hM.y.lt; have eu := hM.u.lt; have ev := hM.v.lt
  have n1 := hM.yu; have n2 := hM.yv; have n3 := hM.uv
  obtain ⟨x0, hx0, hx1⟩ : ∃ x0 : Nat, imax x 0 = x0 ∧ (x0 : Int) = max x 0 := ⟨(max x 0).toNat, by rw [imax_eq]; omega, by omega⟩
  obtain ⟨y0, hy0, hy1⟩ : ∃ y0 : Nat, imax y 0 = y0 ∧ (y0 : Int) = max y 0 := ⟨(max y 0).toNat, by rw [imax_eq]; omega, by omega⟩
  obtain ⟨mx, hmx, hmx1⟩ : ∃ mx : Int, imin (x + wd) (16 * (f.c : Int)) = mx ∧ mx = min (x + wd) (16 * (f.c : Int)) := ⟨_, rfl, by rw [imin_eq]⟩
  obtain ⟨my, hmy, hmy1⟩ : ∃ my : Int, imin (y + ht) (16 * (f.r : Int)) = my ∧ my = min (y + ht) (16 * (f.r : Int)) := ⟨_, rfl, by rw [imin_eq]⟩
  replace hx1 := Lib.hid hx1; replace hy1 := Lib.hid hy1; replace hmx1 := Lib.hid hmx1; replace hmy1 := Lib.hid hmy1
  have mxb : mx ≤ 16 * (f.c : Int) := by have := hmx1.out; omega
  have myb : my ≤ 16 * (f.r : Int) := by have := hmy1.out; omega
  have HO : Ob (w.alloc (.cells f.cells 43)) w.heap.size FRT f.cells := Ob.new_at _ _ rfl
  replace hM := hM.alloc (.cells f.cells 43)
  have HY := hM.y; have HU := hM.u; have HV := hM.v
  clear hM
  have HW : WrF f.bY f.bU f.bV w (w.alloc (.cells f.cells 43)) := (WrF.refl _ _ _ _).alloc _
  unfold Fr.val
  go_enter Try.func34, Try.ntmps34
  go_wp2_with fail
  generalize w.alloc (.cells f.cells 43) = w2 at *
  go_loopw [16] (fun v wr => ∃ j : Nat, ∃ sY sU sV, y0 ≤ j ∧ v = .int .i64 j ∧ (j : Int) ≤ 1000000 ∧ Ob wr w.heap.size FRT f.cells ∧ PB wr f.bY (16 * f.c * (16 * f.r)) sY ∧ PB wr f.bU (8 * f.c * (8 * f.r)) sU ∧ PB wr f.bV (8 * f.c * (8 * f.r)) sV ∧ FillS (16 * f.c) (16 * f.r) x0 y0 mx my l b r j 0 f.sY sY sU sV (8 * f.c) ∧ WrF f.bY f.bU f.bV w wr) (fun i _ => (my - intOf i).toNat)
  case atStart => exact ⟨y0, _, _, _, Nat.le_refl _, rfl, by have := hy1.out; omega, HO, HY, HU, HV, FillS.start, HW⟩
  case round =>
    clear HO HY HU HV HW
    obtain ⟨j, sY, sU, sV, hj, rfl, hjb, HO, HY, HU, HV, HS, HW⟩ := hrel
    have c3 := HO.fYH
    by_cases hlt : (j : Int) < my
    · have hd : decide ((j : Int) < my) = true := by simpa using hlt
      go_wp2_with fail
      clear c3
      replace HS := HS.iff (i' := x0) (fun a c => (inSq_row (Nat.le_refl _) a c).symm)
      go_loopw [17] (fun v wr => ∃ i : Nat, ∃ sY sU sV, x0 ≤ i ∧ v = .int .i64 i ∧ (i : Int) ≤ 1000000 ∧ Ob wr w.heap.size FRT f.cells ∧ PB wr f.bY (16 * f.c * (16 * f.r)) sY ∧ PB wr f.bU (8 * f.c * (8 * f.r)) sU ∧ PB wr f.bV (8 * f.c * (8 * f.r)) sV ∧ FillS (16 * f.c) (16 * f.r) x0 y0 mx my l b r j i f.sY sY sU sV (8 * f.c) ∧ WrF f.bY f.bU f.bV w wr) (fun i _ => (mx - intOf i).toNat)
      case atStart => exact ⟨x0, _, _, _, Nat.le_refl _, rfl, by have := hx1.out; omega, HO, HY, HU, HV, HS, HW⟩
      case round =>
        clear HO HY HU HV HS HW
        obtain ⟨i, sY, sU, sV, hi, rfl, hib, HO, HY, HU, HV, HS, HW⟩ := hrel
        have c2 := HO.fYW
        have i0 : (0 : Int) ≤ i := by omega
        have j0 : (0 : Int) ≤ j := by omega
        by_cases hlt2 : (i : Int) < mx
        · have hd2 : decide ((i : Int) < mx) = true := by simpa using hlt2
          have c3 := HO.fYH
          have c4 := HO.fYS
          replace HS := Lib.hid (HS.step hi hj hlt2 hlt (by omega) (by omega) (H' := 8 * f.r) (by omega))
          go_wp2_with fail
          refine (set16_any f.c f.r f.bY f.cY _ _ _ _ _ hc hrr hl HY).mono ?_
          rintro e w3 ⟨rfl, HY3, hWr⟩
          replace HO := HO.wr hWr (by omega); replace HU := HU.wr hWr n1.symm; replace HV := HV.wr hWr n2.symm
          replace HW := HW.wr hWr (Or.inl rfl)
          clear HY hWr c2 c3 c4
          have c2 := HO.fUW
          have c3 := HO.fUH
          have c4 := HO.fUS
          go_wp2_with fail
          refine (set8_any f.c f.r f.bU f.cU _ _ _ _ _ hc hrr hb HU).mono ?_
          rintro e w4 ⟨rfl, HU3, hWr⟩
          replace HO := HO.wr hWr (by omega); replace HY3 := HY3.wr hWr n1; replace HV := HV.wr hWr n3.symm
          replace HW := HW.wr hWr (Or.inr (Or.inl rfl))
          clear HU hWr c2 c3 c4
          have c2 := HO.fVW
          have c3 := HO.fVH
          have c4 := HO.fVS
          go_wp2_with fail
          refine (set8_any f.c f.r f.bV f.cV _ _ _ _ _ hc hrr hr HV).mono ?_
          rintro e w5 ⟨rfl, HV3, hWr⟩
          replace HO := HO.wr hWr (by omega); replace HY3 := HY3.wr hWr n2; replace HU3 := HU3.wr hWr n3
          replace HW := HW.wr hWr (Or.inr (Or.inr rfl))
          clear HV hWr c2 c3 c4
          go_wp2_with fail
          exact ⟨⟨i + 1, _, _, _, by omega, by go_num, by omega, HO, HY3, HU3, HV3, HS.out, HW⟩, by simp [intOf]; omega⟩
        · have hd2 : decide ((i : Int) < mx) = false := by simpa using hlt2
          replace HS := Lib.hid (HS.iff (fun a c => inSq_next (by omega) a c))
          go_wp2_with fail
          exact ⟨⟨j + 1, _, _, _, by omega, by go_num, by omega, HO, HY, HU, HV, HS.out, HW⟩, by simp [intOf]; omega⟩
    · have hd : decide ((j : Int) < my) = false := by simpa using hlt
      replace HS := Lib.hid HS
      go_wp2_with fail
      go_end0
      have e1 := hx1.out; have e2 := hy1.out; have e3 := hmx1.out; have e4 := hmy1.out
      refine ⟨rfl, sY, sU, sV, ⟨hc, hrr, HY, HU, HV, n1, n2, n3⟩, HW, fun a c ha hc2 hin => ?_, fun a c ha hc2 hin => ?_⟩
      · have hq : inSq x0 y0 mx my j 0 a c := by unfold inSq; omega
        exact ⟨HS.out.y a c ha hc2 hq, HS.out.u a c ha hc2 hq, HS.out.v a c ha hc2 hq⟩
      · exact HS.out.n a c ha hc2 (by unfold inSq; omega)
end Go.Proofs.Ytbldgpemocnboaa

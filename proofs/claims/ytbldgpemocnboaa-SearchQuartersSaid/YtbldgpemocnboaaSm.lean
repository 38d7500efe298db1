/- kinescopelaw06.Small: its value; Light. | kinescopelaw06.Small: Sized. | kinescopelaw06.Small: Frame. | A frame stored into a cell of its own: what stays. -/
import Derived.Test.YtbldgpemocnboaaFr8
namespace Go.Proofs.Ytbldgpemocnboaa
open Go.RowKit Go.Sort
attribute [local go_sem ↓] run_imax run_imin

abbrev SMT : TypeId := 38
/-- A Small: its seven numbers, the slice of its samples. -/
def smC (co ro ki a b c sd : Int) (p : Option Addr) (n m : Nat) : Array Value := #[.int .u8 co, .int .u8 ro, .int .u8 ki, .int .u8 a, .int .u8 b, .int .u8 c, .int .u32 sd, .slice p n m]
def smV (co ro ki a b c sd : Int) (p : Option Addr) (n m : Nat) : Value := .agg (smC co ro ki a b c sd p n m)
theorem light_any (co ro ki a b c sd : Int) (p : Option Addr) (n m : Nat) (w : World) (hn : n ≤ maxLen) :
    Calls Try.prog 31 #[smV co ro ki a b c sd p n m] w fun e w' => e = .returned (.bool (decide (n ≤ 2000))) ∧ Below w.heap.size w w' := by
  have hn' : n ≤ 9223372036854775807 := by unfold maxLen at hn; omega
  have hd : decide ((n : Int) ≤ 2000) = decide (n ≤ 2000) := by rw [decide_eq_decide]; omega
  unfold smV smC
  by_cases h : n ≤ 2000
  · have e : decide ((n : Int) ≤ 2000) = true := by simp; omega
    have e2 : decide (n ≤ 2000) = true := by simpa using h
    rw [e2]
    clear hd e2
    go_enter Try.func31, Try.ntmps31
    go_wp2_with fail
    go_ret
    exact ⟨ret_bool (by simp), by ((repeat (first | exact Below.refl _ _ | assumption | refine Below.setCell ?_ (by first | omega | (simp; done) | (simp; omega)) _ | refine Below.alloc ?_ (by first | omega | (simp; done) | (simp; omega)) _ | refine below_drewN ?_ _ | refine Below.drew ?_ | refine below_setRow ?_ (by first | omega | (simp; done) | (simp; omega)) _)))⟩
  · have e : decide ((n : Int) ≤ 2000) = false := by simp; omega
    have e2 : decide (n ≤ 2000) = false := by simpa using h
    rw [e2]
    clear hd e2
    go_enter Try.func31, Try.ntmps31
    go_wp2_with fail
    go_ret
    exact ⟨ret_bool (by simp), by ((repeat (first | exact Below.refl _ _ | assumption | refine Below.setCell ?_ (by first | omega | (simp; done) | (simp; omega)) _ | refine Below.alloc ?_ (by first | omega | (simp; done) | (simp; omega)) _ | refine below_drewN ?_ _ | refine Below.drew ?_ | refine below_setRow ?_ (by first | omega | (simp; done) | (simp; omega)) _)))⟩
end Go.Proofs.Ytbldgpemocnboaa

namespace Go.Proofs.Ytbldgpemocnboaa
open Go.RowKit Go.Sort
attribute [local go_sem ↓] run_imax run_imin

/-- A struct stored into its block; the walk stops at the world behind it. -/
theorem wpList_store_stop {P : Program} {ops : Array Oper} {rest : List Oper} {o : Oper} {a : Act} {w : World} {Q : Exit → Act → World → Prop} {b : Nat} {T : TypeId} {cs : Array Value}
    (H : Ob w b T cs) (hgd : o.guard = none) (ty : TypeId) (x y : Operand) (ho : o.op = .store ty x y) (hx : a.eval x = .pointer (some ⟨b, 0, none⟩)) (ds : Array Value) (hy : a.eval y = .agg ds)
    (hi : (P.info? ty).map (·.size) = some ds.size) (hs : cs.size = ds.size) (h1 : ds.toList.all (·.oneCell') = true)
    (h : ∀ w', RowKit.Hid (w.setRow b ds = w') → wpList P ops Q rest (a.put o.dst undef) w') : wpList P ops Q (o :: rest) a w :=
  wpList_store_ob H hgd ty x y ho hx ds hy hi hs h1 (h _ (Lib.hid rfl))
def frZ : Array Value := #[.int .i64 0, .int .i64 0, .int .i64 0, .int .i64 0, .slice none 0 0, .int .i64 0, .int .i64 0, .slice none 0 0, .int .i64 0, .int .i64 0, .slice none 0 0]
def SizedP (c r : Nat) (w : World) (e : Ending) (w' : World) : Prop := ∃ f : Fr, e = .returned f.val ∧ f.c = c ∧ f.r = r ∧ f.Mem w' ∧ f.From w.heap.size ∧ Below w.heap.size w w'

set_option maxRecDepth 1000000 in
set_option maxHeartbeats 4000000 in
theorem sized_any (co ro ki a b c sd : Int) (p : Option Addr) (n m : Nat) (sl : Nat → Int) (cc rr : Nat) (w : World) (hki : 0 ≤ ki ∧ ki ≤ 255) (ha : 0 ≤ a ∧ a ≤ 255) (hb : 0 ≤ b ∧ b ≤ 255) (hc : 0 ≤ c ∧ c ≤ 255) (hs : 0 ≤ sd ∧ sd < 4294967296)
    (hn : n ≤ 2000) (hS : SL w p n (u8v sl)) (hsb : ∀ k, k < n → 0 ≤ sl k ∧ sl k ≤ 255) (hcc : 1 ≤ cc ∧ cc ≤ 8) (hrr : 1 ≤ rr ∧ rr ≤ 8) :
    Calls Try.prog 38 #[smV co ro ki a b c sd p n m, .int .i64 (cc : Int), .int .i64 (rr : Int)] w (SizedP cc rr w) := by
  replace hS := Lib.hid hS; replace hsb := Lib.hid hsb
  unfold smV smC
  have k5 : ki % 5 = 0 ∨ ki % 5 = 1 ∨ ki % 5 = 2 ∨ ki % 5 = 3 ∨ ki % 5 = 4 := by omega
  replace k5 := Lib.hid k5
  go_enter Try.func38, Try.ntmps38
  go_wp2_with fail
  refine (newFrame_any _ _ a cc rr _ (by rw [imin_eq, imax_eq]; omega) (by rw [imin_eq, imax_eq]; omega) ha).mono ?_
  rintro e w1 ⟨b1, b2, b3, rfl, hF, hM, hb1⟩
  have HB : Ob w1 w.heap.size SMT (smC co ro ki a b c sd p n m) := (((Ob.new_at _ _ rfl).alloc _)).later hb1
  have HZ : Ob w1 (w.heap.size + 1) FRT frZ := (Ob.new_at _ _ (by simp)).later hb1
  have HW : Below w.heap.size w w1 := below_step (by ((repeat (first | exact Below.refl _ _ | assumption | refine Below.setCell ?_ (by first | omega | (simp; done) | (simp; omega)) _ | refine Below.alloc ?_ (by first | omega | (simp; done) | (simp; omega)) _ | refine below_drewN ?_ _ | refine Below.drew ?_ | refine below_setRow ?_ (by first | omega | (simp; done) | (simp; omega)) _)))) hb1
  replace hF := hF.mono (B' := w.heap.size + 2) (by simp)
  clear hb1
  generalize hf : frFlat cc rr b1 b2 b3 a = f at *
  have fc : f.c = cc := by rw [← hf]; rfl
  have fr : f.r = rr := by rw [← hf]; rfl
  clear hf
  unfold Fr.val
  have hst := HB.lt; have hzt := HZ.lt
  go_wp2_with (refine wpList_store_stop (Ob.new_at (w := w1) FRT frZ rfl) rfl _ _ _ rfl rfl f.cells rfl (by kernel_rfl) rfl rfl ?_)
  intro w2 hw2
  replace hw2 := hw2.out
  replace HB : Ob w2 w.heap.size SMT (smC co ro ki a b c sd p n m) := by rw [← hw2]; exact (HB.alloc _).setRow (by omega) _
  replace HZ : Ob w2 (w.heap.size + 1) FRT frZ := by rw [← hw2]; exact (HZ.alloc _).setRow (by omega) _
  have HO : Ob w2 w1.heap.size FRT f.cells := by rw [← hw2]; exact (Ob.new_at (w := w1) FRT frZ rfl).setRow_same _
  have gy := hM.y.lt; have gu := hM.u.lt; have gv := hM.v.lt
  replace hM : f.Mem w2 := by rw [← hw2]; exact (hM.alloc _).setRow (by omega) (by omega) (by omega) _
  replace HW : Below w.heap.size w w2 := by rw [← hw2]; exact below_setRow (HW.alloc HW.size _) HW.size _
  clear hw2
  generalize w1.heap.size = q at *
  have hf1 := hF.y; have hf2 := hF.u; have hf3 := hF.v
  have g1 : w.heap.size + 1 ≠ f.bY := by omega
  have g2 : w.heap.size + 1 ≠ f.bU := by omega
  have g3 : w.heap.size + 1 ≠ f.bV := by omega
  have c2 := HB.cell 2 (v := .int .u8 ki) rfl
  have c3 := HB.cell 3 (v := .int .u8 a) rfl
  have c4 := HB.cell 4 (v := .int .u8 b) rfl
  have c5 := HB.cell 5 (v := .int .u8 c) rfl
  have fc8 : f.c ≤ 8 := by omega
  have fr8 : f.r ≤ 8 := by omega
  rcases k5.out with k | k | k | k | k
  · clear k5
    go_wp2_with (first | (refine wpList_load_ob HO rfl _ _ rfl rfl Try.underlying43 (by kernel_rfl) ?_) | (refine wpList_store_ob HZ rfl _ _ _ rfl rfl f.cells rfl (by kernel_rfl) rfl rfl ?_))
    exact bodyPost_ret (results_ob rfl _ (HZ.setRow_same _) rfl Try.underlying43 (by kernel_rfl)) rfl ⟨f, rfl, fc, fr, hM.setRow g1 g2 g3 _, hF.mono (by omega), below_setRow HW (by omega) _⟩
  · clear k5
    go_wp2_with (refine wpList_load_ob HO rfl _ _ rfl rfl Try.underlying43 (by kernel_rfl) ?_)
    refine (slope_any f _ _ _ _ hM (by omega) (by omega) (by omega)).mono ?_
    rintro e w3 ⟨rfl, HP, hWr⟩
    have HM2 : (f.put (slF (16 * f.c) a (b % 40 - 20) (c % 40 - 20) (16 * f.c * (16 * f.r)) f.sY) f.sU f.sV).Mem w3 := ⟨hM.hc, hM.hr, HP, hM.u.wr hWr hM.yu.symm, hM.v.wr hWr hM.yv.symm, hM.yu, hM.yv, hM.uv⟩
    replace HO := HO.wr hWr (by omega); replace HZ := HZ.wr hWr g1; replace HB := HB.wr hWr (by omega); replace HW := hWr.below HW (by omega)
    clear hM HP hWr c2 c3 c4 c5
    go_wp2_with (first | (refine wpList_load_ob HO rfl _ _ rfl rfl Try.underlying43 (by kernel_rfl) ?_) | (refine wpList_store_ob HZ rfl _ _ _ rfl rfl f.cells rfl (by kernel_rfl) rfl rfl ?_))
    exact bodyPost_ret (results_ob rfl _ (HZ.setRow_same _) rfl Try.underlying43 (by kernel_rfl)) rfl ⟨(f.put (slF (16 * f.c) a (b % 40 - 20) (c % 40 - 20) (16 * f.c * (16 * f.r)) f.sY) f.sU f.sV), rfl, fc, fr, HM2.setRow g1 g2 g3 _, ⟨by show _ ≤ f.bY; omega, by show _ ≤ f.bU; omega, by show _ ≤ f.bV; omega⟩, below_setRow HW (by omega) _⟩
  · clear k5
    go_wp2_with (refine wpList_load_ob HO rfl _ _ rfl rfl Try.underlying43 (by kernel_rfl) ?_)
    refine (slope_any f _ _ _ _ hM (by omega) (by omega) (by omega)).mono ?_
    rintro e w3 ⟨rfl, HP, hWr⟩
    have HM2 : (f.put (slF (16 * f.c) a (b % 40 - 20) (c % 40 - 20) (16 * f.c * (16 * f.r)) f.sY) f.sU f.sV).Mem w3 := ⟨hM.hc, hM.hr, HP, hM.u.wr hWr hM.yu.symm, hM.v.wr hWr hM.yv.symm, hM.yu, hM.yv, hM.uv⟩
    replace HO := HO.wr hWr (by omega); replace HZ := HZ.wr hWr g1; replace HB := HB.wr hWr (by omega); replace HW := hWr.below HW (by omega)
    clear hM HP hWr c2 c3 c4 c5
    have c5 := HB.cell 5 (v := .int .u8 c) rfl
    have c6 := HB.cell 6 (v := .int .u32 sd) rfl
    go_wp2_with (refine wpList_load_ob HO rfl _ _ rfl rfl Try.underlying43 (by kernel_rfl) ?_)
    refine (noise_any _ _ _ _ HM2 hs).mono ?_
    rintro e w4 ⟨rfl, HM3, hWr⟩
    clear HM2 c5 c6
    have HM2 := HM3
    clear HM3
    replace HO := HO.wrf hWr (by show q ≠ f.bY; omega) (by show q ≠ f.bU; omega) (by show q ≠ f.bV; omega); replace HZ := HZ.wrf hWr g1 g2 g3
    replace HW := hWr.below HW HW.size (by show _ ≤ f.bY; omega) (by show _ ≤ f.bU; omega) (by show _ ≤ f.bV; omega)
    clear hWr
    go_wp2_with (first | (refine wpList_load_ob HO rfl _ _ rfl rfl Try.underlying43 (by kernel_rfl) ?_) | (refine wpList_store_ob HZ rfl _ _ _ rfl rfl f.cells rfl (by kernel_rfl) rfl rfl ?_))
    exact bodyPost_ret (results_ob rfl _ (HZ.setRow_same _) rfl Try.underlying43 (by kernel_rfl)) rfl ⟨nzP (min (max (c % 30) 0) 255) sd (f.put (slF (16 * f.c) a (b % 40 - 20) (c % 40 - 20) (16 * f.c * (16 * f.r)) f.sY) f.sU f.sV) 3, rfl, fc, fr, HM2.setRow g1 g2 g3 _, ⟨by show _ ≤ f.bY; omega, by show _ ≤ f.bU; omega, by show _ ≤ f.bV; omega⟩, below_setRow HW (by omega) _⟩
  · clear k5
    go_wp2_with (refine wpList_load_ob HO rfl _ _ rfl rfl Try.underlying43 (by kernel_rfl) ?_)
    refine (fill_any f _ _ _ _ _ _ _ _ hM (by omega) (by omega) (by omega) (by omega) (by omega) hb hc).mono ?_
    rintro e w3 ⟨rfl, sY, sU, sV, HM2, hWr, _, _⟩
    replace HO := HO.wrf hWr (by omega) (by omega) (by omega); replace HZ := HZ.wrf hWr g1 g2 g3
    replace HW := hWr.below HW HW.size (by omega) (by omega) (by omega)
    clear hM hWr c2 c3 c4 c5
    go_wp2_with (first | (refine wpList_load_ob HO rfl _ _ rfl rfl Try.underlying43 (by kernel_rfl) ?_) | (refine wpList_store_ob HZ rfl _ _ _ rfl rfl f.cells rfl (by kernel_rfl) rfl rfl ?_))
    exact bodyPost_ret (results_ob rfl _ (HZ.setRow_same _) rfl Try.underlying43 (by kernel_rfl)) rfl ⟨f.put sY sU sV, rfl, fc, fr, HM2.setRow g1 g2 g3 _, ⟨by show _ ≤ f.bY; omega, by show _ ≤ f.bU; omega, by show _ ≤ f.bV; omega⟩, below_setRow HW (by omega) _⟩
  · clear k5
    have c7 := HB.cell 7 (v := .slice p n m) rfl
    go_wp2_with fail
    clear c2 c3 c4 c5 c7
    have HY := hM.y; have HU := hM.u; have HV := hM.v
    have m1 := hM.yu; have m2 := hM.yv; have m3 := hM.uv
    clear hM
    have fc' := Lib.hid fc; have fr' := Lib.hid fr
    clear fc fr
    go_loopw [84] (fun v wr => ∃ j : Nat, ∃ sY sU sV, j ≤ n ∧ v = .int .i64 j ∧ Ob wr q FRT f.cells ∧ Ob wr (w.heap.size + 1) FRT frZ ∧ PB wr f.bY (16 * f.c * (16 * f.r)) sY ∧ PB wr f.bU (8 * f.c * (8 * f.r)) sU ∧ PB wr f.bV (8 * f.c * (8 * f.r)) sV ∧ Below w.heap.size w wr) (fun v _ => n - (intOf v).toNat)
    case atStart => exact ⟨0, _, _, _, by omega, rfl, HO, HZ, HY, HU, HV, HW⟩
    case round =>
      clear HO HZ HY HU HV HW HB
      obtain ⟨j, sY, sU, sV, hj, rfl, HO, HZ, HY, HU, HV, HW⟩ := hrel
      by_cases hlt : j < n
      · obtain ⟨bs, os, rfl, hbs, hcs⟩ : ∃ bs os, p = some ⟨bs, os, none⟩ ∧ bs < w.heap.size ∧ ∀ k, k < n → w.cell? ⟨bs, os + k, none⟩ = some (u8v sl k) := by
          rcases hS.out with h | h
          · omega
          · exact h
        obtain ⟨x1, x2⟩ := hsb.out j hlt
        have c4 : wr.cell? ⟨bs, os + j, none⟩ = some (.int .u8 (sl j)) := by rw [HW.cell (p := ⟨bs, os + j, none⟩) hbs]; exact hcs j hlt
        clear hcs
        have c5 := HO.fYS
        by_cases hin : j < 16 * f.c * (16 * f.r)
        · have d1 : decide ((j : Int) < 16 * (f.c : Int) * (16 * (f.r : Int))) = true := by
            have : ((j : Nat) : Int) < ((16 * f.c * (16 * f.r) : Nat) : Int) := by omega
            simpa using this
          by_cases h6 : j < 600
          · have d2 : decide ((j : Int) < 600) = true := by simp; omega
            have c6 := HY.cell hin
            have f6 := HY.free j
            go_wp2_with fail
            replace HO := HO.other (c := f.bY) (by omega) j (.int .u8 (sl j)); replace HZ := HZ.other (c := f.bY) (fun e => g1 e.symm) j (.int .u8 (sl j)); replace HY := HY.set j _ ⟨x1, x2⟩; replace HU := HU.other m1 j (.int .u8 (sl j)); replace HV := HV.other m2 j (.int .u8 (sl j)); replace HW := HW.setCell (p := ⟨f.bY, j, none⟩) (by show _ ≤ f.bY; omega) (.int .u8 (sl j))
            clear c4 c5 c6 f6
            generalize wr.setCell ⟨f.bY, j, none⟩ (.int .u8 (sl j)) = wr at *
            generalize (fun k => if k = j then sl j else sY k) = sY at *
            have hN : 1 ≤ 8 * f.c * (8 * f.r) := Nat.mul_pos (by have := fc'.out; omega) (by have := fr'.out; omega)
            obtain ⟨nU, hnU⟩ : ∃ nU, nU = 8 * f.c * (8 * f.r) := ⟨_, rfl⟩
            have c7 : wr.cell? ⟨q, 7, none⟩ = some (.slice (some ⟨f.bU, 0, none⟩) nU f.cU) := by rw [hnU]; exact HO.fUS
            have zU : ((nU : Int) == 0) = false := by simp; omega
            have iU : (j : Int).tmod (nU : Int) = ((j % nU : Nat) : Int) := rfl
            have lU : j % nU < nU := Nat.mod_lt _ (by omega)
            rw [← hnU] at HU
            replace hnU := Lib.hid hnU
            have c8 := HU.cell lU
            have f8 := HU.free (j % nU)
            generalize hmU : j % nU = mU at *
            replace hmU := Lib.hid hmU
            apply wp_region_tail_drew 11
            case hm => kernel_rfl
            case hB => kernel_rfl
            case hno => kernel_rfl
            case hF =>
              simp only [List.take_succ_cons, List.take_zero]
              repeat (go_big_quiet_step (fail))
              exact wpQuiet_nil rfl
            case hT =>
              intro nq
              simp only [List.drop_succ_cons, List.drop_zero]
              replace HO := HO.drewN nq; replace HZ := HZ.drewN nq; replace HY := HY.drewN nq; replace HU := HU.drewN nq; replace HV := HV.drewN nq; replace HW : Below w.heap.size w (wr.drewN nq) := below_drewN HW nq; replace f8 : (wr.drewN nq).frozen? ⟨f.bU, mU, none⟩ = false := f8; replace c8 : (wr.drewN nq).cell? ⟨f.bU, mU, none⟩ = some (.int .u8 (sU mU)) := c8
              clear c7
              generalize wr.drewN nq = wr at *
              go_wp2_with fail
              replace HO := HO.other (c := f.bU) (by omega) mU (.int .u8 (sl j / 2)); replace HZ := HZ.other (c := f.bU) (fun e => g2 e.symm) mU (.int .u8 (sl j / 2)); replace HY := HY.other m1.symm mU (.int .u8 (sl j / 2)); replace HU := HU.set mU (sl j / 2) ⟨by omega, by omega⟩; replace HV := HV.other m3 mU (.int .u8 (sl j / 2)); replace HW := HW.setCell (p := ⟨f.bU, mU, none⟩) (by show _ ≤ f.bU; omega) (.int .u8 (sl j / 2))
              clear c8 f8
              rw [hnU.out] at HU
              generalize wr.setCell ⟨f.bU, mU, none⟩ (.int .u8 (sl j / 2)) = wr at *
              generalize (fun k => if k = mU then sl j / 2 else sU k) = sU at *
              obtain ⟨nV, hnV⟩ : ∃ nV, nV = 8 * f.c * (8 * f.r) := ⟨_, rfl⟩
              have c7 : wr.cell? ⟨q, 10, none⟩ = some (.slice (some ⟨f.bV, 0, none⟩) nV f.cV) := by rw [hnV]; exact HO.fVS
              have zV : ((nV : Int) == 0) = false := by simp; omega
              have iV : (j : Int).tmod (nV : Int) = ((j % nV : Nat) : Int) := rfl
              have lV : j % nV < nV := Nat.mod_lt _ (by omega)
              rw [← hnV] at HV
              replace hnV := Lib.hid hnV
              have c8 := HV.cell lV
              have f8 := HV.free (j % nV)
              generalize hmV : j % nV = mV at *
              replace hmV := Lib.hid hmV
              apply wp_region_tail_drew 11
              case hm => kernel_rfl
              case hB => kernel_rfl
              case hno => kernel_rfl
              case hF =>
                simp only [List.take_succ_cons, List.take_zero]
                repeat (go_big_quiet_step (fail))
                exact wpQuiet_nil rfl
              case hT =>
                intro nq
                simp only [List.drop_succ_cons, List.drop_zero]
                replace HO := HO.drewN nq; replace HZ := HZ.drewN nq; replace HY := HY.drewN nq; replace HU := HU.drewN nq; replace HV := HV.drewN nq; replace HW : Below w.heap.size w (wr.drewN nq) := below_drewN HW nq; replace f8 : (wr.drewN nq).frozen? ⟨f.bV, mV, none⟩ = false := f8; replace c8 : (wr.drewN nq).cell? ⟨f.bV, mV, none⟩ = some (.int .u8 (sV mV)) := c8
                clear c7
                generalize wr.drewN nq = wr at *
                go_wp2_with fail
                rw [hnV.out] at HV
                exact ⟨⟨j + 1, _, _, _, by omega, by go_num, HO.other (by omega) _ _, HZ.other (fun e => g3 e.symm) _ _, HY.other m2.symm _ _, HU.other m3.symm _ _, HV.set mV _ ⟨by omega, by omega⟩, HW.setCell (by show _ ≤ f.bV; omega) _⟩, by simp [intOf]; omega⟩
          · have d2 : decide ((j : Int) < 600) = false := by simp; omega
            go_wp2_with fail
            exact ⟨⟨j + 1, sY, sU, sV, by omega, by go_num, HO, HZ, HY, HU, HV, HW⟩, by simp [intOf]; omega⟩
        · have d1 : decide ((j : Int) < 16 * (f.c : Int) * (16 * (f.r : Int))) = false := by
            have : ¬ ((j : Nat) : Int) < ((16 * f.c * (16 * f.r) : Nat) : Int) := by omega
            simpa using this
          go_wp2_with fail
          exact ⟨⟨j + 1, sY, sU, sV, by omega, by go_num, HO, HZ, HY, HU, HV, HW⟩, by simp [intOf]; omega⟩
      · obtain rfl : j = n := by omega
        have HM2 : (f.put sY sU sV).Mem wr := ⟨by show f.c ≤ 8; omega, by show f.r ≤ 8; omega, HY, HU, HV, m1, m2, m3⟩
        go_wp2_with (first | (refine wpList_load_ob HO rfl _ _ rfl rfl Try.underlying43 (by kernel_rfl) ?_) | (refine wpList_store_ob HZ rfl _ _ _ rfl rfl f.cells rfl (by kernel_rfl) rfl rfl ?_))
        exact bodyPost_ret (results_ob rfl _ (HZ.setRow_same _) rfl Try.underlying43 (by kernel_rfl)) rfl ⟨f.put sY sU sV, rfl, fc'.out, fr'.out, HM2.setRow g1 g2 g3 _, ⟨by show _ ≤ f.bY; omega, by show _ ≤ f.bU; omega, by show _ ≤ f.bV; omega⟩, below_setRow HW (by omega) _⟩
end Go.Proofs.Ytbldgpemocnboaa

namespace Go.Proofs.Ytbldgpemocnboaa
open Go.RowKit Go.Sort
attribute [local go_sem ↓] run_imax run_imin

theorem sl_later {w w' : World} {p : Option Addr} {n : Nat} {f : Nat → Value} (h : SL w p n f) (hb : Below w.heap.size w w') : SL w' p n f := by
  rcases h with h | ⟨b, o, h1, h2, h3⟩
  · exact Or.inl h
  · exact Or.inr ⟨b, o, h1, Nat.lt_of_lt_of_le h2 hb.size, fun k hk => by rw [hb.cell (p := ⟨b, o + k, none⟩) h2]; exact h3 k hk⟩
def SmallP (w : World) (e : Ending) (w' : World) : Prop := ∃ f : Fr, e = .returned f.val ∧ 1 ≤ f.c ∧ f.c ≤ 3 ∧ 1 ≤ f.r ∧ f.r ≤ 3 ∧ f.Mem w' ∧ f.From w.heap.size ∧ Below w.heap.size w w'
theorem small_any (co ro ki a b c sd : Int) (p : Option Addr) (n m : Nat) (sl : Nat → Int) (w : World) (hco : 0 ≤ co ∧ co ≤ 255) (hro : 0 ≤ ro ∧ ro ≤ 255) (hki : 0 ≤ ki ∧ ki ≤ 255) (ha : 0 ≤ a ∧ a ≤ 255) (hb : 0 ≤ b ∧ b ≤ 255) (hc : 0 ≤ c ∧ c ≤ 255) (hs : 0 ≤ sd ∧ sd < 4294967296)
    (hn : n ≤ 2000) (hS : SL w p n (u8v sl)) (hsb : ∀ k, k < n → 0 ≤ sl k ∧ sl k ≤ 255) :
    Calls Try.prog 32 #[smV co ro ki a b c sd p n m] w (SmallP w) := by
  have e1 : (1 : Int) + co % 3 = ((1 + co.toNat % 3 : Nat) : Int) := by omega
  have e2 : (1 : Int) + ro % 3 = ((1 + ro.toNat % 3 : Nat) : Int) := by omega
  generalize hcc : 1 + co.toNat % 3 = cc at *
  generalize hrr : 1 + ro.toNat % 3 = rr at *
  replace e1 := Lib.hid e1; replace e2 := Lib.hid e2
  unfold smV smC
  go_enter Try.func32, Try.ntmps32
  have HB : Ob (w.alloc (.cells (smC co ro ki a b c sd p n m) SMT)) w.heap.size SMT (smC co ro ki a b c sd p n m) := Ob.new_at _ _ rfl
  go_wp2_with fail
  rw [e1.out, e2.out]
  refine (sized_any co ro ki a b c sd p n m sl cc rr _ hki ha hb hc hs hn (sl_later hS (by ((repeat (first | exact Below.refl _ _ | assumption | refine Below.setCell ?_ (by first | omega | (simp; done) | (simp; omega)) _ | refine Below.alloc ?_ (by first | omega | (simp; done) | (simp; omega)) _ | refine below_drewN ?_ _ | refine Below.drew ?_ | refine below_setRow ?_ (by first | omega | (simp; done) | (simp; omega)) _))))) hsb (by omega) (by omega)).mono ?_
  rintro e w1 ⟨f, rfl, fc, fr, hM, hF, hb1⟩
  have HZ : Ob w1 (w.heap.size + 1) FRT frZ := (Ob.new_at _ _ (by simp)).later hb1
  have HW : Below w.heap.size w w1 := below_step (by ((repeat (first | exact Below.refl _ _ | assumption | refine Below.setCell ?_ (by first | omega | (simp; done) | (simp; omega)) _ | refine Below.alloc ?_ (by first | omega | (simp; done) | (simp; omega)) _ | refine below_drewN ?_ _ | refine Below.drew ?_ | refine below_setRow ?_ (by first | omega | (simp; done) | (simp; omega)) _)))) hb1
  replace hF := hF.mono (B' := w.heap.size + 2) (by simp)
  clear hb1
  have hf1 := hF.y; have hf2 := hF.u; have hf3 := hF.v
  unfold Fr.val
  go_wp2_with (refine wpList_store_ob HZ rfl _ _ _ rfl rfl f.cells rfl (by kernel_rfl) rfl rfl ?_)
  exact bodyPost_ret (results_ob rfl _ (HZ.setRow_same _) rfl Try.underlying43 (by kernel_rfl)) rfl ⟨f, rfl, by omega, by omega, by omega, by omega, hM.setRow (by omega) (by omega) (by omega) _, hF.mono (by omega), below_setRow HW (by omega) _⟩
/-- The bounds of a Small's numbers and samples. -/
structure SmallW (co ro ki a b c sd : Int) (n : Nat) (sl : Nat → Int) : Prop where
  co : 0 ≤ co ∧ co ≤ 255
  ro : 0 ≤ ro ∧ ro ≤ 255
  ki : 0 ≤ ki ∧ ki ≤ 255
  a : 0 ≤ a ∧ a ≤ 255
  b : 0 ≤ b ∧ b ≤ 255
  c : 0 ≤ c ∧ c ≤ 255
  sd : 0 ≤ sd ∧ sd < 4294967296
  sl : ∀ k, k < n → 0 ≤ sl k ∧ sl k ≤ 255
theorem smallW_any {co ro ki a b c sd : Int} {p : Option Addr} {n m : Nat} {sl : Nat → Int} {w : World} (h : SmallW co ro ki a b c sd n sl) (hn : n ≤ 2000) (hS : SL w p n (u8v sl)) :
    Calls Try.prog 32 #[smV co ro ki a b c sd p n m] w (SmallP w) :=
  small_any co ro ki a b c sd p n m sl w h.co h.ro h.ki h.a h.b h.c h.sd hn hS h.sl
end Go.Proofs.Ytbldgpemocnboaa

namespace Go.Proofs.Ytbldgpemocnboaa
open Go.RowKit Go.Sort
section
variable {w w' : World} {cs ds : Array Value} (h : (w.alloc (.cells cs FRT)).setRow w.heap.size ds = w')
include h
theorem cell_size : w'.heap.size = w.heap.size + 1 := by rw [← h]; simp
theorem cell_ob : Ob w' w.heap.size FRT ds := by rw [← h]; exact (Ob.new_at (w := w) FRT cs rfl).setRow_same _
theorem cell_keep {b : Nat} {T : TypeId} {es : Array Value} (H : Ob w b T es) : Ob w' b T es := by rw [← h]; have := H.lt; exact (H.alloc _).setRow (by omega) _
theorem cell_pb {b n : Nat} {s : Nat → Int} (H : PB w b n s) : PB w' b n s := by rw [← h]; have := H.lt; exact (H.alloc _).setRow (by omega) _
theorem cell_mem {f : Fr} (H : f.Mem w) : f.Mem w' := ⟨H.hc, H.hr, cell_pb h H.y, cell_pb h H.u, cell_pb h H.v, H.yu, H.yv, H.uv⟩
theorem cell_below {B : Nat} {a : World} (H : Below B a w) (hB : B ≤ w.heap.size) : Below B a w' := by rw [← h]; exact below_setRow (H.alloc hB _) hB _
end
end Go.Proofs.Ytbldgpemocnboaa

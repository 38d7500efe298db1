/- The walk of the law PlaneDraws: true at every input. -/
import Derived.Test.YtbldgpemocnboaaMix
import Derived.Test.YtbldgpemocnboaaInterpMovesW
import Derived.Test.YtbldgpemocnboaaOSl
import Derived.Deep.DeepCutAuto
namespace Go.Proofs.Ytbldgpemocnboaa
open Go.RowKit Go.Sort
attribute [local go_sem ↓] run_imax run_imin run_imax3

theorem plAt_nat {W H : Nat} {s : Nat → Int} {i j : Nat} (hi : i < W) (hj : j < H) : plAt W H s (i : Int) (j : Int) = s (j * W + i) := by
  unfold plAt
  rw [if_neg (by omega), cl_in (by omega) (by omega), cl_in (by omega) (by omega)]
  simp only [Int.toNat_natCast]

theorem planesC_any (f : Fr) (w : World) : Calls Try.prog 37 #[.agg #[.int .i64 (f.c : Int), .int .i64 (f.r : Int), .int .i64 (16 * (f.c : Int)), .int .i64 (16 * (f.r : Int)), .slice (some ⟨f.bY, 0, none⟩) (16 * f.c * (16 * f.r)) f.cY, .int .i64 (8 * (f.c : Int)), .int .i64 (8 * (f.r : Int)), .slice (some ⟨f.bU, 0, none⟩) (8 * f.c * (8 * f.r)) f.cU, .int .i64 (8 * (f.c : Int)), .int .i64 (8 * (f.r : Int)), .slice (some ⟨f.bV, 0, none⟩) (8 * f.c * (8 * f.r)) f.cV]] w fun e w' => e = .returned (.agg f.planes) ∧ Below w.heap.size w w' := planes_any f w
/-- A sample of a frame's plane, by At. -/
theorem frAt_any (f : Fr) (kb : Nat) (x y : Int) (w : World) (hM : f.Mem w) : Calls Try.prog 35 #[.agg #[.int .i64 (f.pw kb : Int), .int .i64 (f.ph kb : Int), .slice (some ⟨f.pb kb, 0, none⟩) (f.pw kb * f.ph kb) (f.pc kb)], .int .i64 x, .int .i64 y] w fun e w' => e = .returned (.int .u8 (plAt (f.pw kb) (f.ph kb) (f.ps kb) x y)) ∧ Below w.heap.size w w' := by
  have h1 := hM.plb kb
  exact at_any (f.pw kb) (f.ph kb) (f.pb kb) (f.pc kb) (f.ps kb) x y w (by omega) (by omega) (hM.pl kb)
/-- A sample of a plane of the moved frame, by At; the sample that it was. -/
theorem movAt {mv f : Fr} {dx dy A B : Int} {k i j : Nat} {w' : World} (h : MovedF mv f dx dy) (hk : k < 3) (hm : mv.Mem w') (_hM : f.Mem w') (hA : (if k = 0 then dx else dx / 2) = A) (hB : (if k = 0 then dy else dy / 2) = B) (hi : i < mv.pw (kbp k)) (hj : j < mv.ph (kbp k)) :
    Calls Try.prog 35 #[.agg #[.int .i64 (mv.pw (kbp k) : Int), .int .i64 (mv.ph (kbp k) : Int), .slice (some ⟨mv.pb (kbp k), 0, none⟩) (mv.pw (kbp k) * mv.ph (kbp k)) (mv.pc (kbp k))], .int .i64 (i : Int), .int .i64 (j : Int)] w' fun e w'' => e = .returned (.int .u8 (plAt (f.pw (kbp k)) (f.ph (kbp k)) (f.ps (kbp k)) ((i : Int) - A) ((j : Int) - B))) ∧ Below w'.heap.size w' w'' := by
  have b1 := hm.plb (kbp k)
  have e0 : mv.pw (kbp k) = f.pw (kbp k) ∧ mv.ph (kbp k) = f.ph (kbp k) := by unfold Fr.pw Fr.ph; rw [h.c, h.r]; exact ⟨rfl, rfl⟩
  have e1 : mv.ps (kbp k) = mvS (f.pw (kbp k)) (f.ph (kbp k)) (f.ps (kbp k)) A B := by
    subst hA hB
    obtain rfl | rfl | rfl : k = 0 ∨ k = 1 ∨ k = 2 := by omega
    · simp [kbp, Fr.ps, Fr.pw, Fr.ph, h.y]
    · simp [kbp, Fr.ps, Fr.pw, Fr.ph, h.u]
    · simp [kbp, Fr.ps, Fr.pw, Fr.ph, h.v]
  have e2 : plAt (mv.pw (kbp k)) (mv.ph (kbp k)) (mv.ps (kbp k)) (i : Int) (j : Int) = plAt (f.pw (kbp k)) (f.ph (kbp k)) (f.ps (kbp k)) ((i : Int) - A) ((j : Int) - B) := by
    rw [e1, e0.1, e0.2, mv_at (by omega) (by rw [e0.1] at hi; omega) (by omega) (by rw [e0.2] at hj; omega)]
  rw [← e2]
  exact at_any (mv.pw (kbp k)) (mv.ph (kbp k)) (mv.pb (kbp k)) (mv.pc (kbp k)) (mv.ps (kbp k)) (i : Int) (j : Int) w' (by omega) (by omega) (hm.pl _)

/-- A frame of another size; one that is alike. -/
def AwayS (f : Fr) (v : Value) (W : World) : Prop := ∃ o : Fr, v = o.val ∧ (o.c : Int) ≠ (f.c : Int) ∧ o.Mem W
def LikeS (f : Fr) (v : Value) (W : World) : Prop := ∃ x : Fr, v = x.val ∧ x.Like f ∧ x.Mem W
def DrS (f : Fr) (k : Nat) (v : Value) (W : World) : Prop := (k = 6 → AwayS f v W) ∧ (k = 8 → LikeS f v W)
theorem sameB_likeR {f g : Fr} (h : g.Like f) : sameB g f = true := sameB_of h.c h.r (fun k _ => by rw [h.y]) (fun k _ => by rw [h.u]) (fun k _ => by rw [h.v])

set_option maxRecDepth 1000000 in
set_option maxHeartbeats 16000000 in
theorem planeDraws_walk (co ro ki a b c sd : Int) (p : Option Addr) (n m : Nat) (sl : Nat → Int) (co' ro' ki' a' b' c' sd' : Int) (p' : Option Addr) (n' m' : Nat) (sl' : Nat → Int) (x y wd ht li bl re dx dy part : Int) (w : World)
    (hw : SmallW co ro ki a b c sd n sl) (hn : n ≤ maxLen) (hS : SL w p n (u8v sl)) (hw' : SmallW co' ro' ki' a' b' c' sd' n' sl') (hn' : n' ≤ maxLen) (hS' : SL w p' n' (u8v sl'))
    (hx : -128 ≤ x ∧ x ≤ 127) (hy : -128 ≤ y ∧ y ≤ 127) (hwd : -128 ≤ wd ∧ wd ≤ 127) (hht : -128 ≤ ht ∧ ht ≤ 127) (hli : 0 ≤ li ∧ li ≤ 255) (hbl : 0 ≤ bl ∧ bl ≤ 255) (hre : 0 ≤ re ∧ re ≤ 255) (hdx : -128 ≤ dx ∧ dx ≤ 127) (hdy : -128 ≤ dy ∧ dy ≤ 127) :
    Calls Try.prog 4 #[smV co ro ki a b c sd p n m, smV co' ro' ki' a' b' c' sd' p' n' m', .int .i8 x, .int .i8 y, .int .i8 wd, .int .i8 ht, .int .u8 li, .int .u8 bl, .int .u8 re, .int .i8 dx, .int .i8 dy, .int .i64 part] w fun e w' => e = .returned (.bool true) ∧ Below w.heap.size w w' := by
  replace hw := Lib.hid hw; replace hS := Lib.hid hS; replace hw' := Lib.hid hw'; replace hS' := Lib.hid hS'
  unfold smV
  go_enter Try.func4, Try.ntmps4
  go_wp2_with fail
  have HB : Ob ((w.alloc (.cells (smC co ro ki a b c sd p n m) SMT)).alloc (.cells (smC co' ro' ki' a' b' c' sd' p' n' m') SMT)) w.heap.size SMT (smC co ro ki a b c sd p n m) := (Ob.new_at _ _ rfl).alloc _
  have HT : Ob ((w.alloc (.cells (smC co ro ki a b c sd p n m) SMT)).alloc (.cells (smC co' ro' ki' a' b' c' sd' p' n' m') SMT)) (w.heap.size + 1) SMT (smC co' ro' ki' a' b' c' sd' p' n' m') := Ob.new_at _ _ (by simp)
  have HW : Below w.heap.size w ((w.alloc (.cells (smC co ro ki a b c sd p n m) SMT)).alloc (.cells (smC co' ro' ki' a' b' c' sd' p' n' m') SMT)) := by ((repeat (first | exact Below.refl _ _ | assumption | refine Below.setCell ?_ (by first | omega | (simp; done) | (simp; omega)) _ | refine Below.alloc ?_ (by first | omega | (simp; done) | (simp; omega)) _ | refine below_drewN ?_ _ | refine Below.drew ?_ | refine below_setRow ?_ (by first | omega | (simp; done) | (simp; omega)) _)))
  unfold smC at *
  generalize (w.alloc (.cells #[.int .u8 co, .int .u8 ro, .int .u8 ki, .int .u8 a, .int .u8 b, .int .u8 c, .int .u32 sd, .slice p n m] SMT)).alloc (.cells #[.int .u8 co', .int .u8 ro', .int .u8 ki', .int .u8 a', .int .u8 b', .int .u8 c', .int .u32 sd', .slice p' n' m'] SMT) = w0 at *
  refine (awake6 _).mono ?_
  rintro e w1 ⟨rfl, hb⟩
  replace HB := HB.later hb; replace HT := HT.later hb; replace HW := below_step HW hb
  clear hb
  go_wp2_with (refine wpList_load_ob_g HB rfl 38 _ rfl rfl Try.underlying38 (by kernel_rfl) ?_)
  refine (light_any co ro ki a b c sd p n m _ hn).mono ?_
  rintro e w2 ⟨rfl, hb⟩
  replace HB := HB.later hb; replace HT := HT.later hb; replace HW := below_step HW hb
  clear hb
  by_cases hn2 : n ≤ 2000
  case neg =>
    have hd : decide (n ≤ 2000) = false := by simpa using hn2
    go_wp2_with fail
    go_ret
    exact ⟨rfl, HW⟩
  have hd : decide (n ≤ 2000) = true := by simpa using hn2
  go_wp2_with (refine wpList_load_ob_g HT rfl 38 _ rfl rfl Try.underlying38 (by kernel_rfl) ?_)
  refine (light_any co' ro' ki' a' b' c' sd' p' n' m' _ hn').mono ?_
  rintro e w3 ⟨rfl, hb⟩
  replace HB := HB.later hb; replace HT := HT.later hb; replace HW := below_step HW hb
  clear hb
  by_cases hn3 : n' ≤ 2000
  case neg =>
    have hd2 : decide (n' ≤ 2000) = false := by simpa using hn3
    go_wp2_with fail
    go_ret
    exact ⟨rfl, HW⟩
  have hd2 : decide (n' ≤ 2000) = true := by simpa using hn3
  go_wp2_with (refine wpList_load_ob_g HB rfl 38 _ rfl rfl Try.underlying38 (by kernel_rfl) ?_)
  clear hd hd2
  refine (smallW_any hw.out hn2 (sl_later hS.out HW)).mono ?_
  rintro e w4 ⟨f, rfl, f1, f2, f3, f4, hM, -, hb⟩
  replace HT := HT.later hb; replace HW := below_step HW hb
  clear hb
  clear HB
  have hc8 := hM.hc; have hr8 := hM.hr
  unfold Fr.val
  go_wp2_with (refine wpList_store_stop (Ob.new_at (w := w4) FRT frZ rfl) rfl _ _ _ rfl rfl f.cells rfl (by kernel_rfl) rfl rfl ?_)
  intro w5 hw5
  have HF := cell_ob hw5.out
  replace HT := cell_keep hw5.out HT
  replace hM := cell_mem hw5.out hM
  replace HW := cell_below hw5.out HW HW.size
  clear hw5
  generalize w4.heap.size = q at *
  go_wp2_with (refine wpList_load_ob HF rfl 43 _ rfl rfl Try.underlying43 (by kernel_rfl) ?_)
  refine (clone_any f _ hM).mono ?_
  rintro e w6 ⟨g, rfl, hlk, hG, hgF, hb⟩
  have us := HW.size
  have uq := HF.lt; have uT := HT.lt; have u1 := hM.y.lt; have u2 := hM.u.lt; have u3 := hM.v.lt
  obtain ⟨v1, v2, v3⟩ := hgF
  replace HF := HF.later hb; replace HT := HT.later hb; replace hM := hM.later hb; replace HW := below_step HW hb
  clear hb
  have m1 := hG.y.lt; have m2 := hG.u.lt; have m3 := hG.v.lt
  unfold Fr.val
  go_wp2_with (refine wpList_store_stop (Ob.new_at (w := w6) FRT frZ rfl) rfl _ _ _ rfl rfl g.cells rfl (by kernel_rfl) rfl rfl ?_)
  intro w7 hw7
  have HG := cell_ob hw7.out
  replace HF := cell_keep hw7.out HF; replace HT := cell_keep hw7.out HT
  replace hM := cell_mem hw7.out hM; replace hG := cell_mem hw7.out hG
  replace HW := cell_below hw7.out HW HW.size
  clear hw7
  generalize w6.heap.size = z at *
  go_wp2_with (refine wpList_load_ob HG rfl 43 _ rfl rfl Try.underlying43 (by kernel_rfl) ?_)
  refine (fill_any g x y wd ht li bl re _ hG (by omega) (by omega) (by omega) (by omega) hli hbl hre).mono ?_
  rintro e w8 ⟨rfl, sY, sU, sV, hG2, hWr, hP1, hP2⟩
  have gc : g.c = f.c := hlk.c
  have gr : g.r = f.r := hlk.r
  have hsz := hWr.size
  replace HF := HF.wrf hWr (by omega) (by omega) (by omega); replace HT := HT.wrf hWr (by omega) (by omega) (by omega); replace HG := HG.wrf hWr (by omega) (by omega) (by omega)
  replace hM := hM.wrf hWr (by omega) (by omega) (by omega)
  replace HW := hWr.below HW HW.size (by omega) (by omega) (by omega)
  clear hG hWr hsz m1 m2 m3 u1 u2 u3 v1 v2 v3 uq uT us
  rw [hlk.y, gc, gr] at hP2
  rw [gc, gr] at hP1
  obtain ⟨gc', gr', BY, BU, BV, KY, KU, KV, gY, gU, gV⟩ := g
  simp only at gc gr
  clear hlk
  subst gc gr
  replace hG2 : Fr.Mem ⟨f.c, f.r, BY, BU, BV, KY, KU, KV, sY, sU, sV⟩ w8 := hG2
  replace HG : Ob w8 z FRT (Fr.cells ⟨f.c, f.r, BY, BU, BV, KY, KU, KV, sY, sU, sV⟩) := HG
  replace hP1 := Lib.hid hP1; replace hP2 := Lib.hid hP2
  have c1 := HF.fYH
  go_wp2_with fail
  clear c1
  go_loopw [76] (fun t wr => ∃ j : Nat, j ≤ 16 * f.r ∧ t = .int .i64 (j : Int) ∧ Ob wr q FRT f.cells ∧ Ob wr (w.heap.size + 1) SMT #[.int .u8 co', .int .u8 ro', .int .u8 ki', .int .u8 a', .int .u8 b', .int .u8 c', .int .u32 sd', .slice p' n' m'] ∧ Ob wr z FRT (Fr.cells ⟨f.c, f.r, BY, BU, BV, KY, KU, KV, sY, sU, sV⟩) ∧ f.Mem wr ∧ Fr.Mem ⟨f.c, f.r, BY, BU, BV, KY, KU, KV, sY, sU, sV⟩ wr ∧ Below w.heap.size w wr) (fun t _ => 16 * f.r - (intOf t).toNat)
  case atStart => exact ⟨0, by omega, rfl, HF, HT, HG, hM, hG2, HW⟩
  case round =>
    clear HF HT HG hM hG2 HW
    obtain ⟨j, hj, rfl, HF, HT, HG, hM, hG, HW⟩ := hrel
    by_cases hlt : j < 16 * f.r
    · have hd : decide ((j : Int) < 16 * (f.r : Int)) = true := by simp; omega
      have c0 := HF.fYW
      go_wp2_with fail
      clear hd c0
      go_loopw [82] (fun t wr => ∃ i : Nat, i ≤ 16 * f.c ∧ t = .int .i64 (i : Int) ∧ Ob wr q FRT f.cells ∧ Ob wr (w.heap.size + 1) SMT #[.int .u8 co', .int .u8 ro', .int .u8 ki', .int .u8 a', .int .u8 b', .int .u8 c', .int .u32 sd', .slice p' n' m'] ∧ Ob wr z FRT (Fr.cells ⟨f.c, f.r, BY, BU, BV, KY, KU, KV, sY, sU, sV⟩) ∧ f.Mem wr ∧ Fr.Mem ⟨f.c, f.r, BY, BU, BV, KY, KU, KV, sY, sU, sV⟩ wr ∧ Below w.heap.size w wr) (fun t _ => 16 * f.c - (intOf t).toNat)
      case atStart => exact ⟨0, by omega, rfl, HF, HT, HG, hM, hG, HW⟩
      case round =>
        clear HF HT HG hM hG HW
        obtain ⟨i, hi, rfl, HF, HT, HG, hM, hG, HW⟩ := hrel
        by_cases hlt2 : i < 16 * f.c
        · have hd : decide ((i : Int) < 16 * (f.c : Int)) = true := by simp; omega
          have hjb : j < 128 := by omega
          have hib : i < 128 := by omega
          have i0 : (0 : Int) ≤ i := by omega
          have j0 : (0 : Int) ≤ j := by omega
          by_cases hin : x ≤ (i : Int) ∧ (i : Int) < x + wd ∧ y ≤ (j : Int) ∧ (j : Int) < y + ht
          · obtain ⟨q1, q2, q3⟩ := hP1.out i j hlt2 hlt hin
            have e1 : plAt (16 * f.c) (16 * f.r) sY (i : Int) (j : Int) = li := by
              rw [← q1]; exact plAt_nat hlt2 hlt
            have e2 : plAt (8 * f.c) (8 * f.r) sU ((i : Int) / 2) ((j : Int) / 2) = bl := by
              rw [← q2, show (i : Int) / 2 = ((i / 2 : Nat) : Int) by simp, show (j : Int) / 2 = ((j / 2 : Nat) : Int) by simp]; exact plAt_nat (by omega) (by omega)
            have e3 : plAt (8 * f.c) (8 * f.r) sV ((i : Int) / 2) ((j : Int) / 2) = re := by
              rw [← q3, show (i : Int) / 2 = ((i / 2 : Nat) : Int) by simp, show (j : Int) / 2 = ((j / 2 : Nat) : Int) by simp]; exact plAt_nat (by omega) (by omega)
            have a1 : ∀ w', PB w' BY (16 * f.c * (16 * f.r)) sY → Calls Try.prog 35 #[.agg #[.int .i64 (16 * (f.c : Int)), .int .i64 (16 * (f.r : Int)), .slice (some ⟨BY, 0, none⟩) (16 * f.c * (16 * f.r)) KY], .int .i64 (i : Int), .int .i64 (j : Int)] w' fun e w'' => e = .returned (.int .u8 li) ∧ Below w'.heap.size w' w'' := fun w' h => by
              rw [← e1]; exact at16_any f.c f.r BY KY _ _ _ _ hc8 hr8 h
            have a2 : ∀ w', PB w' BU (8 * f.c * (8 * f.r)) sU → Calls Try.prog 35 #[.agg #[.int .i64 (8 * (f.c : Int)), .int .i64 (8 * (f.r : Int)), .slice (some ⟨BU, 0, none⟩) (8 * f.c * (8 * f.r)) KU], .int .i64 ((i : Int) / 2), .int .i64 ((j : Int) / 2)] w' fun e w'' => e = .returned (.int .u8 bl) ∧ Below w'.heap.size w' w'' := fun w' h => by
              rw [← e2]; exact at8_any f.c f.r BU KU _ _ _ _ hc8 hr8 h
            have a3 : ∀ w', PB w' BV (8 * f.c * (8 * f.r)) sV → Calls Try.prog 35 #[.agg #[.int .i64 (8 * (f.c : Int)), .int .i64 (8 * (f.r : Int)), .slice (some ⟨BV, 0, none⟩) (8 * f.c * (8 * f.r)) KV], .int .i64 ((i : Int) / 2), .int .i64 ((j : Int) / 2)] w' fun e w'' => e = .returned (.int .u8 re) ∧ Below w'.heap.size w' w'' := fun w' h => by
              rw [← e3]; exact at8_any f.c f.r BV KV _ _ _ _ hc8 hr8 h
            replace a1 := Lib.hid a1; replace a2 := Lib.hid a2; replace a3 := Lib.hid a3
            clear e1 e2 e3 q1 q2 q3
            obtain ⟨p1, p2, p3, p4⟩ := hin
            have d1 : decide (x ≤ (i : Int)) = true := by simpa using p1
            have d2 : decide ((i : Int) < x + wd) = true := by simpa using p2
            have d3 : decide (y ≤ (j : Int)) = true := by simpa using p3
            have d4 : decide ((j : Int) < y + ht) = true := by simpa using p4
            clear p1 p2 p3 p4
            go_wp2_with fail
            clear d1 d2 d3 d4 hd
            have c0 := fun p => (HF.re p).fYW
            have c1 := fun p => (HF.re p).fYH
            have c2 := fun p => (HF.re p).fYS
            have d0 : ∀ p : Regrown, (Sort.grow (redrawn wr p.d) p.os).cell? ⟨z, 2, none⟩ = some (.int .i64 (16 * (f.c : Int))) := fun p => (HG.re p).fYW
            have d1 : ∀ p : Regrown, (Sort.grow (redrawn wr p.d) p.os).cell? ⟨z, 3, none⟩ = some (.int .i64 (16 * (f.r : Int))) := fun p => (HG.re p).fYH
            have d2 : ∀ p : Regrown, (Sort.grow (redrawn wr p.d) p.os).cell? ⟨z, 4, none⟩ = some (.slice (some ⟨BY, 0, none⟩) (16 * f.c * (16 * f.r)) KY) := fun p => (HG.re p).fYS
            have d3 : ∀ p : Regrown, (Sort.grow (redrawn wr p.d) p.os).cell? ⟨z, 5, none⟩ = some (.int .i64 (8 * (f.c : Int))) := fun p => (HG.re p).fUW
            have d4 : ∀ p : Regrown, (Sort.grow (redrawn wr p.d) p.os).cell? ⟨z, 6, none⟩ = some (.int .i64 (8 * (f.r : Int))) := fun p => (HG.re p).fUH
            have d5 : ∀ p : Regrown, (Sort.grow (redrawn wr p.d) p.os).cell? ⟨z, 7, none⟩ = some (.slice (some ⟨BU, 0, none⟩) (8 * f.c * (8 * f.r)) KU) := fun p => (HG.re p).fUS
            have d6 : ∀ p : Regrown, (Sort.grow (redrawn wr p.d) p.os).cell? ⟨z, 8, none⟩ = some (.int .i64 (8 * (f.c : Int))) := fun p => (HG.re p).fVW
            have d7 : ∀ p : Regrown, (Sort.grow (redrawn wr p.d) p.os).cell? ⟨z, 9, none⟩ = some (.int .i64 (8 * (f.r : Int))) := fun p => (HG.re p).fVH
            have d8 : ∀ p : Regrown, (Sort.grow (redrawn wr p.d) p.os).cell? ⟨z, 10, none⟩ = some (.slice (some ⟨BV, 0, none⟩) (8 * f.c * (8 * f.r)) KV) := fun p => (HG.re p).fVS
            refine wp_region_quiet_below (by kernel_rfl) (by kernel_rfl) ?_
            repeat (go_big_quiet_step (first | (go_at_call 35; with_reducible exact Calls.regrown_of (a1.out _ (hG.y.later (below_regrown _ _ _)))) | (go_at_call 35; with_reducible exact Calls.regrown_of (a2.out _ (hG.u.later (below_regrown _ _ _)))) | (go_at_call 35; with_reducible exact Calls.regrown_of (a3.out _ (hG.v.later (below_regrown _ _ _))))))
            refine wpQuiet_nil ?_
            intro wq hwq
            replace hwq := Cls.below hwq
            replace HF := HF.later hwq; replace HT := HT.later hwq; replace HG := HG.later hwq; replace hM := hM.later hwq; replace hG := hG.later hwq; replace HW := below_step HW hwq
            clear hwq
            clear c0 c1 c2 d0 d1 d2 d3 d4 d5 d6 d7 d8
            go_wp2_with fail
            exact ⟨⟨i + 1, by omega, by go_num, HF, HT, HG, hM, hG, HW⟩, by simp [intOf]; omega⟩
          · have q1 := hP2.out i j hlt2 hlt hin
            have e1 : plAt (16 * f.c) (16 * f.r) sY (i : Int) (j : Int) = plAt (16 * f.c) (16 * f.r) f.sY (i : Int) (j : Int) := by
              rw [plAt_nat hlt2 hlt, plAt_nat hlt2 hlt, q1]
            have a1 : ∀ w', PB w' BY (16 * f.c * (16 * f.r)) sY → Calls Try.prog 35 #[.agg #[.int .i64 (16 * (f.c : Int)), .int .i64 (16 * (f.r : Int)), .slice (some ⟨BY, 0, none⟩) (16 * f.c * (16 * f.r)) KY], .int .i64 (i : Int), .int .i64 (j : Int)] w' fun e w'' => e = .returned (.int .u8 (plAt (16 * f.c) (16 * f.r) f.sY (i : Int) (j : Int))) ∧ Below w'.heap.size w' w'' := fun w' h => by
              rw [← e1]; exact at16_any f.c f.r BY KY _ _ _ _ hc8 hr8 h
            replace a1 := Lib.hid a1
            clear e1 q1
            have h4 : ¬ x ≤ (i : Int) ∨ x ≤ (i : Int) ∧ ¬ (i : Int) < x + wd ∨ x ≤ (i : Int) ∧ (i : Int) < x + wd ∧ ¬ y ≤ (j : Int) ∨ x ≤ (i : Int) ∧ (i : Int) < x + wd ∧ y ≤ (j : Int) ∧ ¬ (j : Int) < y + ht := by omega
            clear hin
            rcases h4 with p1 | ⟨p1, p2⟩ | ⟨p1, p2, p3⟩ | ⟨p1, p2, p3, p4⟩
            all_goals
              first | (have d1 : decide (x ≤ (i : Int)) = true := by simpa using p1) | (have d1 : decide (x ≤ (i : Int)) = false := by simpa using p1)
              first | (have d2 : decide ((i : Int) < x + wd) = true := by simpa using p2) | (have d2 : decide ((i : Int) < x + wd) = false := by simpa using p2) | skip
              first | (have d3 : decide (y ≤ (j : Int)) = true := by simpa using p3) | (have d3 : decide (y ≤ (j : Int)) = false := by simpa using p3) | skip
              first | (have d4 : decide ((j : Int) < y + ht) = false := by simpa using p4) | skip
              go_wp2_with fail
              clear d1 hd
              try clear d2
              try clear d3
              try clear d4
              have c0 := fun p => (HF.re p).fYW
              have c1 := fun p => (HF.re p).fYH
              have c2 := fun p => (HF.re p).fYS
              have d0 : ∀ p : Regrown, (Sort.grow (redrawn wr p.d) p.os).cell? ⟨z, 2, none⟩ = some (.int .i64 (16 * (f.c : Int))) := fun p => (HG.re p).fYW
              have d1 : ∀ p : Regrown, (Sort.grow (redrawn wr p.d) p.os).cell? ⟨z, 3, none⟩ = some (.int .i64 (16 * (f.r : Int))) := fun p => (HG.re p).fYH
              have d2 : ∀ p : Regrown, (Sort.grow (redrawn wr p.d) p.os).cell? ⟨z, 4, none⟩ = some (.slice (some ⟨BY, 0, none⟩) (16 * f.c * (16 * f.r)) KY) := fun p => (HG.re p).fYS
              have d3 : ∀ p : Regrown, (Sort.grow (redrawn wr p.d) p.os).cell? ⟨z, 5, none⟩ = some (.int .i64 (8 * (f.c : Int))) := fun p => (HG.re p).fUW
              have d4 : ∀ p : Regrown, (Sort.grow (redrawn wr p.d) p.os).cell? ⟨z, 6, none⟩ = some (.int .i64 (8 * (f.r : Int))) := fun p => (HG.re p).fUH
              have d5 : ∀ p : Regrown, (Sort.grow (redrawn wr p.d) p.os).cell? ⟨z, 7, none⟩ = some (.slice (some ⟨BU, 0, none⟩) (8 * f.c * (8 * f.r)) KU) := fun p => (HG.re p).fUS
              have d6 : ∀ p : Regrown, (Sort.grow (redrawn wr p.d) p.os).cell? ⟨z, 8, none⟩ = some (.int .i64 (8 * (f.c : Int))) := fun p => (HG.re p).fVW
              have d7 : ∀ p : Regrown, (Sort.grow (redrawn wr p.d) p.os).cell? ⟨z, 9, none⟩ = some (.int .i64 (8 * (f.r : Int))) := fun p => (HG.re p).fVH
              have d8 : ∀ p : Regrown, (Sort.grow (redrawn wr p.d) p.os).cell? ⟨z, 10, none⟩ = some (.slice (some ⟨BV, 0, none⟩) (8 * f.c * (8 * f.r)) KV) := fun p => (HG.re p).fVS
              refine wp_region_quiet_below (by kernel_rfl) (by kernel_rfl) ?_
              repeat (go_big_quiet_step (first | (go_at_call 35; with_reducible exact Calls.regrown_of (a1.out _ (hG.y.later (below_regrown _ _ _)))) | (go_at_call 35; with_reducible exact Calls.regrown_of (at16_any f.c f.r f.bY f.cY f.sY (i : Int) (j : Int) _ hc8 hr8 (hM.y.later (below_regrown _ _ _))))))
              refine wpQuiet_nil ?_
              intro wq hwq
              replace hwq := Cls.below hwq
              replace HF := HF.later hwq; replace HT := HT.later hwq; replace HG := HG.later hwq; replace hM := hM.later hwq; replace hG := hG.later hwq; replace HW := below_step HW hwq
              clear hwq
              clear c0 c1 c2 d0 d1 d2 d3 d4 d5 d6 d7 d8
              go_wp2_with fail
              exact ⟨⟨i + 1, by omega, by go_num, HF, HT, HG, hM, hG, HW⟩, by simp [intOf]; omega⟩
        · obtain rfl : i = 16 * f.c := by omega
          have hd : decide (((16 * f.c : Nat) : Int) < 16 * (f.c : Int)) = false := by simp
          go_wp2_with fail
          exact ⟨⟨j + 1, by omega, by go_num, HF, HT, HG, hM, hG, HW⟩, by simp [intOf]; omega⟩
    · obtain rfl : j = 16 * f.r := by omega
      have hd : decide (((16 * f.r : Nat) : Int) < 16 * (f.r : Int)) = false := by simp
      clear HG hG hP1 hP2
      go_wp2_with (refine wpList_load_ob HF rfl 43 _ rfl rfl Try.underlying43 (by kernel_rfl) ?_)
      refine (moved_any f dx dy _ hM (by omega) (by omega)).mono ?_
      rintro e w9 ⟨mv, rfl, hmv, hMv, -, hb⟩
      replace HF := HF.later hb; replace HT := HT.later hb; replace hM := hM.later hb; replace HW := below_step HW hb
      clear hb
      unfold Fr.val
      go_wp2_with (refine wpList_store_stop (Ob.new_at (w := w9) FRT frZ rfl) rfl _ _ _ rfl rfl mv.cells rfl (by kernel_rfl) rfl rfl ?_)
      intro w10 hw10
      have HV := cell_ob hw10.out
      replace HF := cell_keep hw10.out HF; replace HT := cell_keep hw10.out HT
      replace hM := cell_mem hw10.out hM; replace hMv := cell_mem hw10.out hMv
      replace HW := cell_below hw10.out HW HW.size
      clear hw10
      go_wp2_with (refine wpList_load_ob HV rfl 43 _ rfl rfl Try.underlying43 (by kernel_rfl) ?_)
      clear HV
      refine (planes_any mv _).mono ?_
      rintro e w11 ⟨rfl, hb⟩
      replace HF := HF.later hb; replace HT := HT.later hb; replace hM := hM.later hb; replace hMv := hMv.later hb; replace HW := below_step HW hb
      clear hb
      replace hmv := Lib.hid hmv
      go_wp2_with fail
      go_loopw [172] (fun t wr => ∃ j : Nat, j ≤ 3 ∧ t = .int .i64 (j : Int) ∧ Ob wr q FRT f.cells ∧ Ob wr (w.heap.size + 1) SMT #[.int .u8 co', .int .u8 ro', .int .u8 ki', .int .u8 a', .int .u8 b', .int .u8 c', .int .u32 sd', .slice p' n' m'] ∧ f.Mem wr ∧ mv.Mem wr ∧ Below w.heap.size w wr) (fun t _ => 3 - (intOf t).toNat)
      case atStart => exact ⟨0, by omega, rfl, HF, HT, hM, hMv, HW⟩
      case round =>
        clear HF HT hM hMv HW
        obtain ⟨k, hk, rfl, HF, HT, hM, hMv, HW⟩ := hrel
        by_cases hk3 : k < 3
        · have hd : decide ((k : Int) < 3) = true := by simp; omega
          have k0 : (0 : Int) ≤ k := by omega
          have k1 : (k : Int) < 3 := by omega
          have hidx := fun w => planes_p mv hk3 w
          unfold Fr.plC at hidx
          go_upto_if 181 with fail
          clear hidx hd
          have HP : Ob (wr.alloc (.cells #[.int .i64 (mv.pw (kbp k) : Int), .int .i64 (mv.ph (kbp k) : Int), .slice (some ⟨mv.pb (kbp k), 0, none⟩) (mv.pw (kbp k) * mv.ph (kbp k)) (mv.pc (kbp k))] PLT)) wr.heap.size PLT #[.int .i64 (mv.pw (kbp k) : Int), .int .i64 (mv.ph (kbp k) : Int), .slice (some ⟨mv.pb (kbp k), 0, none⟩) (mv.pw (kbp k) * mv.ph (kbp k)) (mv.pc (kbp k))] := Ob.new_at _ _ rfl
          replace HF := HF.alloc (.cells #[.int .i64 (mv.pw (kbp k) : Int), .int .i64 (mv.ph (kbp k) : Int), .slice (some ⟨mv.pb (kbp k), 0, none⟩) (mv.pw (kbp k) * mv.ph (kbp k)) (mv.pc (kbp k))] PLT); replace HT := HT.alloc (.cells #[.int .i64 (mv.pw (kbp k) : Int), .int .i64 (mv.ph (kbp k) : Int), .slice (some ⟨mv.pb (kbp k), 0, none⟩) (mv.pw (kbp k) * mv.ph (kbp k)) (mv.pc (kbp k))] PLT); replace hM := hM.alloc (.cells #[.int .i64 (mv.pw (kbp k) : Int), .int .i64 (mv.ph (kbp k) : Int), .slice (some ⟨mv.pb (kbp k), 0, none⟩) (mv.pw (kbp k) * mv.ph (kbp k)) (mv.pc (kbp k))] PLT); replace hMv := hMv.alloc (.cells #[.int .i64 (mv.pw (kbp k) : Int), .int .i64 (mv.ph (kbp k) : Int), .slice (some ⟨mv.pb (kbp k), 0, none⟩) (mv.pw (kbp k) * mv.ph (kbp k)) (mv.pc (kbp k))] PLT); replace HW := HW.alloc HW.size (.cells #[.int .i64 (mv.pw (kbp k) : Int), .int .i64 (mv.ph (kbp k) : Int), .slice (some ⟨mv.pb (kbp k), 0, none⟩) (mv.pw (kbp k) * mv.ph (kbp k)) (mv.pc (kbp k))] PLT)
          generalize wr.alloc (.cells #[.int .i64 (mv.pw (kbp k) : Int), .int .i64 (mv.ph (kbp k) : Int), .slice (some ⟨mv.pb (kbp k), 0, none⟩) (mv.pw (kbp k) * mv.ph (kbp k)) (mv.pc (kbp k))] PLT) = wa at *
          generalize wr.heap.size = pp at *
          obtain ⟨A, hA⟩ : ∃ A : Int, (if k = 0 then dx else dx / 2) = A := ⟨_, rfl⟩
          obtain ⟨B, hB⟩ : ∃ B : Int, (if k = 0 then dy else dy / 2) = B := ⟨_, rfl⟩
          have hAb : -128 ≤ A ∧ A ≤ 127 := by split at hA <;> omega
          have hBb : -128 ≤ B ∧ B ≤ 127 := by split at hB <;> omega
          obtain ⟨a1, a2⟩ := hAb; obtain ⟨b1, b2⟩ := hBb
          replace hA := Lib.hid hA; replace hB := Lib.hid hB
          go_cut [33, 34] (fun s t wx => s = .int .i64 A ∧ t = .int .i64 B ∧ wx = wa)
          case first =>
            have hA2 := hA.out; have hB2 := hB.out
            by_cases e : k = 0
            · have d : decide (0 < k) = false := by simp; omega
              rw [if_pos e] at hA2 hB2
              have e3 := Lib.hid hA2; have e4 := Lib.hid hB2
              clear hA2 hB2
              go_wp2_with fail
              go_meet
              exact ⟨by rw [e3.out], by rw [e4.out], rfl⟩
            · have d : decide (0 < k) = true := by simp; omega
              rw [if_neg e] at hA2 hB2
              have e3 := Lib.hid hA2; have e4 := Lib.hid hB2
              clear hA2 hB2
              go_wp2_with fail
              go_meet
              exact ⟨by rw [← e3.out], by rw [← e4.out], rfl⟩
          case rest =>
            obtain ⟨rfl, rfl, rfl⟩ := hcut
            have c1 : wc.cell? ⟨pp, 1, none⟩ = some (.int .i64 (mv.ph (kbp k) : Int)) := HP.plH
            go_wp2_with fail
            clear c1
            go_loopw [188] (fun t wr => ∃ j : Nat, j ≤ mv.ph (kbp k) ∧ t = .int .i64 (j : Int) ∧ Ob wr q FRT f.cells ∧ Ob wr (w.heap.size + 1) SMT #[.int .u8 co', .int .u8 ro', .int .u8 ki', .int .u8 a', .int .u8 b', .int .u8 c', .int .u32 sd', .slice p' n' m'] ∧ Ob wr pp PLT #[.int .i64 (mv.pw (kbp k) : Int), .int .i64 (mv.ph (kbp k) : Int), .slice (some ⟨mv.pb (kbp k), 0, none⟩) (mv.pw (kbp k) * mv.ph (kbp k)) (mv.pc (kbp k))] ∧ f.Mem wr ∧ mv.Mem wr ∧ Below w.heap.size w wr) (fun t _ => mv.ph (kbp k) - (intOf t).toNat)
            case atStart => exact ⟨0, by omega, rfl, HF, HT, HP, hM, hMv, HW⟩
            case round =>
              clear HF HT HP hM hMv HW
              obtain ⟨j, hj, rfl, HF, HT, HP, hM, hMv, HW⟩ := hrel
              have hpb := hMv.plb (kbp k)
              by_cases hj3 : j < mv.ph (kbp k)
              · have hd : decide (j < mv.ph (kbp k)) = true := by simpa using hj3
                have j0 : (0 : Int) ≤ j := by omega
                have j1 : (j : Int) ≤ 128 := by omega
                have c1 : wr.cell? ⟨pp, 0, none⟩ = some (.int .i64 (mv.pw (kbp k) : Int)) := HP.plW
                go_wp2_with fail
                clear c1 hd
                go_loopw [193] (fun t wr => ∃ i : Nat, i ≤ mv.pw (kbp k) ∧ t = .int .i64 (i : Int) ∧ Ob wr q FRT f.cells ∧ Ob wr (w.heap.size + 1) SMT #[.int .u8 co', .int .u8 ro', .int .u8 ki', .int .u8 a', .int .u8 b', .int .u8 c', .int .u32 sd', .slice p' n' m'] ∧ Ob wr pp PLT #[.int .i64 (mv.pw (kbp k) : Int), .int .i64 (mv.ph (kbp k) : Int), .slice (some ⟨mv.pb (kbp k), 0, none⟩) (mv.pw (kbp k) * mv.ph (kbp k)) (mv.pc (kbp k))] ∧ f.Mem wr ∧ mv.Mem wr ∧ Below w.heap.size w wr) (fun t _ => mv.pw (kbp k) - (intOf t).toNat)
                case atStart => exact ⟨0, by omega, rfl, HF, HT, HP, hM, hMv, HW⟩
                case round =>
                  clear HF HT HP hM hMv HW
                  obtain ⟨i, hi, rfl, HF, HT, HP, hM, hMv, HW⟩ := hrel
                  by_cases hi3 : i < mv.pw (kbp k)
                  · have hd : decide (i < mv.pw (kbp k)) = true := by simpa using hi3
                    have i0 : (0 : Int) ≤ i := by omega
                    have i1 : (i : Int) ≤ 128 := by omega
                    go_wp2_with fail
                    clear hd
                    have hat := fun w' (h1 : mv.Mem w') (h2 : f.Mem w') => movAt hmv.out hk3 h1 h2 hA.out hB.out hi3 hj3
                    replace hat := Lib.hid hat
                    have hidx := fun w => planes_p f hk3 w
                    unfold Fr.plC at hidx
                    have c0 := fun p => (HF.re p).fC
                    have c1 := fun p => (HF.re p).fR
                    have c2 := fun p => (HF.re p).fYW
                    have c3 := fun p => (HF.re p).fYH
                    have c4 := fun p => (HF.re p).fYS
                    have c5 := fun p => (HF.re p).fUW
                    have c6 := fun p => (HF.re p).fUH
                    have c7 := fun p => (HF.re p).fUS
                    have c8 := fun p => (HF.re p).fVW
                    have c9 := fun p => (HF.re p).fVH
                    have c10 := fun p => (HF.re p).fVS
                    have e0 := fun p => (HP.re p).plW
                    have e1 := fun p => (HP.re p).plH
                    have e2 := fun p => (HP.re p).plS
                    refine wp_region_quiet_below (by kernel_rfl) (by kernel_rfl) ?_
                    repeat (go_big_quiet_step (first | (go_at_call 37; with_reducible exact Calls.regrown_of (planesC_any f _)) | (go_at_call 35; with_reducible exact Calls.regrown_of (hat.out _ (hMv.later (below_regrown _ _ _)) (hM.later (below_regrown _ _ _)))) | (go_at_call 35; with_reducible exact Calls.regrown_of (frAt_any f (kbp k) _ _ _ (hM.later (below_regrown _ _ _))))))
                    refine wpQuiet_nil ?_
                    intro wq hwq
                    replace hwq := Cls.below hwq
                    replace HF := HF.later hwq; replace HT := HT.later hwq; replace HP := HP.later hwq; replace hM := hM.later hwq; replace hMv := hMv.later hwq; replace HW := below_step HW hwq
                    clear hwq
                    clear hidx e0 e1 e2
                    clear c0 c1 c2 c3 c4 c5 c6 c7 c8 c9 c10
                    go_wp2_with fail
                    exact ⟨⟨i + 1, by omega, by go_num, HF, HT, HP, hM, hMv, HW⟩, by simp [intOf]; omega⟩
                  · obtain rfl : i = mv.pw (kbp k) := by omega
                    have hd : decide (mv.pw (kbp k) < mv.pw (kbp k)) = false := by simp
                    go_wp2_with fail
                    exact ⟨⟨j + 1, by omega, by go_num, HF, HT, HP, hM, hMv, HW⟩, by simp [intOf]; omega⟩
              · obtain rfl : j = mv.ph (kbp k) := by omega
                have hd : decide (mv.ph (kbp k) < mv.ph (kbp k)) = false := by simp
                go_wp2_with fail
                exact ⟨⟨k + 1, by omega, by go_num, HF, HT, hM, hMv, HW⟩, by simp [intOf]; omega⟩
        · obtain rfl : k = 3 := by omega
          have g0 := HF.fC; have g1 := HF.fR
          obtain ⟨N, hN, hN2⟩ : ∃ N, imin (imax part 0) 16 = N ∧ 0 ≤ N ∧ N ≤ 16 := ⟨_, rfl, by rw [imin_eq, imax_eq]; omega⟩
          replace hN := Lib.hid hN
          clear hMv hmv
          go_wp2_with (refine wpList_load_ob HT rfl 38 _ rfl rfl Try.underlying38 (by kernel_rfl) ?_)
          clear g0 g1
          refine (sized_any co' ro' ki' a' b' c' sd' p' n' m' sl' f.c f.r _ hw'.out.ki hw'.out.a hw'.out.b hw'.out.c hw'.out.sd hn3 (sl_later hS'.out HW) hw'.out.sl (by omega) (by omega)).mono ?_
          rintro e w12 ⟨o, rfl, e1, e2, hO, -, hb⟩
          clear HT
          replace HF := HF.later hb; replace hM := hM.later hb; replace HW := below_step HW hb
          clear hb
          replace e1 := Lib.hid e1; replace e2 := Lib.hid e2
          unfold Fr.val
          go_wp2_with (refine wpList_store_stop (Ob.new_at (w := w12) FRT frZ rfl) rfl _ _ _ rfl rfl o.cells rfl (by kernel_rfl) rfl rfl ?_)
          intro w13 hw13
          have HO := cell_ob hw13.out
          replace HF := cell_keep hw13.out HF
          replace hM := cell_mem hw13.out hM; replace hO := cell_mem hw13.out hO
          replace HW := cell_below hw13.out HW HW.size
          clear hw13
          generalize w12.heap.size = yo at *
          have hN1 := hN.out
          go_wp2_with (first | (refine wpList_load_ob_g HF rfl _ _ rfl rfl Try.underlying43 (by kernel_rfl) ?_) | (refine wpList_load_ob_g HO rfl _ _ rfl rfl Try.underlying43 (by kernel_rfl) ?_))
          clear hN1
          have hmix := mixed_any f o part _ hM hO e1.out e2.out
          rw [hN.out] at hmix
          refine hmix.mono ?_
          clear hmix
          rintro e w14 ⟨mx, rfl, hmx, hX, -, hb⟩
          replace HF := HF.later hb; replace HO := HO.later hb; replace hM := hM.later hb; replace hO := hO.later hb; replace HW := below_step HW hb
          clear hb
          unfold Fr.val
          go_wp2_with (refine wpList_store_stop (Ob.new_at (w := w14) FRT frZ rfl) rfl _ _ _ rfl rfl mx.cells rfl (by kernel_rfl) rfl rfl ?_)
          intro w15 hw15
          have HX := cell_ob hw15.out
          replace HF := cell_keep hw15.out HF; replace HO := cell_keep hw15.out HO
          replace hM := cell_mem hw15.out hM; replace hO := cell_mem hw15.out hO; replace hX := cell_mem hw15.out hX
          replace HW := cell_below hw15.out HW HW.size
          clear hw15
          go_wp2_with (refine wpList_load_ob HX rfl 43 _ rfl rfl Try.underlying43 (by kernel_rfl) ?_)
          clear HX
          refine (planes_any mx _).mono ?_
          rintro e w16 ⟨rfl, hb⟩
          replace HF := HF.later hb; replace HO := HO.later hb; replace hM := hM.later hb; replace hO := hO.later hb; replace hX := hX.later hb; replace HW := below_step HW hb
          clear hb
          replace hmx := Lib.hid hmx
          go_wp2_with fail
          go_loopw [230] (fun t wr => ∃ j : Nat, j ≤ 3 ∧ t = .int .i64 (j : Int) ∧ Ob wr q FRT f.cells ∧ Ob wr yo FRT o.cells ∧ f.Mem wr ∧ o.Mem wr ∧ mx.Mem wr ∧ Below w.heap.size w wr) (fun t _ => 3 - (intOf t).toNat)
          case atStart => exact ⟨0, by omega, rfl, HF, HO, hM, hO, hX, HW⟩
          case round =>
            clear HF HO hM hO hX HW
            obtain ⟨k, hk, rfl, HF, HO, hM, hO, hX, HW⟩ := hrel
            by_cases hk3 : k < 3
            · have hd : decide ((k : Int) < 3) = true := by simp; omega
              have k0 : (0 : Int) ≤ k := by omega
              have k1 : (k : Int) < 3 := by omega
              have hxw : mx.pw (kbp k) = f.pw (kbp k) ∧ mx.ph (kbp k) = f.ph (kbp k) := by unfold Fr.pw Fr.ph; rw [hmx.out.1, hmx.out.2.1]; exact ⟨rfl, rfl⟩
              have how : o.pw (kbp k) = f.pw (kbp k) ∧ o.ph (kbp k) = f.ph (kbp k) := by unfold Fr.pw Fr.ph; rw [e1.out, e2.out]; exact ⟨rfl, rfl⟩
              have hidx := fun w => planes_p mx hk3 w
              unfold Fr.plC at hidx
              rw [hxw.1, hxw.2] at hidx
              go_upto_region 43 with fail
              clear hidx hd
              have HP : Ob (wr.alloc (.cells #[.int .i64 (f.pw (kbp k) : Int), .int .i64 (f.ph (kbp k) : Int), .slice (some ⟨mx.pb (kbp k), 0, none⟩) (f.pw (kbp k) * f.ph (kbp k)) (mx.pc (kbp k))] PLT)) wr.heap.size PLT #[.int .i64 (f.pw (kbp k) : Int), .int .i64 (f.ph (kbp k) : Int), .slice (some ⟨mx.pb (kbp k), 0, none⟩) (f.pw (kbp k) * f.ph (kbp k)) (mx.pc (kbp k))] := Ob.new_at _ _ rfl
              replace HF := HF.alloc (.cells #[.int .i64 (f.pw (kbp k) : Int), .int .i64 (f.ph (kbp k) : Int), .slice (some ⟨mx.pb (kbp k), 0, none⟩) (f.pw (kbp k) * f.ph (kbp k)) (mx.pc (kbp k))] PLT); replace HO := HO.alloc (.cells #[.int .i64 (f.pw (kbp k) : Int), .int .i64 (f.ph (kbp k) : Int), .slice (some ⟨mx.pb (kbp k), 0, none⟩) (f.pw (kbp k) * f.ph (kbp k)) (mx.pc (kbp k))] PLT); replace hM := hM.alloc (.cells #[.int .i64 (f.pw (kbp k) : Int), .int .i64 (f.ph (kbp k) : Int), .slice (some ⟨mx.pb (kbp k), 0, none⟩) (f.pw (kbp k) * f.ph (kbp k)) (mx.pc (kbp k))] PLT); replace hO := hO.alloc (.cells #[.int .i64 (f.pw (kbp k) : Int), .int .i64 (f.ph (kbp k) : Int), .slice (some ⟨mx.pb (kbp k), 0, none⟩) (f.pw (kbp k) * f.ph (kbp k)) (mx.pc (kbp k))] PLT); replace hX := hX.alloc (.cells #[.int .i64 (f.pw (kbp k) : Int), .int .i64 (f.ph (kbp k) : Int), .slice (some ⟨mx.pb (kbp k), 0, none⟩) (f.pw (kbp k) * f.ph (kbp k)) (mx.pc (kbp k))] PLT); replace HW := HW.alloc HW.size (.cells #[.int .i64 (f.pw (kbp k) : Int), .int .i64 (f.ph (kbp k) : Int), .slice (some ⟨mx.pb (kbp k), 0, none⟩) (f.pw (kbp k) * f.ph (kbp k)) (mx.pc (kbp k))] PLT)
              generalize wr.alloc (.cells #[.int .i64 (f.pw (kbp k) : Int), .int .i64 (f.ph (kbp k) : Int), .slice (some ⟨mx.pb (kbp k), 0, none⟩) (f.pw (kbp k) * f.ph (kbp k)) (mx.pc (kbp k))] PLT) = wa at *
              generalize wr.heap.size = pp at *
              have hif := fun w => planes_p f hk3 w
              have hio := fun w => planes_p o hk3 w
              unfold Fr.plC at hif hio
              rw [how.1, how.2] at hio
              have s0 := HW.size; have s2 := HF.lt; have s3 := HO.lt; have s4 := HP.lt
              have t1 := hM.y.lt; have t2 := hM.u.lt; have t3 := hM.v.lt
              have t4 := hO.y.lt; have t5 := hO.u.lt; have t6 := hO.v.lt
              have t7 := hX.y.lt; have t8 := hX.u.lt; have t9 := hX.v.lt
              obtain ⟨B0, hB0⟩ : ∃ B0, B0 = wa.heap.size := ⟨_, rfl⟩
              rw [← hB0] at s2 s3 s4 t1 t2 t3 t4 t5 t6 t7 t8 t9 s0
              have hb := Below.drew (Below.refl wa.heap.size wa)
              refine wp_region_slots2 (by kernel_rfl) (by kernel_rfl) [234, 235, 236, 237, 238, 239, 240, 241, 42, 43] (fun L v w' => Ob w' q FRT f.cells ∧ Ob w' yo FRT o.cells ∧ Ob w' pp PLT #[.int .i64 (f.pw (kbp k) : Int), .int .i64 (f.ph (kbp k) : Int), .slice (some ⟨mx.pb (kbp k), 0, none⟩) (f.pw (kbp k) * f.ph (kbp k)) (mx.pc (kbp k))] ∧ f.Mem w' ∧ o.Mem w' ∧ mx.Mem w' ∧ Below w.heap.size w w' ∧ B0 ≤ w'.heap.size ∧ (L 0 = true → v 234 = (.agg f.cells)) ∧ (L 1 = true → v 235 = (.agg f.planes)) ∧ (L 2 = true → v 236 = (.int .i64 (k : Int))) ∧ (L 3 = true → v 237 = (.agg #[.int .i64 (f.pw (kbp k) : Int), .int .i64 (f.ph (kbp k) : Int), .slice (some ⟨f.pb (kbp k), 0, none⟩) (f.pw (kbp k) * f.ph (kbp k)) (f.pc (kbp k))])) ∧ (L 4 = true → v 238 = (.agg o.cells)) ∧ (L 5 = true → v 239 = (.agg o.planes)) ∧ (L 6 = true → v 240 = (.int .i64 (k : Int))) ∧ (L 7 = true → v 241 = (.agg #[.int .i64 (f.pw (kbp k) : Int), .int .i64 (f.ph (kbp k) : Int), .slice (some ⟨o.pb (kbp k), 0, none⟩) (f.pw (kbp k) * f.ph (kbp k)) (o.pc (kbp k))])) ∧ OSl PLT w' (L 8) (L 10) (v 42) B0 #[.int .i64 (f.pw (kbp k) : Int), .int .i64 (f.ph (kbp k) : Int), .slice (some ⟨f.pb (kbp k), 0, none⟩) (f.pw (kbp k) * f.ph (kbp k)) (f.pc (kbp k))] ∧ OSl PLT w' (L 9) (L 11) (v 43) B0 #[.int .i64 (f.pw (kbp k) : Int), .int .i64 (f.ph (kbp k) : Int), .slice (some ⟨o.pb (kbp k), 0, none⟩) (f.pw (kbp k) * f.ph (kbp k)) (o.pc (kbp k))] ∧ (L 8 = true → L 9 = true → v 42 ≠ v 43))
                (fun v => ⟨HF.later hb, HO.later hb, HP.later hb, hM.later hb, hO.later hb, hX.later hb, below_step HW hb, by rw [hB0]; exact hb.size, fun h => (by cases h), fun h => (by cases h), fun h => (by cases h), fun h => (by cases h), fun h => (by cases h), fun h => (by cases h), fun h => (by cases h), fun h => (by cases h), OSl.none _ _ _ _ _, OSl.none _ _ _ _ _, fun h => (by cases h)⟩) ?_ ?_
              · clear HF HO HP hM hO hX HW hb hB0
                intro i o' hi L v w' hn hR hd
                obtain ⟨HF, HO, HP, hM, hO, hX, HW, HS, r0, r1, r2, r3, r4, r5, r6, r7, s8, s9, n1⟩ := hR
                match i, hi with
                | 0, hi =>
                  obtain rfl := Option.some.inj hi
                  simp only [fill, Act.put, List.setIfInBounds_toArray, List.set_cons_zero, List.set_cons_succ]
                  go_wp2_with (refine wpList_load_ob HF rfl 43 _ rfl rfl Try.underlying43 (by kernel_rfl) ?_)
                  exact ⟨(upd v 234 (.agg f.cells)), by kernel_rfl, HF, HO, HP, hM, hO, hX, HW, HS, fun _ => rfl, r1, r2, r3, r4, r5, r6, r7, s8, s9, n1⟩
                | 1, hi =>
                  obtain rfl := Option.some.inj hi
                  have d0 := r0 (hd ⟨0, .data⟩ (by simp) rfl)
                  simp only [fill, Act.put, List.setIfInBounds_toArray, List.set_cons_zero, List.set_cons_succ, d0]
                  go_wp2_with (fail)
                  refine (planesC_any f _).mono ?_
                  rintro e w'' ⟨rfl, hb⟩
                  go_wp2_with fail
                  exact ⟨(upd (upd v 234 (.agg f.cells)) 235 (.agg f.planes)), by kernel_rfl, HF.later hb, HO.later hb, HP.later hb, hM.later hb, hO.later hb, hX.later hb, below_step HW hb, Nat.le_trans HS hb.size, fun _ => rfl, fun _ => rfl, r2, r3, r4, r5, r6, r7, s8.later hb, s9.later hb, n1⟩
                | 2, hi =>
                  obtain rfl := Option.some.inj hi
                  simp only [fill, Act.put, List.setIfInBounds_toArray, List.set_cons_zero, List.set_cons_succ]
                  go_wp2_with (fail)
                  exact ⟨(upd v 236 (.int .i64 (k : Int))), by kernel_rfl, HF, HO, HP, hM, hO, hX, HW, HS, r0, r1, fun _ => rfl, r3, r4, r5, r6, r7, s8, s9, n1⟩
                | 3, hi =>
                  obtain rfl := Option.some.inj hi
                  have d1 := r1 (hd ⟨1, .data⟩ (by simp) rfl)
                  have d2 := r2 (hd ⟨2, .data⟩ (by simp) rfl)
                  simp only [fill, Act.put, List.setIfInBounds_toArray, List.set_cons_zero, List.set_cons_succ, d1, d2]
                  go_wp2_with (fail)
                  exact ⟨(upd (upd (upd v 235 (.agg f.planes)) 236 (.int .i64 (k : Int))) 237 (.agg #[.int .i64 (f.pw (kbp k) : Int), .int .i64 (f.ph (kbp k) : Int), .slice (some ⟨f.pb (kbp k), 0, none⟩) (f.pw (kbp k) * f.ph (kbp k)) (f.pc (kbp k))])), by kernel_rfl, HF, HO, HP, hM, hO, hX, HW, HS, r0, fun _ => rfl, fun _ => rfl, fun _ => rfl, r4, r5, r6, r7, s8, s9, n1⟩
                | 4, hi =>
                  obtain rfl := Option.some.inj hi
                  simp only [fill, Act.put, List.setIfInBounds_toArray, List.set_cons_zero, List.set_cons_succ]
                  go_wp2_with (refine wpList_load_ob HO rfl 43 _ rfl rfl Try.underlying43 (by kernel_rfl) ?_)
                  exact ⟨(upd v 238 (.agg o.cells)), by kernel_rfl, HF, HO, HP, hM, hO, hX, HW, HS, r0, r1, r2, r3, fun _ => rfl, r5, r6, r7, s8, s9, n1⟩
                | 5, hi =>
                  obtain rfl := Option.some.inj hi
                  have d4 := r4 (hd ⟨4, .data⟩ (by simp) rfl)
                  simp only [fill, Act.put, List.setIfInBounds_toArray, List.set_cons_zero, List.set_cons_succ, d4]
                  go_wp2_with (fail)
                  refine (planesC_any o _).mono ?_
                  rintro e w'' ⟨rfl, hb⟩
                  go_wp2_with fail
                  exact ⟨(upd (upd v 238 (.agg o.cells)) 239 (.agg o.planes)), by kernel_rfl, HF.later hb, HO.later hb, HP.later hb, hM.later hb, hO.later hb, hX.later hb, below_step HW hb, Nat.le_trans HS hb.size, r0, r1, r2, r3, fun _ => rfl, fun _ => rfl, r6, r7, s8.later hb, s9.later hb, n1⟩
                | 6, hi =>
                  obtain rfl := Option.some.inj hi
                  simp only [fill, Act.put, List.setIfInBounds_toArray, List.set_cons_zero, List.set_cons_succ]
                  go_wp2_with (fail)
                  exact ⟨(upd v 240 (.int .i64 (k : Int))), by kernel_rfl, HF, HO, HP, hM, hO, hX, HW, HS, r0, r1, r2, r3, r4, r5, fun _ => rfl, r7, s8, s9, n1⟩
                | 7, hi =>
                  obtain rfl := Option.some.inj hi
                  have d5 := r5 (hd ⟨5, .data⟩ (by simp) rfl)
                  have d6 := r6 (hd ⟨6, .data⟩ (by simp) rfl)
                  simp only [fill, Act.put, List.setIfInBounds_toArray, List.set_cons_zero, List.set_cons_succ, d5, d6]
                  go_wp2_with (fail)
                  exact ⟨(upd (upd (upd v 239 (.agg o.planes)) 240 (.int .i64 (k : Int))) 241 (.agg #[.int .i64 (f.pw (kbp k) : Int), .int .i64 (f.ph (kbp k) : Int), .slice (some ⟨o.pb (kbp k), 0, none⟩) (f.pw (kbp k) * f.ph (kbp k)) (o.pc (kbp k))])), by kernel_rfl, HF, HO, HP, hM, hO, hX, HW, HS, r0, r1, r2, r3, r4, fun _ => rfl, fun _ => rfl, fun _ => rfl, s8, s9, n1⟩
                | 8, hi =>
                  obtain rfl := Option.some.inj hi
                  simp only [fill, Act.put, List.setIfInBounds_toArray, List.set_cons_zero, List.set_cons_succ]
                  go_wp2_with (fail)
                  have hn : L 8 = false := hn
                  rw [hn] at s8
                  exact ⟨(upd v 42 (.pointer (some ⟨w'.heap.size, 0, none⟩))), by kernel_rfl, HF.alloc _, HO.alloc _, HP.alloc _, hM.alloc _, hO.alloc _, hX.alloc _, HW.alloc HW.size _, Nat.le_trans HS (by simp), r0, r1, r2, r3, r4, r5, r6, r7, s8.new HS _ rfl, s9.alloc _, fun _ h => (s9.fresh h).symm⟩
                | 9, hi =>
                  obtain rfl := Option.some.inj hi
                  simp only [fill, Act.put, List.setIfInBounds_toArray, List.set_cons_zero, List.set_cons_succ]
                  go_wp2_with (fail)
                  have hn : L 9 = false := hn
                  rw [hn] at s9
                  exact ⟨(upd v 43 (.pointer (some ⟨w'.heap.size, 0, none⟩))), by kernel_rfl, HF.alloc _, HO.alloc _, HP.alloc _, hM.alloc _, hO.alloc _, hX.alloc _, HW.alloc HW.size _, Nat.le_trans HS (by simp), r0, r1, r2, r3, r4, r5, r6, r7, s8.alloc _, s9.new HS _ rfl, fun h _ => s8.fresh h⟩
                | 10, hi =>
                  obtain rfl := Option.some.inj hi
                  have d3 := r3 (hd ⟨3, .data⟩ (by simp) rfl)
                  have m8 := hd ⟨8, .data⟩ (by simp) rfl
                  have m9 := hd ⟨9, .phase⟩ (by simp) rfl
                  obtain ⟨bq, gq, eq1, ltq, B, hsz, -⟩ := s8.2 m8
                  have N1 := n1 m8 m9
                  simp only [fill, Act.put, List.setIfInBounds_toArray, List.set_cons_zero, List.set_cons_succ, d3, eq1]
                  go_wp2_with (refine wpList_store_ob B rfl _ _ _ rfl rfl _ rfl (by kernel_rfl) hsz rfl ?_)
                  exact ⟨(upd (upd v 237 (.agg #[.int .i64 (f.pw (kbp k) : Int), .int .i64 (f.ph (kbp k) : Int), .slice (some ⟨f.pb (kbp k), 0, none⟩) (f.pw (kbp k) * f.ph (kbp k)) (f.pc (kbp k))])) 42 (.pointer (some ⟨bq, 0, none⟩))), by kernel_rfl, HF.setRow (by omega) _, HO.setRow (by omega) _, HP.setRow (by omega) _, hM.setRow (by omega) (by omega) (by omega) _, hO.setRow (by omega) (by omega) (by omega) _, hX.setRow (by omega) (by omega) (by omega) _, below_setRow HW (by omega) _, by simpa using HS, r0, r1, r2, fun _ => rfl, r4, r5, r6, r7, ⟨fun _ => m8, fun _ => ⟨bq, _, rfl, ltq, B.setRow_same _, rfl, fun _ => rfl⟩⟩, s9.setRow (fun _ q => N1 (by rw [eq1, q])) _, fun _ _ q => N1 (by rw [eq1]; exact q)⟩
                | 11, hi =>
                  obtain rfl := Option.some.inj hi
                  have d7 := r7 (hd ⟨7, .data⟩ (by simp) rfl)
                  have m8 := hd ⟨8, .phase⟩ (by simp) rfl
                  have m9 := hd ⟨9, .data⟩ (by simp) rfl
                  obtain ⟨bq, gq, eq1, ltq, B, hsz, -⟩ := s9.2 m9
                  have N1 := n1 m8 m9
                  simp only [fill, Act.put, List.setIfInBounds_toArray, List.set_cons_zero, List.set_cons_succ, d7, eq1]
                  go_wp2_with (refine wpList_store_ob B rfl _ _ _ rfl rfl _ rfl (by kernel_rfl) hsz rfl ?_)
                  exact ⟨(upd (upd v 241 (.agg #[.int .i64 (f.pw (kbp k) : Int), .int .i64 (f.ph (kbp k) : Int), .slice (some ⟨o.pb (kbp k), 0, none⟩) (f.pw (kbp k) * f.ph (kbp k)) (o.pc (kbp k))])) 43 (.pointer (some ⟨bq, 0, none⟩))), by kernel_rfl, HF.setRow (by omega) _, HO.setRow (by omega) _, HP.setRow (by omega) _, hM.setRow (by omega) (by omega) (by omega) _, hO.setRow (by omega) (by omega) (by omega) _, hX.setRow (by omega) (by omega) (by omega) _, below_setRow HW (by omega) _, by simpa using HS, r0, r1, r2, r3, r4, r5, r6, fun _ => rfl, s8.setRow (fun _ q => N1 (by rw [q, eq1])) _, ⟨fun _ => m9, fun _ => ⟨bq, _, rfl, ltq, B.setRow_same _, rfl, fun _ => rfl⟩⟩, fun _ _ q => N1 (by rw [eq1]; exact q)⟩
                | n + 12, hi => cases hi
              · clear HF HO HP hM hO hX HW hb hB0
                intro L v w8 hL hR
                obtain ⟨HF, HO, HP, hM, hO, hX, HW, HS, -, -, -, -, -, -, -, -, s8, s9, n1⟩ := hR
                obtain ⟨b1, g1, e1, l1, H1, -, q1⟩ := s8.2 (hL 8 (by decide))
                obtain ⟨b2, g2, e2, l2, H2, -, q2⟩ := s9.2 (hL 9 (by decide))
                obtain rfl := q1 (hL 10 (by decide))
                obtain rfl := q2 (hL 11 (by decide))
                simp only [fill, Act.put, List.setIfInBounds_toArray, List.set_cons_zero, List.set_cons_succ, e1, e2]
                clear s8 s9 n1 e1 e2 l1 l2 hif hio
                have c2 : w8.cell? ⟨pp, 2, none⟩ = some (.slice (some ⟨mx.pb (kbp k), 0, none⟩) (f.pw (kbp k) * f.ph (kbp k)) (mx.pc (kbp k))) := HP.cell 2 rfl
                go_wp2_with fail
                clear c2 s0 s2 s3 s4 t1 t2 t3 t4 t5 t6 t7 t8 t9 HS hL
                have hpl := hM.plb (kbp k)
                have hN3 : f.pw (kbp k) * f.ph (kbp k) ≤ 16384 := Nat.mul_le_mul hpl.1 hpl.2
                clear hpl
                go_loopw [245] (fun t wr => ∃ i : Nat, i ≤ f.pw (kbp k) * f.ph (kbp k) ∧ t = .int .i64 (i : Int) ∧ Ob wr q FRT f.cells ∧ Ob wr yo FRT o.cells ∧ Ob wr pp PLT #[.int .i64 (f.pw (kbp k) : Int), .int .i64 (f.ph (kbp k) : Int), .slice (some ⟨mx.pb (kbp k), 0, none⟩) (f.pw (kbp k) * f.ph (kbp k)) (mx.pc (kbp k))] ∧ Ob wr b1 PLT #[.int .i64 (f.pw (kbp k) : Int), .int .i64 (f.ph (kbp k) : Int), .slice (some ⟨f.pb (kbp k), 0, none⟩) (f.pw (kbp k) * f.ph (kbp k)) (f.pc (kbp k))] ∧ Ob wr b2 PLT #[.int .i64 (f.pw (kbp k) : Int), .int .i64 (f.ph (kbp k) : Int), .slice (some ⟨o.pb (kbp k), 0, none⟩) (f.pw (kbp k) * f.ph (kbp k)) (o.pc (kbp k))] ∧ f.Mem wr ∧ o.Mem wr ∧ mx.Mem wr ∧ Below w.heap.size w wr) (fun t _ => f.pw (kbp k) * f.ph (kbp k) - (intOf t).toNat)
                case atStart => exact ⟨0, by omega, rfl, HF, HO, HP, H1, H2, hM, hO, hX, HW⟩
                case round =>
                  clear HF HO HP H1 H2 hM hO hX HW
                  obtain ⟨i, hi, rfl, HF, HO, HP, H1, H2, hM, hO, hX, HW⟩ := hrel
                  by_cases hi3 : i < f.pw (kbp k) * f.ph (kbp k)
                  · have hd : decide ((i : Int) < (f.pw (kbp k) : Int) * (f.ph (kbp k) : Int)) = true := decide_eq_true (by rw [← Int.natCast_mul]; exact Int.ofNat_lt.2 hi3)
                    have i0 : (0 : Int) ≤ i := by omega
                    have i1 : (i : Int) ≤ 16384 := by omega
                    have cs := (hX.pl (kbp k)).cell (k := i) (by rw [hxw.1, hxw.2]; exact hi3)
                    rw [hmx.out.2.2 k hk3 i hi3] at cs
                    have cf := fun p : Regrown => ((hM.pl (kbp k)).later (below_regrown wr p.d p.os)).cell hi3
                    have ct := fun p : Regrown => ((hO.pl (kbp k)).later (below_regrown wr p.d p.os)).cell (k := i) (by rw [how.1, how.2]; exact hi3)
                    have cb := (hM.pl (kbp k)).bd hi3
                    have cb2 := (hO.pl (kbp k)).bd (k := i) (by rw [how.1, how.2]; exact hi3)
                    unfold mix1 at cs
                    generalize f.ps (kbp k) i = s0 at *
                    generalize o.ps (kbp k) i = t0 at *
                    obtain ⟨x1, x2, x3, x4, x5, x6⟩ := mix1_bd cb cb2 hN2
                    unfold mix1 at x5 x6
                    go_wp2_with fail
                    clear cs hd
                    have e1 := fun p => (H1.re p).plS
                    have e2 := fun p => (H2.re p).plS
                    refine wp_region_quiet_below (by kernel_rfl) (by kernel_rfl) ?_
                    repeat (go_big_quiet_step (fail))
                    refine wpQuiet_nil ?_
                    intro wq hwq
                    replace hwq := Cls.below hwq
                    replace HF := HF.later hwq; replace HO := HO.later hwq; replace HP := HP.later hwq; replace H1 := H1.later hwq; replace H2 := H2.later hwq; replace hM := hM.later hwq; replace hO := hO.later hwq; replace hX := hX.later hwq; replace HW := below_step HW hwq
                    clear hwq
                    clear e1 e2 cf ct
                    go_wp2_with fail
                    exact ⟨⟨i + 1, by omega, by go_num, HF, HO, HP, H1, H2, hM, hO, hX, HW⟩, by simp [intOf]; omega⟩
                  · obtain rfl : i = f.pw (kbp k) * f.ph (kbp k) := by omega
                    have hd : decide (((f.pw (kbp k) * f.ph (kbp k) : Nat) : Int) < (f.pw (kbp k) : Int) * (f.ph (kbp k) : Int)) = false := by simp
                    go_wp2_with fail
                    exact ⟨⟨k + 1, by omega, by go_num, HF, HO, hM, hO, hX, HW⟩, by simp [intOf]; omega⟩
            · obtain rfl : k = 3 := by omega
              clear hX hmx HO hO
              have q1 : (0 : Int) ≤ (f.c : Int) := by omega
              have q2 : (f.c : Int) ≤ 8 := by omega
              go_wp2_with fail
              apply wp_region_rel 11 [6, 8] (DrS f)
              case hm => kernel_rfl
              case hB => kernel_rfl
              case hΛ => kernel_rfl
              case hSm => exact fun _ _ _ _ h hb => ⟨fun e => let ⟨o, h1, h2, h3⟩ := h.1 e; ⟨o, h1, h2, h3.later hb⟩, fun e => let ⟨o, h1, h2, h3⟩ := h.2 e; ⟨o, h1, h2, h3.later hb⟩⟩
              case hF =>
                intro wx hwx vs
                have c0 := fun p => ((HF.later hwx).re p).fC
                have c1 := fun p => ((HF.later hwx).re p).fR
                have c2 := fun p => ((HF.later hwx).re p).fYW
                have c3 := fun p => ((HF.later hwx).re p).fYH
                have c4 := fun p => ((HF.later hwx).re p).fYS
                have c5 := fun p => ((HF.later hwx).re p).fUW
                have c6 := fun p => ((HF.later hwx).re p).fUH
                have c7 := fun p => ((HF.later hwx).re p).fUS
                have c8 := fun p => ((HF.later hwx).re p).fVW
                have c9 := fun p => ((HF.later hwx).re p).fVH
                have c10 := fun p => ((HF.later hwx).re p).fVS
                have hM2 := hM.later hwx
                simp only [List.take_succ_cons, List.take_zero]
                repeat (first | (refine WQ.want (by rfl) (by rfl) ?_; intro K hK; go_big_quiet_op; first | go_big_quiet_on | go_big_quiet_call (fail)) | (refine WQ.skip (by rfl) (by rfl) ?_; simp only [Act.put, List.setIfInBounds_toArray, List.set_cons_succ, List.set_cons_zero]))
                refine WQ.new (by rfl) (by rfl) ?_ ?_
                · intro W hW hf
                  go_simp
                  refine (newFrame_any _ _ 1 (f.c + 1) f.r W (by rw [imin_eq, imax_eq]; omega) (by rw [imin_eq, imax_eq]; omega) (by omega)).mono ?_
                  rintro e w' ⟨z1, z2, z3, rfl, h1, h2, hb3⟩
                  exact ⟨_, rfl, hb3, fun _ => ⟨_, rfl, by show ((f.c + 1 : Nat) : Int) ≠ _; omega, h2⟩, fun h => absurd h (by decide)⟩
                simp only [Act.put, List.setIfInBounds_toArray, List.set_cons_succ, List.set_cons_zero]
                repeat (first | (refine WQ.want (by rfl) (by rfl) ?_; intro K hK; go_big_quiet_op; first | go_big_quiet_on | go_big_quiet_call (fail)) | (refine WQ.skip (by rfl) (by rfl) ?_; simp only [Act.put, List.setIfInBounds_toArray, List.set_cons_succ, List.set_cons_zero]))
                refine WQ.new (by rfl) (by rfl) ?_ ?_
                · intro W hW hf
                  obtain ⟨g, hv, h1, h2⟩ := (show DrS f 6 (vs 6) W from hf 6 (by simp) (by kernel_rfl)).1 rfl
                  go_simp
                  refine (mixed_not f g part _ (hM2.later hW) h1).mono ?_
                  rintro e w' ⟨y, rfl, h3, h4, -, hb3⟩
                  exact ⟨_, rfl, hb3, fun h => absurd h (by decide), fun _ => ⟨_, rfl, h3, h4⟩⟩
                simp only [Act.put, List.setIfInBounds_toArray, List.set_cons_succ, List.set_cons_zero]
                repeat (first | (refine WQ.want (by rfl) (by rfl) ?_; intro K hK; go_big_quiet_op; first | go_big_quiet_on | go_big_quiet_call (fail)) | (refine WQ.skip (by rfl) (by rfl) ?_; simp only [Act.put, List.setIfInBounds_toArray, List.set_cons_succ, List.set_cons_zero]))
                refine WQ.fact (by rfl) (by rfl) (.bool true) ?_ ?_
                · intro W hW hf
                  obtain ⟨g, hv, h1, h2⟩ := (show DrS f 8 (vs 8) W from hf 8 (by simp) (by kernel_rfl)).2 rfl
                  unfold Oper.quietAt
                  go_simp
                  exact calls_fact hW (by rw [← sameB_likeR h1]; exact same_any g f W h2 (hM2.later hW))
                simp only [Act.put, List.setIfInBounds_toArray, List.set_cons_succ, List.set_cons_zero]
                repeat (first | (refine WQ.want (by rfl) (by rfl) ?_; intro K hK; go_big_quiet_op; first | go_big_quiet_on | go_big_quiet_call (fail)) | (refine WQ.skip (by rfl) (by rfl) ?_; simp only [Act.put, List.setIfInBounds_toArray, List.set_cons_succ, List.set_cons_zero]))
                exact WQ.nil rfl
              case hind => intro vs vs'; kernel_rfl
              case hT =>
                intro vs w' hb hS
                simp only [List.drop_succ_cons]
                go_wp2_with fail
                go_ret
                exact ⟨rfl, below_step HW hb⟩
end Go.Proofs.Ytbldgpemocnboaa

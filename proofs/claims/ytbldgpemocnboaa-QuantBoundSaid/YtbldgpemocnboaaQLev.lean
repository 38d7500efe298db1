/- quant.Table's Levels and Numbers, and the document's Numbers, walked. Conditions: weights are bytes; the numbers are small enough. -/
import Derived.Test.YtbldgpemocnboaaGrow
import Derived.Test.YtbldgpemocnboaaRel
import Derived.Deep.DeepCutAuto
import Derived.Deep.CutBlock
namespace Go.Proofs.Ytbldgpemocnboaa
open Go.RowKit
attribute [local go_sem ↓] run_imax run_imin

def flev (n q : Int) : Int := imin ((imax n 0 + qfirst (imin (imax q 1) 31) / 2) / qfirst (imin (imax q 1) 31)) 127
def levG (t : Bool) (ia ir : Nat → Int) (q : Int) (intra : Bool) (f : Nat → Int) (k : Nat) : Int := qlev (f k) (qstep t ia ir q k intra)
/-- A block's levels. -/
def levF (t : Bool) (ia ir : Nat → Int) (q : Int) (intra : Bool) (f : Nat → Int) (k : Nat) : Int := if k = 0 ∧ intra = true then flev (f 0) q else levG t ia ir q intra f k
def fbk (n q : Int) : Int := imin (imax n 0) 127 * qfirst (imin (imax q 1) 31)
def numG (t : Bool) (ia ir : Nat → Int) (q : Int) (intra : Bool) (f : Nat → Int) (k : Nat) : Int := qbk (f k) (qstep t ia ir q k intra)
/-- A block's numbers, of its levels. -/
def numF (t : Bool) (ia ir : Nat → Int) (q : Int) (intra : Bool) (f : Nat → Int) (k : Nat) : Int := if k = 0 ∧ intra = true then fbk (f 0) q else numG t ia ir q intra f k

set_option maxRecDepth 100000 in
set_option maxHeartbeats 4000000 in
theorem levels_any (t : Bool) (ia ir : Nat → Int) (q : Int) (intra : Bool) (f : Nat → Int) (w : World) (ha : ∀ j, j < 64 → 0 ≤ ia j ∧ ia j ≤ 255) (hr : ∀ j, j < 64 → 0 ≤ ir j ∧ ir j ≤ 255) (hf : ∀ j, j < 64 → -1099511627776 ≤ f j ∧ f j ≤ 1099511627776) :
    Calls Try.prog 23 #[.agg (fcells 129 (tabV t ia ir)), .agg (fcells 64 (ival f)), .int .i64 q, .bool intra] w fun e w' => e = .returned (.agg (fcells 64 (ival (levF t ia ir q intra f)))) ∧ Below w.heap.size w w' := by
  have hst : ∀ (k : Nat) W, Calls Try.prog 89 #[.agg (fcells 129 (tabV t ia ir)), .int .i64 q, .int .i64 (k : Int), .bool intra] W fun e w' => e = .returned (.int .i64 (qstep t ia ir q k intra)) ∧ Below W.heap.size W w' := fun k W => step_any t ia ir q k intra W ha hr
  replace hst := Lib.hid hst; replace hf := Lib.hid hf
  clear ha hr
  go_enter Try.func23, Try.ntmps23
  go_upto_region 2 with (refine wpList_alloc_blk rfl 27 rfl _ _ alloc28 ?_)
  generalize hw1 : (((w.alloc (.cells (fcells 129 (tabV t ia ir)) TAB)).alloc (.cells (fcells 64 (ival f)) 27)).alloc (.cells (fcells 64 (ival fun _ => 0)) 27)).alloc (.cells (fcells 64 (ival fun _ => 0)) 27) = w1
  have HT : Blk w1 w.heap.size TAB 129 (tabV t ia ir) := by rw [← hw1]; exact (((Blk.new_at _ _ _ rfl).alloc _).alloc _).alloc _
  have HC : Blk w1 (w.heap.size + 1) 27 64 (ival f) := by rw [← hw1]; exact ((Blk.new_at _ _ _ (by simp)).alloc _).alloc _
  have HR : Blk w1 (w.heap.size + 1 + 1) 27 64 (ival fun _ => 0) := by rw [← hw1]; exact (Blk.new_at _ _ _ (by simp)).alloc _
  have HO : Blk w1 (w.heap.size + 1 + 1 + 1) 27 64 (fillV 0 (ival (levG t ia ir q intra f)) (ival fun _ => 0)) := by rw [← hw1]; exact Blk.fill_none (Blk.new_at _ _ _ (by simp))
  have HW : Below w.heap.size w w1 := by rw [← hw1]; ((repeat (first | exact Below.refl _ _ | assumption | refine Below.setCell ?_ (by first | omega | (simp; done) | (simp; omega)) _ | refine Below.alloc ?_ (by first | omega | (simp; done) | (simp; omega)) _ | refine below_drewN ?_ _ | refine Below.drew ?_ | refine below_setRow ?_ (by first | omega | (simp; done) | (simp; omega)) _)))
  clear hw1
  go_wp2_with (refine wpList_load_blk HC rfl _ _ rfl rfl und28 (by kernel_rfl) ?_)
  go_loopw [13] (fun i wr => ∃ k : Nat, k ≤ 64 ∧ i = .int .i64 (k : Int) ∧ Blk wr w.heap.size TAB 129 (tabV t ia ir) ∧ Blk wr (w.heap.size + 1) 27 64 (ival f) ∧ Blk wr (w.heap.size + 1 + 1) 27 64 (ival fun _ => 0) ∧
      Blk wr (w.heap.size + 1 + 1 + 1) 27 64 (fillV k (ival (levG t ia ir q intra f)) (ival fun _ => 0)) ∧ Below w.heap.size w wr) (fun i _ => 64 - (intOf i).toNat)
  case atStart => exact ⟨0, by omega, rfl, HT, HC, HR, HO, HW⟩
  case round =>
    clear HT HC HR HO HW
    obtain ⟨k, hk, rfl, HT, HC, HR, HO, HW⟩ := hrel
    by_cases hk8 : k < 64
    · have i1 : (0 : Int) ≤ k := by omega
      have i2 : (k : Int) < 64 := by omega
      have hd : decide ((k : Int) < 64) = true := by simp; omega
      have hix : ∀ W, (Instr.index 27 (.agg (fcells 64 (ival f))) (.int .i64 (k : Int))).run Try.prog W = .ok (.int .i64 (f k)) W := fun W =>
        run_index_fcells W _ _ 64 (ival f) k und28 (by kernel_rfl) (by kernel_rfl) (by omega) (by omega)
      have hfk := hf.out k hk8
      have hlv : ∀ s W, Calls Try.prog 86 #[.int .i64 (f k), .int .i64 s] W fun e w' => e = .returned (.int .i64 (qlev (f k) s)) ∧ W = w' := fun s W => level_any (f k) s W (by omega) (by omega)
      replace hlv := Lib.hid hlv
      clear hfk
      go_wp2_with (refine wpList_load_blkS HT rfl _ _ rfl rfl Try.underlying24 (by kernel_rfl) ?_)
      refine (hst.out k _).mono ?_
      rintro e w3 ⟨rfl, hb⟩
      replace HT := HT.later hb; replace HC := HC.later hb; replace HR := HR.later hb; replace HO := HO.later hb; replace HW := below_step HW hb
      clear hb
      have f1 := HO.free k
      have c1 : w3.cell? ⟨w.heap.size + 1 + 1 + 1, k, none⟩ = some (.int .i64 0) := HO.fill_cell hk8
      go_wp2_with (go_at_call 86; (with_reducible refine (hlv.out _ _).mono ?_); rintro e w' ⟨rfl, rfl⟩)
      exact ⟨⟨k + 1, by omega, by go_num, HT.other (by omega) _ _, HC.other (by omega) _ _, HR.other (by omega) _ _, HO.fill, HW.setCell (p := ⟨w.heap.size + 1 + 1 + 1, k, none⟩) (by simp; omega) _⟩, by simp [intOf]; omega⟩
    · obtain rfl : k = 64 := by omega
      have hd : decide (((64 : Nat) : Int) < 64) = false := by simp
      replace HO := HO.fill_all
      cases intra
      · have e1 : levG t ia ir q false f = levF t ia ir q false f := by funext j; unfold levF; rw [if_neg (by simp)]
        rw [e1] at HO
        clear e1
        go_wp2_with (first | (refine wpList_load_blk HO rfl _ _ rfl rfl und28 (by kernel_rfl) ?_) | (refine wpList_store_blk HR rfl _ _ _ rfl rfl rfl (by kernel_rfl) (fun j _ => rfl) ?_))
        exact bodyPost_ret (v := .agg (fcells 64 _)) (results_blk rfl _ (HR.setRow_same rfl) rfl und28 (by kernel_rfl)) rfl ⟨rfl, below_setRow HW (by omega) _⟩
      · have c0 := HC.cell (k := 0) (by omega)
        have f0 := HO.free 0
        have c1 := HO.cell (k := 0) (by omega)
        unfold ival at c0 c1
        have hfk := hf.out 0 (by omega)
        have hfl : ∀ W, Calls Try.prog 90 #[.int .i64 (f 0), .int .i64 q] W fun e w' => e = .returned (.int .i64 (flev (f 0) q)) ∧ W = w' := fun W => firstLevel_any (f 0) q W (by omega)
        replace hfl := Lib.hid hfl
        clear hfk
        go_upto_region 9 with (go_at_call 90; (with_reducible refine (hfl.out _).mono ?_); rintro e w' ⟨rfl, rfl⟩)
        have HO2 := HO.set 0 (.int .i64 (flev (f 0) q))
        have HR2 := HR.other (c := w.heap.size + 1 + 1 + 1) (by omega) 0 (.int .i64 (flev (f 0) q))
        have HW2 := HW.setCell (p := ⟨w.heap.size + 1 + 1 + 1, 0, none⟩) (by simp; omega) (.int .i64 (flev (f 0) q))
        replace HO2 := HO2.congr (g := ival (levF t ia ir q true f)) (fun j _ => by
          show (if j = 0 then _ else _) = _
          unfold ival levF
          by_cases e : j = 0
          · subst e; rw [if_pos rfl, if_pos (by simp)]
          · rw [if_neg e, if_neg (by simp [e])])
        clear c0 c1 f0 HO HR HW
        go_wp2_with (first | (refine wpList_load_blk HO2 rfl _ _ rfl rfl und28 (by kernel_rfl) ?_) | (refine wpList_store_blk HR2 rfl _ _ _ rfl rfl rfl (by kernel_rfl) (fun j _ => rfl) ?_))
        exact bodyPost_ret (v := .agg (fcells 64 _)) (results_blk rfl _ (HR2.setRow_same rfl) rfl und28 (by kernel_rfl)) rfl ⟨rfl, below_setRow HW2 (by omega) _⟩
set_option maxRecDepth 100000 in
set_option maxHeartbeats 4000000 in
theorem numbers_any (t : Bool) (ia ir : Nat → Int) (q : Int) (intra : Bool) (f : Nat → Int) (w : World) (ha : ∀ j, j < 64 → 0 ≤ ia j ∧ ia j ≤ 255) (hr : ∀ j, j < 64 → 0 ≤ ir j ∧ ir j ≤ 255) :
    Calls Try.prog 24 #[.agg (fcells 129 (tabV t ia ir)), .agg (fcells 64 (ival f)), .int .i64 q, .bool intra] w fun e w' => e = .returned (.agg (fcells 64 (ival (numF t ia ir q intra f)))) ∧ Below w.heap.size w w' := by
  have hst : ∀ (k : Nat) W, Calls Try.prog 89 #[.agg (fcells 129 (tabV t ia ir)), .int .i64 q, .int .i64 (k : Int), .bool intra] W fun e w' => e = .returned (.int .i64 (qstep t ia ir q k intra)) ∧ Below W.heap.size W w' := fun k W => step_any t ia ir q k intra W ha hr
  replace hst := Lib.hid hst
  clear ha hr
  go_enter Try.func24, Try.ntmps24
  go_upto_region 2 with (refine wpList_alloc_blk rfl 27 rfl _ _ alloc28 ?_)
  generalize hw1 : (((w.alloc (.cells (fcells 129 (tabV t ia ir)) TAB)).alloc (.cells (fcells 64 (ival f)) 27)).alloc (.cells (fcells 64 (ival fun _ => 0)) 27)).alloc (.cells (fcells 64 (ival fun _ => 0)) 27) = w1
  have HT : Blk w1 w.heap.size TAB 129 (tabV t ia ir) := by rw [← hw1]; exact (((Blk.new_at _ _ _ rfl).alloc _).alloc _).alloc _
  have HC : Blk w1 (w.heap.size + 1) 27 64 (ival f) := by rw [← hw1]; exact ((Blk.new_at _ _ _ (by simp)).alloc _).alloc _
  have HR : Blk w1 (w.heap.size + 1 + 1) 27 64 (ival fun _ => 0) := by rw [← hw1]; exact (Blk.new_at _ _ _ (by simp)).alloc _
  have HO : Blk w1 (w.heap.size + 1 + 1 + 1) 27 64 (fillV 0 (ival (numG t ia ir q intra f)) (ival fun _ => 0)) := by rw [← hw1]; exact Blk.fill_none (Blk.new_at _ _ _ (by simp))
  have HW : Below w.heap.size w w1 := by rw [← hw1]; ((repeat (first | exact Below.refl _ _ | assumption | refine Below.setCell ?_ (by first | omega | (simp; done) | (simp; omega)) _ | refine Below.alloc ?_ (by first | omega | (simp; done) | (simp; omega)) _ | refine below_drewN ?_ _ | refine Below.drew ?_ | refine below_setRow ?_ (by first | omega | (simp; done) | (simp; omega)) _)))
  clear hw1
  go_wp2_with (refine wpList_load_blk HC rfl _ _ rfl rfl und28 (by kernel_rfl) ?_)
  go_loopw [13] (fun i wr => ∃ k : Nat, k ≤ 64 ∧ i = .int .i64 (k : Int) ∧ Blk wr w.heap.size TAB 129 (tabV t ia ir) ∧ Blk wr (w.heap.size + 1) 27 64 (ival f) ∧ Blk wr (w.heap.size + 1 + 1) 27 64 (ival fun _ => 0) ∧
      Blk wr (w.heap.size + 1 + 1 + 1) 27 64 (fillV k (ival (numG t ia ir q intra f)) (ival fun _ => 0)) ∧ Below w.heap.size w wr) (fun i _ => 64 - (intOf i).toNat)
  case atStart => exact ⟨0, by omega, rfl, HT, HC, HR, HO, HW⟩
  case round =>
    clear HT HC HR HO HW
    obtain ⟨k, hk, rfl, HT, HC, HR, HO, HW⟩ := hrel
    by_cases hk8 : k < 64
    · have i1 : (0 : Int) ≤ k := by omega
      have i2 : (k : Int) < 64 := by omega
      have hd : decide ((k : Int) < 64) = true := by simp; omega
      have hix : ∀ W, (Instr.index 27 (.agg (fcells 64 (ival f))) (.int .i64 (k : Int))).run Try.prog W = .ok (.int .i64 (f k)) W := fun W =>
        run_index_fcells W _ _ 64 (ival f) k und28 (by kernel_rfl) (by kernel_rfl) (by omega) (by omega)
      have hlv : ∀ s W, Calls Try.prog 87 #[.int .i64 (f k), .int .i64 s] W fun e w' => e = .returned (.int .i64 (qbk (f k) s)) ∧ W = w' := fun s W => back_any (f k) s W
      replace hlv := Lib.hid hlv
      go_wp2_with (refine wpList_load_blkS HT rfl _ _ rfl rfl Try.underlying24 (by kernel_rfl) ?_)
      refine (hst.out k _).mono ?_
      rintro e w3 ⟨rfl, hb⟩
      replace HT := HT.later hb; replace HC := HC.later hb; replace HR := HR.later hb; replace HO := HO.later hb; replace HW := below_step HW hb
      clear hb
      have f1 := HO.free k
      have c1 : w3.cell? ⟨w.heap.size + 1 + 1 + 1, k, none⟩ = some (.int .i64 0) := HO.fill_cell hk8
      go_wp2_with (go_at_call 87; (with_reducible refine (hlv.out _ _).mono ?_); rintro e w' ⟨rfl, rfl⟩)
      exact ⟨⟨k + 1, by omega, by go_num, HT.other (by omega) _ _, HC.other (by omega) _ _, HR.other (by omega) _ _, HO.fill, HW.setCell (p := ⟨w.heap.size + 1 + 1 + 1, k, none⟩) (by simp; omega) _⟩, by simp [intOf]; omega⟩
    · obtain rfl : k = 64 := by omega
      have hd : decide (((64 : Nat) : Int) < 64) = false := by simp
      replace HO := HO.fill_all
      cases intra
      · have e1 : numG t ia ir q false f = numF t ia ir q false f := by funext j; unfold numF; rw [if_neg (by simp)]
        rw [e1] at HO
        clear e1
        go_wp2_with (first | (refine wpList_load_blk HO rfl _ _ rfl rfl und28 (by kernel_rfl) ?_) | (refine wpList_store_blk HR rfl _ _ _ rfl rfl rfl (by kernel_rfl) (fun j _ => rfl) ?_))
        exact bodyPost_ret (v := .agg (fcells 64 _)) (results_blk rfl _ (HR.setRow_same rfl) rfl und28 (by kernel_rfl)) rfl ⟨rfl, below_setRow HW (by omega) _⟩
      · have c0 := HC.cell (k := 0) (by omega)
        have f0 := HO.free 0
        have c1 := HO.cell (k := 0) (by omega)
        unfold ival at c0 c1
        have hfl : ∀ W, Calls Try.prog 91 #[.int .i64 (f 0), .int .i64 q] W fun e w' => e = .returned (.int .i64 (fbk (f 0) q)) ∧ W = w' := fun W => firstBack_any (f 0) q W
        replace hfl := Lib.hid hfl
        go_upto_region 9 with (go_at_call 91; (with_reducible refine (hfl.out _).mono ?_); rintro e w' ⟨rfl, rfl⟩)
        have HO2 := HO.set 0 (.int .i64 (fbk (f 0) q))
        have HR2 := HR.other (c := w.heap.size + 1 + 1 + 1) (by omega) 0 (.int .i64 (fbk (f 0) q))
        have HW2 := HW.setCell (p := ⟨w.heap.size + 1 + 1 + 1, 0, none⟩) (by simp; omega) (.int .i64 (fbk (f 0) q))
        replace HO2 := HO2.congr (g := ival (numF t ia ir q true f)) (fun j _ => by
          show (if j = 0 then _ else _) = _
          unfold ival numF
          by_cases e : j = 0
          · subst e; rw [if_pos rfl, if_pos (by simp)]
          · rw [if_neg e, if_neg (by simp [e])])
        clear c0 c1 f0 HO HR HW
        go_wp2_with (first | (refine wpList_load_blk HO2 rfl _ _ rfl rfl und28 (by kernel_rfl) ?_) | (refine wpList_store_blk HR2 rfl _ _ _ rfl rfl rfl (by kernel_rfl) (fun j _ => rfl) ?_))
        exact bodyPost_ret (v := .agg (fcells 64 _)) (results_blk rfl _ (HR2.setRow_same rfl) rfl und28 (by kernel_rfl)) rfl ⟨rfl, below_setRow HW2 (by omega) _⟩

/-- The document's. -/
def rnumG (q : Int) (ws l : Nat → Int) (k : Nat) : Int := qback (l k) (rstep q (ws k))
def rnumF (q : Int) (ws : Nat → Int) (alone : Bool) (l : Nat → Int) (k : Nat) : Int := if k = 0 ∧ alone = true then l 0 * qfirst q else rnumG q ws l k
theorem rstep_bd {q w8 : Int} (h0 : 0 ≤ w8) (h1 : w8 ≤ 255) : 0 ≤ rstep q w8 ∧ rstep q w8 ≤ 65536 := by
  have hq := qp_bd q
  have hm := mul_bd w8 (imin (imax q 1) 31) 255 31 (by omega) (by omega) (by omega) (by omega) (by omega)
  have hp : 0 ≤ w8 * imin (imax q 1) 31 := Int.mul_nonneg h0 (by omega)
  unfold rstep
  split <;> omega
set_option maxRecDepth 100000 in
set_option maxHeartbeats 4000000 in
theorem rnumbers_any (f ws : Nat → Int) (q : Int) (alone : Bool) (w : World) (hq : 1 ≤ q ∧ q ≤ 31) (hws : ∀ j, j < 64 → 0 ≤ ws j ∧ ws j ≤ 255) (hf : ∀ j, j < 64 → -2047 ≤ f j ∧ f j ≤ 2047) :
    Calls Try.prog 25 #[.agg (fcells 64 (ival f)), .int .i64 q, .agg (fcells 64 fun j => .int .u8 (ws j)), .bool alone] w fun e w' => e = .returned (.agg (fcells 64 (ival (rnumF q ws alone f)))) ∧ Below w.heap.size w w' := by
  replace hws := Lib.hid hws; replace hf := Lib.hid hf; replace hq := Lib.hid hq
  go_enter Try.func25, Try.ntmps25
  go_upto_region 2 with (refine wpList_alloc_blk rfl 27 rfl _ _ alloc28 ?_)
  generalize hw1 : (((w.alloc (.cells (fcells 64 (ival f)) 27)).alloc (.cells (fcells 64 fun j => .int .u8 (ws j)) 22)).alloc (.cells (fcells 64 (ival fun _ => 0)) 27)).alloc (.cells (fcells 64 (ival fun _ => 0)) 27) = w1
  have HC : Blk w1 w.heap.size 27 64 (ival f) := by rw [← hw1]; exact (((Blk.new_at _ _ _ rfl).alloc _).alloc _).alloc _
  have HT : Blk w1 (w.heap.size + 1) 22 64 (fun j => .int .u8 (ws j)) := by rw [← hw1]; exact ((Blk.new_at _ _ _ (by simp)).alloc _).alloc _
  have HR : Blk w1 (w.heap.size + 1 + 1) 27 64 (ival fun _ => 0) := by rw [← hw1]; exact (Blk.new_at _ _ _ (by simp)).alloc _
  have HO : Blk w1 (w.heap.size + 1 + 1 + 1) 27 64 (fillV 0 (ival (rnumG q ws f)) (ival fun _ => 0)) := by rw [← hw1]; exact Blk.fill_none (Blk.new_at _ _ _ (by simp))
  have HW : Below w.heap.size w w1 := by rw [← hw1]; ((repeat (first | exact Below.refl _ _ | assumption | refine Below.setCell ?_ (by first | omega | (simp; done) | (simp; omega)) _ | refine Below.alloc ?_ (by first | omega | (simp; done) | (simp; omega)) _ | refine below_drewN ?_ _ | refine Below.drew ?_ | refine below_setRow ?_ (by first | omega | (simp; done) | (simp; omega)) _)))
  clear hw1
  go_wp2_with fail
  go_loopw [10] (fun i wr => ∃ k : Nat, k ≤ 64 ∧ i = .int .i64 (k : Int) ∧ Blk wr (w.heap.size + 1) 22 64 (fun j => .int .u8 (ws j)) ∧ Blk wr w.heap.size 27 64 (ival f) ∧ Blk wr (w.heap.size + 1 + 1) 27 64 (ival fun _ => 0) ∧
      Blk wr (w.heap.size + 1 + 1 + 1) 27 64 (fillV k (ival (rnumG q ws f)) (ival fun _ => 0)) ∧ Below w.heap.size w wr) (fun i _ => 64 - (intOf i).toNat)
  case atStart => exact ⟨0, by omega, rfl, HT, HC, HR, HO, HW⟩
  case round =>
    clear HT HC HR HO HW
    obtain ⟨k, hk, rfl, HT, HC, HR, HO, HW⟩ := hrel
    by_cases hk8 : k < 64
    · have i1 : (0 : Int) ≤ k := by omega
      have i2 : (k : Int) < 64 := by omega
      have hd : decide ((k : Int) < 64) = true := by simp; omega
      have hfk := hf.out k hk8
      have hwk := hws.out k hk8
      have hsb := rstep_bd (q := q) hwk.1 hwk.2
      have hrs : ∀ W, Calls Try.prog 26 #[.int .i64 q, .int .u8 (ws k)] W fun e w' => e = .returned (.int .i64 (rstep q (ws k))) ∧ Below W.heap.size W w' := fun W => (rstep_any q (ws k) W hwk.1 hwk.2).mono fun _ _ ⟨h1, h2⟩ => ⟨h1, h2 ▸ Below.refl _ _⟩
      have hrb : ∀ W, Calls Try.prog 92 #[.int .i64 (f k), .int .i64 (rstep q (ws k))] W fun e w' => e = .returned (.int .i64 (rnumG q ws f k)) ∧ Below W.heap.size W w' := fun W => (rback_any (f k) (rstep q (ws k)) W hfk.1 hfk.2 hsb.1 hsb.2).mono fun _ _ ⟨h1, h2⟩ => ⟨h1, h2 ▸ Below.refl _ _⟩
      replace hrs := Lib.hid hrs; replace hrb := Lib.hid hrb
      clear hfk hwk hsb
      have c0 := fun p => (HC.re p).cell hk8
      have c1 := fun p => (HT.re p).cell hk8
      unfold ival at c0
      go_wp2_with fail
      apply wp_region_tail_below 10
      case hm => kernel_rfl
      case hB => kernel_rfl
      case hno => kernel_rfl
      case hF =>
        simp only [List.take_succ_cons, List.take_zero]
        repeat (go_big_quiet_step (first | (go_at_call 26; with_reducible exact Calls.regrown_of (hrs.out _)) | (go_at_call 92; with_reducible exact Calls.regrown_of (hrb.out _))))
        exact wpQuiet_nil rfl
      case hT =>
        intro w3 hw3
        simp only [List.drop_succ_cons, List.drop_zero]
        clear c0 c1
        replace HT := HT.later hw3; replace HC := HC.later hw3; replace HR := HR.later hw3; replace HO := HO.later hw3; replace HW := below_step HW hw3
        clear hw3
        have f1 := HO.free k
        have c2 : w3.cell? ⟨w.heap.size + 1 + 1 + 1, k, none⟩ = some (.int .i64 0) := HO.fill_cell hk8
        go_wp2_with fail
        exact ⟨⟨k + 1, by omega, by go_num, HT.other (by omega) _ _, HC.other (by omega) _ _, HR.other (by omega) _ _, HO.fill, HW.setCell (p := ⟨w.heap.size + 1 + 1 + 1, k, none⟩) (by simp; omega) _⟩, by simp [intOf]; omega⟩
    · obtain rfl : k = 64 := by omega
      have hd : decide (((64 : Nat) : Int) < 64) = false := by simp
      replace HO := HO.fill_all
      cases alone
      · have e1 : rnumG q ws f = rnumF q ws false f := by funext j; unfold rnumF; rw [if_neg (by simp)]
        rw [e1] at HO
        clear e1
        go_wp2_with (first | (refine wpList_load_blk HO rfl _ _ rfl rfl und28 (by kernel_rfl) ?_) | (refine wpList_store_blk HR rfl _ _ _ rfl rfl rfl (by kernel_rfl) (fun j _ => rfl) ?_))
        exact bodyPost_ret (v := .agg (fcells 64 _)) (results_blk rfl _ (HR.setRow_same rfl) rfl und28 (by kernel_rfl)) rfl ⟨rfl, below_setRow HW (by omega) _⟩
      · have c0 := fun p => (HC.re p).cell (k := 0) (by omega)
        unfold ival at c0
        have hfk := hf.out 0 (by omega)
        have hq2 := hq.out
        have hqb := qfirst_bd q hq2.2
        have hmb := mul_bd (f 0) (qfirst q) 2047 960 hfk.1 hfk.2 (by omega) hqb.2 (by omega)
        have hfl : ∀ W, Calls Try.prog 27 #[.int .i64 q] W fun e w' => e = .returned (.int .i64 (qfirst q)) ∧ Below W.heap.size W w' := fun W => (rfirst_any q W hq2.1 hq2.2).mono fun _ _ ⟨h1, h2⟩ => ⟨h1, h2 ▸ Below.refl _ _⟩
        have hwr : IntKind.i64.wrap (f 0 * qfirst q) = f 0 * qfirst q := IntWalk.i64_in _ (by omega)
        replace hfl := Lib.hid hfl
        clear hfk hq2 hqb hmb
        go_upto_region 7 with fail
        apply wp_region_tail_below 5
        case hm => kernel_rfl
        case hB => kernel_rfl
        case hno => kernel_rfl
        case hF =>
          simp only [List.take_succ_cons, List.take_zero]
          repeat (go_big_quiet_step ((go_at_call 27; with_reducible exact Calls.regrown_of (hfl.out _))))
          exact wpQuiet_nil rfl
        case hT =>
          intro w3 hw3
          simp only [List.drop_succ_cons, List.drop_zero]
          clear c0 hwr
          replace HT := HT.later hw3; replace HC := HC.later hw3; replace HR := HR.later hw3; replace HO := HO.later hw3; replace HW := below_step HW hw3
          clear hw3
          have f0 := HO.free 0
          have c1 := HO.cell (k := 0) (by omega)
          unfold ival at c1
          go_upto_region 8 with fail
          have HO2 := HO.set 0 (.int .i64 (f 0 * qfirst q))
          have HR2 := HR.other (c := w.heap.size + 1 + 1 + 1) (by omega) 0 (.int .i64 (f 0 * qfirst q))
          have HW2 := HW.setCell (p := ⟨w.heap.size + 1 + 1 + 1, 0, none⟩) (by simp; omega) (.int .i64 (f 0 * qfirst q))
          replace HO2 := HO2.congr (g := ival (rnumF q ws true f)) (fun j _ => by
            show (if j = 0 then _ else _) = _
            unfold ival rnumF
            by_cases e : j = 0
            · subst e; rw [if_pos rfl, if_pos (by simp)]
            · rw [if_neg e, if_neg (by simp [e])])
          clear c1 f0 HO HR HW
          go_wp2_with (first | (refine wpList_load_blk HO2 rfl _ _ rfl rfl und28 (by kernel_rfl) ?_) | (refine wpList_store_blk HR2 rfl _ _ _ rfl rfl rfl (by kernel_rfl) (fun j _ => rfl) ?_))
          exact bodyPost_ret (v := .agg (fcells 64 _)) (results_blk rfl _ (HR2.setRow_same rfl) rfl und28 (by kernel_rfl)) rfl ⟨rfl, below_setRow HW2 (by omega) _⟩
end Go.Proofs.Ytbldgpemocnboaa

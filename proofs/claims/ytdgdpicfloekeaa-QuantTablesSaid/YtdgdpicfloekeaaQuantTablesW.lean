/- Walk of the law QuantTables: true at every input. -/
import Derived.Test.YtdgdpicfloekeaaFit
namespace Go.Proofs.Ytdgdpicfloekeaa
open Go.RowKit
attribute [local go_sem ↓] run_imax run_imin

theorem anyTo_turn (f : Nat → Bool) : anyTo (fun j => f (63 - j)) 64 = anyTo f 64 := by
  have h : anyTo (fun j => f (63 - j)) 64 = true ↔ anyTo f 64 = true := by
    rw [anyTo_iff, anyTo_iff]
    constructor
    · rintro ⟨j, h1, h2⟩; exact ⟨63 - j, by omega, h2⟩
    · rintro ⟨j, h1, h2⟩; exact ⟨63 - j, by omega, by simpa [show 63 - (63 - j) = j by omega] using h2⟩
  cases h1 : anyTo (fun j => f (63 - j)) 64 <;> cases h2 : anyTo f 64 <;> simp_all
theorem tchk_fit (t : Bool) (ia ir : Nat → Int) : tchk t (fitv t ia) (fitv t ir) = 0 := by
  unfold tchk
  rw [if_neg]
  rw [anyTo_iff]
  rintro ⟨j, _, h⟩
  cases t
  · simp [badW, fitv] at h
  · simp only [badW, fitv, if_true, Bool.or_eq_true, decide_eq_true_eq] at h
    rw [imax_eq, imax_eq] at h; omega
def wantV (t B : Bool) : Int := if B = true then (if t = true then 2 else 4) else 0
def fw (t : Bool) (ia ir : Nat → Int) (i : Int) (intra : Bool) : Int := if t = true ∧ 0 ≤ i ∧ i < 64 then (if intra = true then fitv t ia i.toNat else fitv t ir i.toNat) else 0
theorem fw_bd {t : Bool} {ia ir : Nat → Int} (ha : ∀ j, j < 64 → 0 ≤ ia j ∧ ia j ≤ 255) (hr : ∀ j, j < 64 → 0 ≤ ir j ∧ ir j ≤ 255) (i : Int) (intra : Bool) : 0 ≤ fw t ia ir i intra ∧ fw t ia ir i intra ≤ 255 := by
  unfold fw
  split
  · rename_i h
    have h1 := fitv_bd (t := t) ha i.toNat (by omega)
    have h2 := fitv_bd (t := t) hr i.toNat (by omega)
    split <;> omega
  · omega
theorem step_same (t : Bool) (ia ir : Nat → Int) (q i : Int) (intra : Bool) : qstep t (fitv t ia) (fitv t ir) q i intra = rstep q (fw t ia ir i intra) := by
  unfold qstep wgt rstep fw
  by_cases h : t = true ∧ 0 ≤ i ∧ i < 64
  · rw [if_pos h, if_pos h]
    have h8 : ∀ f : Nat → Int, 8 ≤ fitv t f i.toNat := fun f => by unfold fitv; rw [if_pos h.1, imax_eq]; omega
    by_cases hn : intra = true
    · have := h8 ia
      rw [if_pos hn, if_neg (by omega), show imax (fitv t ia i.toNat) 8 = fitv t ia i.toNat by rw [imax_eq]; omega, Int.mul_comm]
    · have := h8 ir
      rw [if_neg hn, if_neg (by omega), show imax (fitv t ir i.toNat) 8 = fitv t ir i.toNat by rw [imax_eq]; omega, Int.mul_comm]
  · rw [if_neg h, if_neg h, if_pos rfl, show imax 16 8 = 16 by decide, Int.mul_comm]

def ival2 (x y : Int) (j : Nat) : Value := .int .i64 (if j = 0 then x else y)
theorem run_ints2 (x y : Int) (W : World) :
    (Instr.buildSlice 38 2 #[(0, .int .i64 x), (1, .int .i64 y)]).run Try.prog W = .ok (.slice (some ⟨W.heap.size, 0, none⟩) 2 2) (W.alloc (.cells (fcells 2 (ival2 x y)) 3)) := by kernel_rfl
theorem wpList_ints2 {ops : Array Oper} {rest : List Oper} {o : Oper} {a : Act} {w : World} {Q : Exit → Act → World → Prop} {x y : Int} (hgd : o.guard = none) (p q : Operand)
    (ho : o.op = .buildSlice 38 2 #[(0, p), (1, q)]) (hx : a.eval p = .int .i64 x) (hy : a.eval q = .int .i64 y)
    (h : wpList Try.prog ops Q rest (a.put o.dst (.slice (some ⟨w.heap.size, 0, none⟩) 2 2)) (w.alloc (.cells (fcells 2 (ival2 x y)) 3))) : wpList Try.prog ops Q (o :: rest) a w :=
  wpList_plain hgd fun _ hK => by
    unfold Oper.wp execOp
    have e : (#[(0, p), (1, q)].map fun (z : Nat × Operand) => (z.1, a.eval z.2)) = #[(0, a.eval p), (1, a.eval q)] := by simp
    simp only [ho, e, hx, hy, run_ints2, Sem.run_bind, Sem.run_pure, Result.andThen_ok]
    exact hK _ _ h

set_option maxRecDepth 100000 in
set_option maxHeartbeats 4000000 in
theorem quantTables_walk (t : Bool) (ia ir : Nat → Int) (q at_ : Int) (intra : Bool) (w : World) (ha : ∀ j, j < 64 → 0 ≤ ia j ∧ ia j ≤ 255) (hr : ∀ j, j < 64 → 0 ≤ ir j ∧ ir j ≤ 255) :
    Calls Try.prog 7 #[.agg (fcells 129 (tabV t ia ir)), .int .i64 q, .int .i64 at_, .bool intra] w fun e w' => e = .returned (.bool true) ∧ Below w.heap.size w w' := by
  go_enter Try.func7, Try.ntmps7
  have HT : Blk (w.alloc (.cells (fcells 129 (tabV t ia ir)) TAB)) w.heap.size TAB 129 (tabV t ia ir) := Blk.new_at _ _ _ rfl
  have HW : Below w.heap.size w (w.alloc (.cells (fcells 129 (tabV t ia ir)) TAB)) := (Below.refl _ _).alloc (Nat.le_refl _) _
  go_wp2_with (go_at_call 13; (with_reducible refine (awake8 _).mono ?_); rintro e w' ⟨rfl, rfl⟩)
  generalize w.alloc (.cells (fcells 129 (tabV t ia ir)) TAB) = w2 at *
  go_loopw [9, 10] (fun x i wr => ∃ k : Nat, k ≤ 64 ∧ i = .int .i64 ((k : Int) - 1) ∧ x = .int .i64 (wantV t (anyTo (fun j => badW t ia ir (63 - j)) (64 - k))) ∧ Blk wr w.heap.size TAB 129 (tabV t ia ir) ∧ Below w.heap.size w wr) (fun _ i _ => (intOf i + 1).toNat)
  case atStart => exact ⟨64, by omega, rfl, rfl, HT, HW⟩
  case round =>
    clear HT HW
    obtain ⟨k, hk, rfl, rfl, HT, HW⟩ := hrel
    rcases k with _ | k
    · have e : wantV t (anyTo (fun j => badW t ia ir (63 - j)) (64 - 0)) = tchk t ia ir := by rw [show 64 - 0 = 64 from rfl, anyTo_turn]; rfl
      rw [e]
      clear e
      go_wp2_with (refine wpList_load_blkS HT rfl _ _ rfl rfl Try.underlying34 (by kernel_rfl) ?_)
      refine (check_any t ia ir _ ha hr).mono ?_
      rintro e w3 ⟨rfl, hb3⟩
      have HT := HT.below hb3 HT.lt
      have HW := HW.trans (hb3.mono HW.size)
      go_wp2_with (refine wpList_load_blkS HT rfl _ _ rfl rfl Try.underlying34 (by kernel_rfl) ?_)
      refine (fit_any t ia ir _ ha hr).mono ?_
      rintro e w4 ⟨rfl, hb4⟩
      have HW := HW.trans (hb4.mono HW.size)
      clear HT hb4 hb3
      have HX : Blk (w4.alloc (.cells (fcells 129 (tabV false (fun _ => 0) (fun _ => 0))) TAB)) w4.heap.size TAB 129 (tabV false (fun _ => 0) (fun _ => 0)) := Blk.new_at _ _ _ rfl
      have HX' := HX.setRow_same (g := tabV t (fitv t ia) (fitv t ir)) rfl
      have HW' := below_setRow (HW.alloc HW.size (.cells (fcells 129 (tabV false (fun _ => 0) (fun _ => 0))) TAB)) HW.size (fcells 129 (tabV t (fitv t ia) (fitv t ir)))
      have hsz := HW.size
      go_wp2_with (first | (refine wpList_load_blkS HX' rfl _ _ rfl rfl Try.underlying34 (by kernel_rfl) ?_) | (refine wpList_alloc_blk rfl TAB rfl _ _ allocTab ?_) | (refine wpList_store_blk HX rfl _ _ _ rfl rfl rfl (by kernel_rfl) (fun j _ => tabV_one j) ?_))
      have ha' := fitv_bd (t := t) ha
      have hr' := fitv_bd (t := t) hr
      refine (check_any t _ _ _ ha' hr').mono ?_
      rintro e w5 ⟨rfl, hb5⟩
      rw [tchk_fit]
      have HX := HX'.below hb5 HX'.lt
      have HW := HW'.trans (hb5.mono HW'.size)
      clear HW' HX' hb5
      generalize w4.heap.size = bx at *
      have hzb := HX.lt
      go_wp2_with (refine wpList_ints2 rfl _ _ rfl rfl rfl ?_)
      have HS : Blk (w5.alloc (.cells (fcells 2 (ival2 at_ (bits .and .i64 at_ 63))) 3)) w5.heap.size 3 2 (ival2 at_ (bits .and .i64 at_ 63)) := Blk.new_at _ _ _ rfl
      have HX := HX.alloc (.cells (fcells 2 (ival2 at_ (bits .and .i64 at_ 63))) 3)
      have HW := HW.alloc HW.size (.cells (fcells 2 (ival2 at_ (bits .and .i64 at_ 63))) 3)
      generalize bits .and .i64 at_ 63 = at2 at *
      generalize w5.alloc (.cells (fcells 2 (ival2 at_ at2)) 3) = w6 at *
      generalize w5.heap.size = bs at *
      have ha1 := ha
      clear ha hr
      go_loopw [68] (fun i wr => ∃ k : Nat, k ≤ 2 ∧ i = .int .i64 k ∧ Blk wr bx TAB 129 (tabV t (fitv t ia) (fitv t ir)) ∧ Blk wr bs 3 2 (ival2 at_ at2) ∧ Below w.heap.size w wr) (fun i _ => 2 - (intOf i).toNat)
      case atStart => exact ⟨0, by omega, rfl, HX, HS, HW⟩
      case round =>
        clear HX HS HW ha1
        obtain ⟨k, hk, rfl, HX, HS, HW⟩ := hrel
        by_cases hk2 : k < 2
        · have c0 := HX.tab0
          have cs : wr.cell? ⟨bs, k, none⟩ = some (.int .i64 (if k = 0 then at_ else at2)) := HS.cell hk2
          generalize (if k = 0 then at_ else at2) = iv at *
          have key := step_same t ia ir q iv intra
          have i1 : (0 : Int) ≤ k := by omega
          have i2 : (k : Int) < 2 := by omega
          have hd : decide ((k : Int) < 2) = true := by simp; omega
          by_cases hi : 0 ≤ iv ∧ iv < 64
          · obtain ⟨j, rfl⟩ : ∃ j : Nat, iv = j := ⟨iv.toNat, by omega⟩
            have hj : j < 64 := by omega
            have c1 := HX.tabA hj
            have c2 := HX.tabR hj
            have b1 := ha' j hj
            have b2 := hr' j hj
            cases t
            · rw [show fw false ia ir j intra = 0 by unfold fw; rw [if_neg (by simp)]] at key
              go_wp2_with (refine wpList_load_blkS HX rfl _ _ rfl rfl Try.underlying34 (by kernel_rfl) ?_)
              refine (step_any _ _ _ _ _ _ _ ha' hr').mono ?_
              rintro e w7 ⟨rfl, hb7⟩
              rw [key]
              go_wp2_with fail
              refine (rstep_any _ _ _ (by omega) (by omega)).mono ?_
              rintro e w' ⟨rfl, rfl⟩
              go_wp2_with fail
              exact ⟨⟨k + 1, by omega, by go_num, HX.below hb7 HX.lt, HS.below hb7 HS.lt, HW.trans (hb7.mono HW.size)⟩, by simp [intOf]; omega⟩
            · cases intra
              · rw [show fw true ia ir j false = fitv true ir j by unfold fw; rw [if_pos ⟨rfl, hi⟩, if_neg (by simp), Int.toNat_natCast]] at key
                go_wp2_with (refine wpList_load_blkS HX rfl _ _ rfl rfl Try.underlying34 (by kernel_rfl) ?_)
                refine (step_any _ _ _ _ _ _ _ ha' hr').mono ?_
                rintro e w7 ⟨rfl, hb7⟩
                rw [key]
                go_wp2_with fail
                refine (rstep_any _ _ _ b2.1 b2.2).mono ?_
                rintro e w' ⟨rfl, rfl⟩
                go_wp2_with fail
                exact ⟨⟨k + 1, by omega, by go_num, HX.below hb7 HX.lt, HS.below hb7 HS.lt, HW.trans (hb7.mono HW.size)⟩, by simp [intOf]; omega⟩
              · rw [show fw true ia ir j true = fitv true ia j by unfold fw; rw [if_pos ⟨rfl, hi⟩, if_pos rfl, Int.toNat_natCast]] at key
                go_wp2_with (refine wpList_load_blkS HX rfl _ _ rfl rfl Try.underlying34 (by kernel_rfl) ?_)
                refine (step_any _ _ _ _ _ _ _ ha' hr').mono ?_
                rintro e w7 ⟨rfl, hb7⟩
                rw [key]
                go_wp2_with fail
                refine (rstep_any _ _ _ b1.1 b1.2).mono ?_
                rintro e w' ⟨rfl, rfl⟩
                go_wp2_with fail
                exact ⟨⟨k + 1, by omega, by go_num, HX.below hb7 HX.lt, HS.below hb7 HS.lt, HW.trans (hb7.mono HW.size)⟩, by simp [intOf]; omega⟩
          · rw [show fw t ia ir iv intra = 0 by unfold fw; rw [if_neg (by omega)]] at key
            cases t
            · go_wp2_with (refine wpList_load_blkS HX rfl _ _ rfl rfl Try.underlying34 (by kernel_rfl) ?_)
              refine (step_any _ _ _ _ _ _ _ ha' hr').mono ?_
              rintro e w7 ⟨rfl, hb7⟩
              rw [key]
              go_wp2_with fail
              refine (rstep_any _ _ _ (by omega) (by omega)).mono ?_
              rintro e w' ⟨rfl, rfl⟩
              go_wp2_with fail
              exact ⟨⟨k + 1, by omega, by go_num, HX.below hb7 HX.lt, HS.below hb7 HS.lt, HW.trans (hb7.mono HW.size)⟩, by simp [intOf]; omega⟩
            · by_cases hl : 0 ≤ iv
              · go_wp2_with (refine wpList_load_blkS HX rfl _ _ rfl rfl Try.underlying34 (by kernel_rfl) ?_)
                refine (step_any _ _ _ _ _ _ _ ha' hr').mono ?_
                rintro e w7 ⟨rfl, hb7⟩
                rw [key]
                go_wp2_with fail
                refine (rstep_any _ _ _ (by omega) (by omega)).mono ?_
                rintro e w' ⟨rfl, rfl⟩
                go_wp2_with fail
                exact ⟨⟨k + 1, by omega, by go_num, HX.below hb7 HX.lt, HS.below hb7 HS.lt, HW.trans (hb7.mono HW.size)⟩, by simp [intOf]; omega⟩
              · go_wp2_with (refine wpList_load_blkS HX rfl _ _ rfl rfl Try.underlying34 (by kernel_rfl) ?_)
                refine (step_any _ _ _ _ _ _ _ ha' hr').mono ?_
                rintro e w7 ⟨rfl, hb7⟩
                rw [key]
                go_wp2_with fail
                refine (rstep_any _ _ _ (by omega) (by omega)).mono ?_
                rintro e w' ⟨rfl, rfl⟩
                go_wp2_with fail
                exact ⟨⟨k + 1, by omega, by go_num, HX.below hb7 HX.lt, HS.below hb7 HS.lt, HW.trans (hb7.mono HW.size)⟩, by simp [intOf]; omega⟩
        · obtain rfl : k = 2 := by omega
          go_wp2_with fail
          go_ret
          exact ⟨rfl, HW⟩
    · rw [show ((k + 1 : Nat) : Int) - 1 = k by omega]
      have hk8 : k < 64 := by omega
      have c0 := HT.tab0
      have c1 := HT.tabA hk8
      have c2 := HT.tabR hk8
      have b1 := ha k hk8
      have b2 := hr k hk8
      have i1 : (0 : Int) ≤ k := by omega
      have i2 : (k : Int) < 64 := by omega
      have hst := Lib.hid (show anyTo (fun j => badW t ia ir (63 - j)) (64 - k) = (anyTo (fun j => badW t ia ir (63 - j)) (64 - (k + 1)) || badW t ia ir k) by
        rw [show 64 - k = (64 - (k + 1)) + 1 by omega]
        show (_ || badW t ia ir (63 - (64 - (k + 1)))) = _
        rw [show 63 - (64 - (k + 1)) = k by omega])
      have hbk := Lib.hid (show badW t ia ir k = if t then decide (ia k < 8) || decide (ir k < 8) else decide (ia k ≠ 0) || decide (ir k ≠ 0) from rfl)
      clear ha hr
      generalize badW t ia ir k = B at *
      cases t
      · by_cases h1 : ia k = 0
        · by_cases h2 : ir k = 0
          · go_wp2_with fail
            exact ⟨⟨k, by omega, by go_num, by rw [hst.out, hbk.out]; simp [h1, h2], HT, HW⟩, by simp [intOf]⟩
          · go_wp2_with fail
            exact ⟨⟨k, by omega, by go_num, by rw [hst.out, hbk.out]; simp [h1, h2, wantV], HT, HW⟩, by simp [intOf]⟩
        · go_wp2_with fail
          exact ⟨⟨k, by omega, by go_num, by rw [hst.out, hbk.out]; simp [h1, wantV], HT, HW⟩, by simp [intOf]⟩
      · by_cases h1 : ia k < 8
        · go_wp2_with fail
          exact ⟨⟨k, by omega, by go_num, by rw [hst.out, hbk.out]; simp [h1, wantV], HT, HW⟩, by simp [intOf]⟩
        · by_cases h2 : ir k < 8
          · go_wp2_with fail
            exact ⟨⟨k, by omega, by go_num, by rw [hst.out, hbk.out]; simp [h1, h2, wantV], HT, HW⟩, by simp [intOf]⟩
          · go_wp2_with fail
            exact ⟨⟨k, by omega, by go_num, by rw [hst.out, hbk.out]; simp [h1, h2], HT, HW⟩, by simp [intOf]⟩
end Go.Proofs.Ytdgdpicfloekeaa

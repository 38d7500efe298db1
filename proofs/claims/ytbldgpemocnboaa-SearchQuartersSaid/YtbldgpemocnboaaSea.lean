/- search.Away, and the law's, walked: how far a quarter is from what a vector says. -/
import Derived.Test.YtbldgpemocnboaaPred
import Derived.Test.YtbldgpemocnboaaCell
import Derived.Test.YtbldgpemocnboaaRel
import Derived.Test.YtbldgpemocnboaaQld
import Derived.Test.YtbldgpemocnboaaIv
import Derived.Deep.DeepCutAuto
import Derived.Deep.CutBlock
namespace Go.Proofs.Ytbldgpemocnboaa
open Go.RowKit Go.Sort
attribute [local go_sem ↓] run_imax run_imin

def ipQ (f g : Fr) (mb k : Nat) (X Y : Int) (d : Bool) : Nat → Int := ipBlockF (g.pw k) (g.ph k) (g.ps k) (f.px mb k) (f.py mb k) X Y d
def awayT (f g : Fr) (mb k : Nat) (X Y : Int) (d : Bool) (i : Nat) : Int := imax (mbF f mb k i - ipQ f g mb k X Y d i) (ipQ f g mb k X Y d i - mbF f mb k i)
/-- How far a quarter is from what a vector says. -/
def awayF (f g : Fr) (mb k : Nat) (X Y : Int) (d : Bool) : Int := sumTo (awayT f g mb k X Y d) 64
theorem ipQ_bd {f g : Fr} {mb k : Nat} {X Y : Int} {d : Bool} {w : World} (hg : g.Mem w) (i : Nat) : 0 ≤ ipQ f g mb k X Y d i ∧ ipQ f g mb k X Y d i ≤ 255 := ipAt_bd (hg.pl k) _ _ _
theorem awayT_bd {f g : Fr} {mb k : Nat} {X Y : Int} {d : Bool} {w : World} (hf : f.Mem w) (hg : g.Mem w) (i : Nat) : 0 ≤ awayT f g mb k X Y d i ∧ awayT f g mb k X Y d i ≤ 255 := by
  have h1 := mbF_bd hf mb k i; have h2 := ipQ_bd (f := f) (mb := mb) (k := k) (X := X) (Y := Y) (d := d) hg i
  unfold awayT; rw [imax_eq]; omega
theorem awayF_bd {f g : Fr} {mb k : Nat} {X Y : Int} {d : Bool} {w : World} (hf : f.Mem w) (hg : g.Mem w) : 0 ≤ awayF f g mb k X Y d ∧ awayF f g mb k X Y d ≤ 16320 := by
  have := sumTo_bd (g := awayT f g mb k X Y d) (awayT_bd hf hg) 64
  unfold awayF; omega
def V64 (X Y : Int) : Prop := (-64 ≤ X ∧ X ≤ 64) ∧ (-64 ≤ Y ∧ Y ≤ 64)
set_option maxRecDepth 1000000 in
set_option maxHeartbeats 8000000 in
theorem away_any (f g : Fr) (mb k : Nat) (X Y : Int) (d : Bool) (w : World) (h1 : 0 < f.c) (hf : f.Mem w) (hg : g.Mem w) (hgc : 0 < g.c) (hk : k < 4) (hm : mb ≤ 1000000) (hV : V64 X Y) :
    Calls Try.prog 61 #[f.val, g.val, .int .i64 (mb : Int), .int .i64 (k : Int), vcV X Y, .bool d] w fun e w' => e = .returned (.int .i64 (awayF f g mb k X Y d)) ∧ Below w.heap.size w w' := by
  have hpa := fun W => parts_any X Y W hV.1 hV.2
  obtain ⟨⟨x1, x2⟩, y1, y2⟩ := hV
  have hc8 := hf.hc; have gc8 := hg.hc
  have bA := fun i => mbF_bd hf mb k i
  have bB := fun i => ipQ_bd (f := f) (mb := mb) (k := k) (X := X) (Y := Y) (d := d) hg i
  have bT := fun i => awayT_bd (mb := mb) (k := k) (X := X) (Y := Y) (d := d) hf hg i
  have hAe : ∀ i, awayT f g mb k X Y d i = imax (mbF f mb k i - ipQ f g mb k X Y d i) (ipQ f g mb k X Y d i - mbF f mb k i) := fun i => rfl
  obtain ⟨A, hA⟩ : ∃ A, mbF f mb k = A := ⟨_, rfl⟩
  obtain ⟨B, hB⟩ : ∃ B, ipQ f g mb k X Y d = B := ⟨_, rfl⟩
  obtain ⟨T, hT⟩ : ∃ T, awayT f g mb k X Y d = T := ⟨_, rfl⟩
  unfold awayF
  rw [hT]
  rw [hA] at bA hAe; rw [hB] at bB hAe; rw [hT] at bT hAe
  replace hA := Lib.hid hA; replace hB := Lib.hid hB; replace hT := Lib.hid hT; replace bA := Lib.hid bA; replace bB := Lib.hid bB; replace bT := Lib.hid bT; replace hAe := Lib.hid hAe
  unfold vcV at hpa ⊢
  replace hpa := Lib.hid hpa
  unfold Fr.val
  go_enter Try.func61, Try.ntmps61
  go_upto_region 1 with fail
  generalize hw1 : (w.alloc (.cells f.cells FRT)).alloc (.cells g.cells FRT) = w1
  have HF : Ob w1 w.heap.size FRT f.cells := by rw [← hw1]; exact (Ob.new_at _ _ rfl).alloc _
  have HG : Ob w1 (w.heap.size + 1) FRT g.cells := by rw [← hw1]; exact Ob.new_at _ _ (by simp)
  have HW : Below w.heap.size w w1 := by rw [← hw1]; ((repeat (first | exact Below.refl _ _ | assumption | refine Below.setCell ?_ (by first | omega | (simp; done) | (simp; omega)) _ | refine Below.alloc ?_ (by first | omega | (simp; done) | (simp; omega)) _ | refine below_drewN ?_ _ | refine Below.drew ?_ | refine below_setRow ?_ (by first | omega | (simp; done) | (simp; omega)) _)))
  replace hf := hf.later HW; replace hg := hg.later HW
  clear hw1
  go_wp2_with fail
  refine (hpa.out _).mono ?_
  rintro e w2 ⟨rfl, rfl⟩
  go_wp2_with (refine wpList_load_ob_g HF rfl 43 _ rfl rfl Try.underlying43 (by kernel_rfl) ?_)
  refine (frBlock_any f mb k _ h1 hc8 hm (by omega)).mono ?_
  rintro e w3 ⟨rfl, hb⟩
  replace HF := HF.later hb; replace HG := HG.later hb; replace hf := hf.later hb; replace hg := hg.later hb; replace HW := below_step HW hb
  clear hb
  unfold Fr.blkV
  have us := HW.size
  go_upto_region 3 with fail
  have HP : Ob (w3.alloc (.cells #[.int .i64 (f.pw k : Int), .int .i64 (f.ph k : Int), .slice (some ⟨f.pb k, 0, none⟩) (f.pw k * f.ph k) (f.pc k)] PLT)) w3.heap.size PLT #[.int .i64 (f.pw k : Int), .int .i64 (f.ph k : Int), .slice (some ⟨f.pb k, 0, none⟩) (f.pw k * f.ph k) (f.pc k)] := Ob.new_at _ _ rfl
  replace HF := HF.alloc (.cells #[.int .i64 (f.pw k : Int), .int .i64 (f.ph k : Int), .slice (some ⟨f.pb k, 0, none⟩) (f.pw k * f.ph k) (f.pc k)] PLT); replace HG := HG.alloc (.cells #[.int .i64 (f.pw k : Int), .int .i64 (f.ph k : Int), .slice (some ⟨f.pb k, 0, none⟩) (f.pw k * f.ph k) (f.pc k)] PLT); replace hf := hf.alloc (.cells #[.int .i64 (f.pw k : Int), .int .i64 (f.ph k : Int), .slice (some ⟨f.pb k, 0, none⟩) (f.pw k * f.ph k) (f.pc k)] PLT); replace hg := hg.alloc (.cells #[.int .i64 (f.pw k : Int), .int .i64 (f.ph k : Int), .slice (some ⟨f.pb k, 0, none⟩) (f.pw k * f.ph k) (f.pc k)] PLT); replace HW := HW.alloc us (.cells #[.int .i64 (f.pw k : Int), .int .i64 (f.ph k : Int), .slice (some ⟨f.pb k, 0, none⟩) (f.pw k * f.ph k) (f.pc k)] PLT)
  generalize w3.alloc (.cells #[.int .i64 (f.pw k : Int), .int .i64 (f.ph k : Int), .slice (some ⟨f.pb k, 0, none⟩) (f.pw k * f.ph k) (f.pc k)] PLT) = w4 at *
  generalize w3.heap.size = pp at *
  go_wp2_with (refine wpList_load_ob_g HG rfl 43 _ rfl rfl Try.underlying43 (by kernel_rfl) ?_)
  refine (frBlock_any g mb k _ hgc gc8 hm (by omega)).mono ?_
  rintro e w5 ⟨rfl, hb⟩
  replace HP := HP.later hb; replace hf := hf.later hb; replace hg := hg.later hb; replace HW := below_step HW hb
  clear hb
  clear HF HG
  unfold Fr.blkV
  have us := HW.size
  go_upto_region 4 with fail
  have HQ : Ob (w5.alloc (.cells #[.int .i64 (g.pw k : Int), .int .i64 (g.ph k : Int), .slice (some ⟨g.pb k, 0, none⟩) (g.pw k * g.ph k) (g.pc k)] PLT)) w5.heap.size PLT #[.int .i64 (g.pw k : Int), .int .i64 (g.ph k : Int), .slice (some ⟨g.pb k, 0, none⟩) (g.pw k * g.ph k) (g.pc k)] := Ob.new_at _ _ rfl
  replace HP := HP.alloc (.cells #[.int .i64 (g.pw k : Int), .int .i64 (g.ph k : Int), .slice (some ⟨g.pb k, 0, none⟩) (g.pw k * g.ph k) (g.pc k)] PLT); replace hf := hf.alloc (.cells #[.int .i64 (g.pw k : Int), .int .i64 (g.ph k : Int), .slice (some ⟨g.pb k, 0, none⟩) (g.pw k * g.ph k) (g.pc k)] PLT); replace hg := hg.alloc (.cells #[.int .i64 (g.pw k : Int), .int .i64 (g.ph k : Int), .slice (some ⟨g.pb k, 0, none⟩) (g.pw k * g.ph k) (g.pc k)] PLT); replace HW := HW.alloc us (.cells #[.int .i64 (g.pw k : Int), .int .i64 (g.ph k : Int), .slice (some ⟨g.pb k, 0, none⟩) (g.pw k * g.ph k) (g.pc k)] PLT)
  generalize w5.alloc (.cells #[.int .i64 (g.pw k : Int), .int .i64 (g.ph k : Int), .slice (some ⟨g.pb k, 0, none⟩) (g.pw k * g.ph k) (g.pc k)] PLT) = w6 at *
  generalize w5.heap.size = qq at *
  have hbl : ∀ W, f.Mem W → Calls Try.prog 67 #[.agg #[.int .i64 (f.pw k : Int), .int .i64 (f.ph k : Int), .slice (some ⟨f.pb k, 0, none⟩) (f.pw k * f.ph k) (f.pc k)], .int .i64 (f.px mb k), .int .i64 (f.py mb k)] W fun e w' => e = .returned (.agg (fcells 64 (ival (mbF f mb k)))) ∧ Below W.heap.size W w' := fun W h => plBlock_any f mb k W h hm (by omega)
  have hip : ∀ W, g.Mem W → Calls Try.prog 108 #[.agg #[.int .i64 (g.pw k : Int), .int .i64 (g.ph k : Int), .slice (some ⟨g.pb k, 0, none⟩) (g.pw k * g.ph k) (g.pc k)], .int .i64 (f.px mb k), .int .i64 (f.py mb k), .int .i64 X, .int .i64 Y, .bool d] W fun e w' => e = .returned (.agg (fcells 64 (ival (ipQ f g mb k X Y d)))) ∧ Below W.heap.size W w' := fun W h => by
    have hb := h.plb k
    have hp := f.pxy_bd hm (show k < 6 by omega)
    exact ipBlock_any (g.pw k) (g.ph k) (g.pb k) (g.pc k) (g.ps k) (f.px mb k) (f.py mb k) X Y d W (by omega) (by omega) (h.pl k) (by omega) (by omega) (by omega) (by omega) (by omega) (by omega) (by omega) (by omega)
  rw [hA.out] at hbl; rw [hB.out] at hip
  replace hbl := Lib.hid hbl; replace hip := Lib.hid hip
  have us := HW.size
  have u1 := HP.lt; have u2 := HQ.lt
  apply wp_region_grow2 13 [] 11 21 12 22 27 27 (fcells 64 (ival fun _ => 0)) (fcells 64 (ival fun _ => 0))
  case hm => kernel_rfl
  case hB => kernel_rfl
  case hp => kernel_rfl
  case hlo => kernel_rfl
  case hne => decide
  case hop1 => kernel_rfl
  case hop2 => kernel_rfl
  case hz1 => exact alloc28
  case hz2 => exact alloc28
  case hF =>
    intro wx hwx
    have c0 := fun p => ((HP.later hwx).re p).plW; have c1 := fun p => ((HP.later hwx).re p).plH; have c2 := fun p => ((HP.later hwx).re p).plS
    have c3 := fun p => ((HQ.later hwx).re p).plW; have c4 := fun p => ((HQ.later hwx).re p).plH; have c5 := fun p => ((HQ.later hwx).re p).plS
    replace hf := hf.later hwx; replace hg := hg.later hwx
    simp only [List.take_succ_cons, List.take_zero, muteG, mute, isAlloc, List.contains_nil, Nat.reduceAdd, Nat.zero_add, ↓reduceIte, Bool.false_eq_true]
    repeat (go_big_quiet_step (first | (go_at_call 67; with_reducible exact Calls.regrown_of (hbl.out _ (hf.later (below_regrown _ _ _)))) | (go_at_call 108; with_reducible exact Calls.regrown_of (hip.out _ (hg.later (below_regrown _ _ _))))))
    exact wpQuiet_nil rfl
  case hG =>
    simp only [List.filterMap_nil]
    intro w7 hw7 z1 z2 hz1 hz2 hz3 HA HB
    simp only [ptrAt]
    replace HW := below_step HW hw7
    have zw1 : w.heap.size ≤ z1 := by omega
    have zw2 : w.heap.size ≤ z2 := by omega
    refine wpList_store_blk (f := ival fun _ => 0) (g := ival A) HA rfl _ _ _ rfl rfl rfl (by kernel_rfl) (fun j _ => rfl) ?_
    simp only [Act.put]
    refine wpList_store_blk (f := ival fun _ => 0) (g := ival B) (Ob.setRow HB hz3 _) rfl _ _ _ rfl rfl rfl (by kernel_rfl) (fun j _ => rfl) ?_
    generalize hwB : (w7.setRow z1 (fcells 64 (ival A))).setRow z2 (fcells 64 (ival B)) = w8
    replace HA : Blk w8 z1 27 64 (ival A) := by rw [← hwB]; exact (Blk.setRow_same (f := ival fun _ => 0) HA rfl).setRow (Ne.symm hz3) _
    replace HB : Blk w8 z2 27 64 (ival B) := by rw [← hwB]; exact Blk.setRow_same (f := ival fun _ => 0) (Ob.setRow HB hz3 _) rfl
    replace HW : Below w.heap.size w w8 := by rw [← hwB]; exact below_setRow (below_setRow HW zw1 _) zw2 _
    clear hwB u1 u2 hbl hip hz1 hz2 zw1 zw2
    go_wp2_with (refine wpList_load_blk HA rfl _ _ rfl rfl und28 (by kernel_rfl) ?_)
    go_loopw [23, 59] (fun t i wr => ∃ j : Nat, j ≤ 64 ∧ i = .int .i64 (j : Int) ∧ t = .int .i64 (sumTo T j) ∧ Blk wr z2 27 64 (ival B) ∧ Below w.heap.size w wr) (fun _ i _ => 64 - (intOf i).toNat)
    case atStart => exact ⟨0, by omega, rfl, rfl, HB, HW⟩
    case round =>
      clear HA HB HW
      obtain ⟨j, hj, rfl, rfl, HB, HW⟩ := hrel
      by_cases hj64 : j < 64
      · have hd : decide ((j : Int) < 64) = true := by simp; omega
        have i0 : (0 : Int) ≤ j := by omega
        have i1 : (j : Int) < 64 := by omega
        have hix : ∀ W, (Instr.index 27 (.agg (fcells 64 (ival A))) (.int .i64 (j : Int))).run Try.prog W = .ok (.int .i64 (A j)) W := fun W =>
          run_index_fcells W _ _ 64 (ival A) j und28 (by kernel_rfl) (by kernel_rfl) (by omega) (by omega)
        have c0 := fun p => (HB.re p).cell hj64
        unfold ival at c0
        obtain ⟨a1, a2⟩ := bA.out j; obtain ⟨b1, b2⟩ := bB.out j; obtain ⟨t1, t2⟩ := bT.out j
        have hs := sumTo_bd bT.out j
        obtain ⟨s1, s2⟩ := hs
        have s3 : sumTo T j ≤ 16320 := by omega
        clear s2
        have hTe := hAe.out j
        rw [hTe] at t1 t2
        have hnx : Hid (sumTo T (j + 1) = sumTo T j + imax (A j - B j) (B j - A j)) := Lib.hid (by rw [← hTe]; rfl)
        clear hTe
        generalize sumTo T j = S at *
        go_wp2_with fail
        refine wp_region_quiet_below (by kernel_rfl) (by kernel_rfl) ?_
        repeat (go_big_quiet_step (fail))
        refine wpQuiet_nil ?_
        intro wq hwq
        replace hwq := Cls.below hwq
        clear c0
        replace HB := HB.later hwq; replace HW := below_step HW hwq
        clear hwq
        go_wp2_with fail
        exact ⟨⟨j + 1, by omega, by go_num, by rw [hnx.out], HB, HW⟩, by simp [intOf]; omega⟩
      · obtain rfl : j = 64 := by omega
        have hd : decide (((64 : Nat) : Int) < 64) = false := by simp
        go_wp2_with fail
        go_ret
        exact ⟨rfl, HW⟩

/-- A plane's value of a frame's light, as its cells say it. -/
theorem at_mbF {f : Fr} {mb k i : Nat} : plAt (f.pw k) (f.ph k) (f.ps k) (f.px mb k + (i : Int) % 8) (f.py mb k + (i : Int) / 8) = mbF f mb k i := by
  unfold mbF blockF
  rw [show ((i % 8 : Nat) : Int) = (i : Int) % 8 by omega, show ((i / 8 : Nat) : Int) = (i : Int) / 8 by omega]
set_option maxRecDepth 1000000 in
set_option maxHeartbeats 8000000 in
theorem lawAway_any (f g : Fr) (mb k : Nat) (X Y : Int) (d : Bool) (w : World) (h1 : 0 < f.c) (hf : f.Mem w) (hg : g.Mem w) (hgc : 0 < g.c) (hgr : 0 < g.r) (hk : k < 4) (hm : mb ≤ 1000000) (hV : V64 X Y) :
    Calls Try.prog 56 #[f.val, g.val, .int .i64 (mb : Int), .int .i64 (k : Int), vcV X Y, .bool d] w fun e w' => e = .returned (.int .i64 (awayF f g mb k X Y d)) ∧ Below w.heap.size w w' := by
  have hpa := fun W => parts_any X Y W hV.1 hV.2
  obtain ⟨⟨x1, x2⟩, y1, y2⟩ := hV
  have hc8 := hf.hc; have gc8 := hg.hc; have gr8 := hg.hr
  have bA := fun i => mbF_bd hf mb k i
  have bB := fun i => ipQ_bd (f := f) (mb := mb) (k := k) (X := X) (Y := Y) (d := d) hg i
  have bT := fun i => awayT_bd (mb := mb) (k := k) (X := X) (Y := Y) (d := d) hf hg i
  have hAe : ∀ i, awayT f g mb k X Y d i = imax (mbF f mb k i - ipQ f g mb k X Y d i) (ipQ f g mb k X Y d i - mbF f mb k i) := fun i => rfl
  have hat : ∀ i : Nat, i < 64 → ∀ W, f.Mem W → Calls Try.prog 35 #[.agg #[.int .i64 (f.pw k : Int), .int .i64 (f.ph k : Int), .slice (some ⟨f.pb k, 0, none⟩) (f.pw k * f.ph k) (f.pc k)], .int .i64 (f.px mb k + (i : Int) % 8), .int .i64 (f.py mb k + (i : Int) / 8)] W fun e w' => e = .returned (.int .u8 (mbF f mb k i)) ∧ Below W.heap.size W w' := fun i hi W h => by
    have hb := h.plb k
    have := at_any (f.pw k) (f.ph k) (f.pb k) (f.pc k) (f.ps k) (f.px mb k + (i : Int) % 8) (f.py mb k + (i : Int) / 8) W (by omega) (by omega) (h.pl k)
    rw [at_mbF] at this; exact this
  have hpl : plV (16 * g.c) (16 * g.r) g.bY (16 * g.c * (16 * g.r)) g.cY = .agg #[.int .i64 (16 * (g.c : Int)), .int .i64 (16 * (g.r : Int)), .slice (some ⟨g.bY, 0, none⟩) (16 * g.c * (16 * g.r)) g.cY] := plV_16 _ _ _ _ _
  have hbt : ∀ i : Nat, i < 64 → ∀ W, g.Mem W → Calls Try.prog 102 #[.agg #[.int .i64 (16 * (g.c : Int)), .int .i64 (16 * (g.r : Int)), .slice (some ⟨g.bY, 0, none⟩) (16 * g.c * (16 * g.r)) g.cY], .int .i64 (2 * (f.px mb k + (i : Int) % 8) + X), .int .i64 (2 * (f.py mb k + (i : Int) / 8) + Y), .bool d] W fun e w' => e = .returned (.int .i64 (ipQ f g mb k X Y d i)) ∧ Below W.heap.size W w' := fun i hi W h => by
    have hp := f.pxy_bd hm (show k < 6 by omega)
    have := between_any (16 * g.c) (16 * g.r) g.bY g.cY g.sY (2 * (f.px mb k + (i : Int) % 8) + X) (2 * (f.py mb k + (i : Int) / 8) + Y) d W (by omega) (by omega) (by omega) (by omega) h.y (by omega) (by omega) (by omega) (by omega)
    rw [hpl] at this
    have e : ipQ f g mb k X Y d i = ipAt (16 * g.c) (16 * g.r) g.sY (2 * (f.px mb k + (i : Int) % 8) + X) (2 * (f.py mb k + (i : Int) / 8) + Y) d := by
      unfold ipQ ipBlockF Fr.pw Fr.ph Fr.ps
      rw [if_pos hk, if_pos hk, if_pos hk, show ((i % 8 : Nat) : Int) = (i : Int) % 8 by omega, show ((i / 8 : Nat) : Int) = (i : Int) / 8 by omega]
    rw [e]; exact this
  have hrf : ∀ W, Calls Try.prog 84 #[.agg #[.int .i64 (16 * (g.c : Int)), .int .i64 (16 * (g.r : Int)), .slice (some ⟨g.bY, 0, none⟩) (16 * g.c * (16 * g.r)) g.cY]] W fun e w' => e = .returned (.agg #[.int .i64 (16 * (g.c : Int)), .int .i64 (16 * (g.r : Int)), .slice (some ⟨g.bY, 0, none⟩) (16 * g.c * (16 * g.r)) g.cY]) ∧ Below W.heap.size W w' := fun W => by
    have := ref_any (16 * g.c) (16 * g.r) g.bY (16 * g.c * (16 * g.r)) g.cY W
    rw [hpl] at this; exact this
  obtain ⟨A, hA⟩ : ∃ A, mbF f mb k = A := ⟨_, rfl⟩
  obtain ⟨B, hB⟩ : ∃ B, ipQ f g mb k X Y d = B := ⟨_, rfl⟩
  obtain ⟨T, hT⟩ : ∃ T, awayT f g mb k X Y d = T := ⟨_, rfl⟩
  unfold awayF
  rw [hT]
  rw [hA] at bA hAe hat; rw [hB] at bB hAe hbt; rw [hT] at bT hAe
  replace hA := Lib.hid hA; replace hB := Lib.hid hB; replace hT := Lib.hid hT; replace bA := Lib.hid bA; replace bB := Lib.hid bB; replace bT := Lib.hid bT; replace hAe := Lib.hid hAe
  replace hat := Lib.hid hat; replace hbt := Lib.hid hbt; replace hrf := Lib.hid hrf; replace hpl := Lib.hid hpl
  obtain ⟨p1, p2, p3, p4⟩ := f.pxy_bd hm (show k < 6 by omega)
  unfold vcV at hpa ⊢
  replace hpa := Lib.hid hpa
  unfold Fr.val
  go_enter Try.func56, Try.ntmps56
  go_upto_region 1 with fail
  generalize hw1 : (w.alloc (.cells f.cells FRT)).alloc (.cells g.cells FRT) = w1
  have HF : Ob w1 w.heap.size FRT f.cells := by rw [← hw1]; exact (Ob.new_at _ _ rfl).alloc _
  have HG : Ob w1 (w.heap.size + 1) FRT g.cells := by rw [← hw1]; exact Ob.new_at _ _ (by simp)
  have HW : Below w.heap.size w w1 := by rw [← hw1]; ((repeat (first | exact Below.refl _ _ | assumption | refine Below.setCell ?_ (by first | omega | (simp; done) | (simp; omega)) _ | refine Below.alloc ?_ (by first | omega | (simp; done) | (simp; omega)) _ | refine below_drewN ?_ _ | refine Below.drew ?_ | refine below_setRow ?_ (by first | omega | (simp; done) | (simp; omega)) _)))
  replace hf := hf.later HW; replace hg := hg.later HW
  clear hw1
  go_wp2_with (refine wpList_load_ob_g HF rfl 43 _ rfl rfl Try.underlying43 (by kernel_rfl) ?_)
  refine (frBlock_any f mb k _ h1 hc8 hm (by omega)).mono ?_
  rintro e w3 ⟨rfl, hb⟩
  replace HF := HF.later hb; replace HG := HG.later hb; replace hf := hf.later hb; replace hg := hg.later hb; replace HW := below_step HW hb
  clear hb
  unfold Fr.blkV
  have us := HW.size
  go_upto_region 2 with fail
  have HP : Ob (w3.alloc (.cells #[.int .i64 (f.pw k : Int), .int .i64 (f.ph k : Int), .slice (some ⟨f.pb k, 0, none⟩) (f.pw k * f.ph k) (f.pc k)] PLT)) w3.heap.size PLT #[.int .i64 (f.pw k : Int), .int .i64 (f.ph k : Int), .slice (some ⟨f.pb k, 0, none⟩) (f.pw k * f.ph k) (f.pc k)] := Ob.new_at _ _ rfl
  replace HG := HG.alloc (.cells #[.int .i64 (f.pw k : Int), .int .i64 (f.ph k : Int), .slice (some ⟨f.pb k, 0, none⟩) (f.pw k * f.ph k) (f.pc k)] PLT); replace hf := hf.alloc (.cells #[.int .i64 (f.pw k : Int), .int .i64 (f.ph k : Int), .slice (some ⟨f.pb k, 0, none⟩) (f.pw k * f.ph k) (f.pc k)] PLT); replace hg := hg.alloc (.cells #[.int .i64 (f.pw k : Int), .int .i64 (f.ph k : Int), .slice (some ⟨f.pb k, 0, none⟩) (f.pw k * f.ph k) (f.pc k)] PLT); replace HW := HW.alloc us (.cells #[.int .i64 (f.pw k : Int), .int .i64 (f.ph k : Int), .slice (some ⟨f.pb k, 0, none⟩) (f.pw k * f.ph k) (f.pc k)] PLT)
  generalize w3.alloc (.cells #[.int .i64 (f.pw k : Int), .int .i64 (f.ph k : Int), .slice (some ⟨f.pb k, 0, none⟩) (f.pw k * f.ph k) (f.pc k)] PLT) = w4 at *
  generalize w3.heap.size = pp at *
  clear HF
  go_wp2_with fail
  refine (hpa.out _).mono ?_
  rintro e w5 ⟨rfl, rfl⟩
  obtain ⟨PX, hPX⟩ : ∃ z, f.px mb k = z := ⟨_, rfl⟩
  obtain ⟨PY, hPY⟩ : ∃ z, f.py mb k = z := ⟨_, rfl⟩
  rw [hPX, hPY]
  rw [hPX] at p1 p2 hat hbt; rw [hPY] at p3 p4 hat hbt
  replace hPX := Lib.hid hPX; replace hPY := Lib.hid hPY
  go_wp2_with fail
  go_loopw [18, 34] (fun t i wr => ∃ j : Nat, j ≤ 64 ∧ i = .int .i64 (j : Int) ∧ t = .int .i64 (sumTo T j) ∧ f.Mem wr ∧ g.Mem wr ∧ Ob wr pp PLT #[.int .i64 (f.pw k : Int), .int .i64 (f.ph k : Int), .slice (some ⟨f.pb k, 0, none⟩) (f.pw k * f.ph k) (f.pc k)] ∧ Ob wr (w.heap.size + 1) FRT g.cells ∧ Below w.heap.size w wr) (fun _ i _ => 64 - (intOf i).toNat)
  case atStart => exact ⟨0, by omega, rfl, rfl, hf, hg, HP, HG, HW⟩
  case round =>
    clear hf hg HP HG HW
    obtain ⟨j, hj, rfl, rfl, hf, hg, HP, HG, HW⟩ := hrel
    by_cases hj64 : j < 64
    · have hd : decide ((j : Int) < 64) = true := by simp; omega
      have i0 : (0 : Int) ≤ j := by omega
      have i1 : (j : Int) < 64 := by omega
      obtain ⟨a1, a2⟩ := bA.out j; obtain ⟨b1, b2⟩ := bB.out j; obtain ⟨t1, t2⟩ := bT.out j
      have hs := sumTo_bd bT.out j
      obtain ⟨s1, s2⟩ := hs
      have s3 : sumTo T j ≤ 16320 := by omega
      clear s2
      have hTe := hAe.out j
      have hnx : Hid (sumTo T (j + 1) = sumTo T j + T j) := Lib.hid rfl
      have hat2 := hat.out j hj64; have hbt2 := hbt.out j hj64
      replace hat2 := Lib.hid hat2; replace hbt2 := Lib.hid hbt2
      generalize sumTo T j = S at *
      have e0 := fun p => (HP.re p).plW; have e1 := fun p => (HP.re p).plH; have e2 := fun p => (HP.re p).plS
      have c0 := fun p => (HG.re p).fYW; have c1 := fun p => (HG.re p).fYH; have c2 := fun p => (HG.re p).fYS
      have hTm : Hid (imax (A j - B j) (-(A j - B j)) = T j ∧ imax (A j - B j) (B j - A j) = T j) := Lib.hid ⟨by rw [hTe, show -(A j - B j) = B j - A j by omega], hTe.symm⟩
      have t3 : 0 ≤ imax (A j - B j) (-(A j - B j)) := by rw [hTm.out.1]; exact t1
      have t4 : imax (A j - B j) (-(A j - B j)) ≤ 255 := by rw [hTm.out.1]; exact t2
      have t5 : 0 ≤ imax (A j - B j) (B j - A j) := by rw [hTm.out.2]; exact t1
      have t6 : imax (A j - B j) (B j - A j) ≤ 255 := by rw [hTm.out.2]; exact t2
      replace hTe := Lib.hid hTe
      go_wp2_with fail
      refine wp_region_quiet_below (by kernel_rfl) (by kernel_rfl) ?_
      repeat (go_big_quiet_step (first | (go_at_call 35; with_reducible exact Calls.regrown_of (hat2.out _ (hf.later (below_regrown _ _ _)))) | (go_at_call 84; with_reducible exact Calls.regrown_of (hrf.out _)) | (go_at_call 102; with_reducible exact Calls.regrown_of (hbt2.out _ (hg.later (below_regrown _ _ _))))))
      refine wpQuiet_nil ?_
      intro wq hwq
      replace hwq := Cls.below hwq
      clear e0 e1 e2 c0 c1 c2
      replace HP := HP.later hwq; replace HG := HG.later hwq; replace hf := hf.later hwq; replace hg := hg.later hwq; replace HW := below_step HW hwq
      clear hwq
      go_wp2_with fail
      exact ⟨⟨j + 1, by omega, by go_num, by first | rw [hnx.out, ← hTm.out.1] | rw [hnx.out, ← hTm.out.2], hf, hg, HP, HG, HW⟩, by simp [intOf]; omega⟩
    · obtain rfl : j = 64 := by omega
      have hd : decide (((64 : Nat) : Int) < 64) = false := by simp
      go_wp2_with fail
      go_ret
      exact ⟨rfl, HW⟩
end Go.Proofs.Ytbldgpemocnboaa

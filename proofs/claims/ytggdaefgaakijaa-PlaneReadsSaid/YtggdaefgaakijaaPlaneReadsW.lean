/- The walk of the law PlaneReads: true at every input. No condition but that the arguments read as their types say. -/
import Derived.Test.YtggdaefgaakijaaPl4
import Derived.Test.YtggdaefgaakijaaFr3
import Derived.Test.YtggdaefgaakijaaGrw
import Derived.Test.YtggdaefgaakijaaApp
import Derived.StillTailTactics
import Derived.Deep.RegionHeld3
import Derived.Deep.DeepCutAuto
namespace Go.Proofs.Ytggdaefgaakijaa
open Go.RowKit
attribute [local go_sem ↓] run_imax run_imin

/-- What the closure in PlaneReads gives. -/
theorem readsAt_any (W H b c q : Nat) (s : Nat → Int) (x y : Int) (w : World) (hW2 : W ≤ 1024) (hH2 : H ≤ 1024) (hP : PB w b (W * H) s) (hO : Ob w q PLT (plC W H b (W * H) c)) :
    Calls Try.prog 29 #[.int .i64 x, .int .i64 y, .pointer (some ⟨q, 0, none⟩)] w fun r w' => r = .returned (.int .u8 (plAt W H s x y)) ∧ w = w' := by
  have c0 := hO.plW
  have c1 := hO.plH
  have c2 := hO.plS
  have hm := size_le hW2 hH2
  by_cases h0 : W = 0 ∨ H = 0
  · have hr : plAt W H s x y = 0 := by unfold plAt; rw [if_pos h0]
    rw [hr]
    have hz : W * H = 0 := by rcases h0 with rfl | rfl <;> simp
    rw [hz] at c2
    clear hz hr h0 hP hO
    go_enter Try.func29, Try.ntmps29
    go_wp2_with fail
    go_ret
    exact ⟨rfl, rfl⟩
  · have hi := idx_lt x y (W := W) (H := H) (by omega) (by omega)
    have hr : plAt W H s x y = s (cl y H * W + cl x W) := by unfold plAt; rw [if_neg h0]
    rw [hr]
    have hc := hP.cell hi
    have hx : imin (imax x 0) ((W : Int) - 1) = (cl x W : Nat) := by unfold cl; rw [imin_eq, imax_eq]; omega
    have hy : imin (imax y 0) ((H : Int) - 1) = (cl y H : Nat) := by unfold cl; rw [imin_eq, imax_eq]; omega
    have hm2 : cl y H * W ≤ 1048576 := by omega
    have d1 : ¬ W * H = 0 := by omega
    have d2 : ¬ W = 0 := by omega
    have d3 : ¬ H = 0 := by omega
    generalize cl x W = cx at *
    generalize cl y H = cy at *
    clear hP hO h0 hr
    go_enter Try.func29, Try.ntmps29
    go_wp2_with fail
    go_ret
    exact ⟨rfl, rfl⟩

theorem tmod_bd (n d : Int) (hd : 0 < d) : -d < n.tmod d ∧ n.tmod d < d := by
  have h1 := Int.tmod_lt_of_pos n hd
  have h2 := Int.tmod_lt_of_pos (-n) hd
  rw [Int.neg_tmod] at h2
  omega

/-- The samples while they are overwritten by the slice's. -/
def mixF (k : Nat) (v : Int) (ls : Nat) (sl : Nat → Int) (j : Nat) : Int := if j < k ∧ j < ls then sl j else v

set_option maxRecDepth 1000000 in
set_option maxHeartbeats 4000000 in
theorem planeReads_walk (a0 a1 v a3 a4 : Int) (p : Option Addr) (ls lc : Nat) (sl put : Nat → Int) (w : World) (h0 : 0 ≤ a0 ∧ a0 ≤ 255) (h1 : 0 ≤ a1 ∧ a1 ≤ 255) (hv : 0 ≤ v ∧ v ≤ 255)
    (hls : ls ≤ maxLen) (hS : SL w p ls (u8v sl)) (hsb : ∀ k, k < ls → 0 ≤ sl k ∧ sl k ≤ 255) (hpb : ∀ j, j < 64 → -9223372036854775808 ≤ put j ∧ put j ≤ 9223372036854775807) :
    Calls Try.prog 6 #[.int .u8 a0, .int .u8 a1, .int .u8 v, .int .i64 a3, .int .i64 a4, .slice p ls lc, .agg (fcells 64 (ival put))] w
      fun e w' => e = .returned (.bool true) ∧ Below w.heap.size w w' := by
  obtain ⟨W, hA, hW⟩ : ∃ W : Nat, a0 % 40 = (W : Int) ∧ W < 40 := ⟨(a0 % 40).toNat, by omega, by omega⟩
  obtain ⟨H, hB, hH⟩ : ∃ H : Nat, a1 % 40 = (H : Int) ∧ H < 40 := ⟨(a1 % 40).toNat, by omega, by omega⟩
  have hsz := size_le (show W ≤ 1024 by omega) (show H ≤ 1024 by omega)
  obtain ⟨X, hX, hX1, hX2⟩ : ∃ X, imin (imax a3 (-1099511627776)) 1099511627776 = X ∧ -1099511627776 ≤ X ∧ X ≤ 1099511627776 := ⟨_, rfl, by rw [imin_eq, imax_eq]; omega, by rw [imin_eq]; omega⟩
  obtain ⟨Y, hY, hY1, hY2⟩ : ∃ Y, imin (imax a4 (-1099511627776)) 1099511627776 = Y ∧ -1099511627776 ≤ Y ∧ Y ≤ 1099511627776 := ⟨_, rfl, by rw [imin_eq, imax_eq]; omega, by rw [imin_eq]; omega⟩
  replace hS := Lib.hid hS; replace hsb := Lib.hid hsb; replace hpb := Lib.hid hpb
  have hls : ls ≤ 9223372036854775807 := by unfold maxLen at hls; omega
  go_enter Try.func6, Try.ntmps6
  go_wp2_with fail
  have HX : Blk (w.alloc (.cells (fcells 64 (ival put)) 44)) w.heap.size 44 64 (ival put) := Blk.new_at _ _ _ rfl
  have HW : Below w.heap.size w (w.alloc (.cells (fcells 64 (ival put)) 44)) := by ((repeat (first | exact Below.refl _ _ | assumption | refine Below.setCell ?_ (by first | omega | (simp; done) | (simp; omega)) _ | refine Below.alloc ?_ (by first | omega | (simp; done) | (simp; omega)) _ | refine below_drewN ?_ _ | refine Below.drew ?_ | refine below_setRow ?_ (by first | omega | (simp; done) | (simp; omega)) _)))
  generalize w.alloc (.cells (fcells 64 (ival put)) 44) = w0 at *
  refine (awake6 _).mono ?_
  rintro e w1 ⟨rfl, hb⟩
  replace HX := HX.later hb; replace HW := below_step HW hb
  clear hb
  have hX1w := HX.lt
  go_wp2_with fail
  refine (new_any _ _ v W H _ (by rw [imin_eq, imax_eq]; omega) (by rw [imin_eq, imax_eq]; omega) hv).mono ?_
  rintro e w2 ⟨b, rfl, hbf, HP, hb⟩
  replace HX := HX.later hb; replace HW := below_step HW hb
  clear hb
  have hHX := HX.lt
  unfold plV
  go_wp2_with fail
  generalize hw3 : w2.alloc (.cells #[.int .i64 (W : Int), .int .i64 (H : Int), .slice (some ⟨b, 0, none⟩) (W * H) (W * H)] PLT) = w3
  have HO : Ob w3 w2.heap.size PLT (plC W H b (W * H) (W * H)) := by rw [← hw3]; exact Ob.new_at _ _ rfl
  replace HX : Blk w3 w.heap.size 44 64 (ival put) := by rw [← hw3]; exact HX.alloc _
  have hbq := HP.lt
  replace HP : PB w3 b (W * H) (mixF 0 v ls sl) := by rw [← hw3]; exact (HP.alloc _).congr (fun k _ => by simp [mixF])
  replace HW : Below w.heap.size w w3 := by rw [← hw3]; exact HW.alloc HW.size _
  have hbw : w.heap.size < b := by
    have := hbf; omega
  clear hw3 hbf hX1w
  generalize w2.heap.size = q at *
  clear w2 w1
  go_loopw [64] (fun i wr => ∃ k : Nat, k ≤ W * H ∧ i = .int .i64 k ∧ Ob wr q PLT (plC W H b (W * H) (W * H)) ∧ Blk wr w.heap.size 44 64 (ival put) ∧ PB wr b (W * H) (mixF k v ls sl) ∧ Below w.heap.size w wr) (fun i _ => W * H - (intOf i).toNat)
  case atStart => exact ⟨0, by omega, rfl, HO, HX, HP, HW⟩
  case round =>
    clear HO HX HP HW
    obtain ⟨k, hk, rfl, HO, HX, HP, HW⟩ := hrel
    have c2 := HO.plS
    by_cases hlt : k < W * H
    · have hd : decide ((k : Int) < (W : Int) * (H : Int)) = true := by
        have : ((k : Nat) : Int) < ((W * H : Nat) : Int) := by omega
        simpa using this
      have c3 : wr.cell? ⟨b, k, none⟩ = some (.int .u8 v) := by rw [HP.cell hlt]; simp [mixF]
      have f3 := HP.free k
      by_cases hks : k < ls
      · have hbd := hsb.out k hks
        have hup : ∀ j, (if j = k then sl k else mixF k v ls sl j) = mixF (k + 1) v ls sl j := by
          intro j; unfold mixF
          by_cases e : j = k
          · subst e; simp [hks]
          · by_cases e2 : j < k
            · simp [e, e2, show j < k + 1 by omega]
            · simp [e, e2, show ¬ j < k + 1 by omega]
        replace hup := Lib.hid hup
        obtain ⟨bs, os, rfl, hbs, hcs⟩ : ∃ bs os, p = some ⟨bs, os, none⟩ ∧ bs < w.heap.size ∧ ∀ k, k < ls → w.cell? ⟨bs, os + k, none⟩ = some (u8v sl k) := by
          rcases hS.out with h | h
          · omega
          · exact h
        have c4 : wr.cell? ⟨bs, os + k, none⟩ = some (.int .u8 (sl k)) := by rw [HW.cell (p := ⟨bs, os + k, none⟩) hbs]; exact hcs k hks
        clear hcs
        have hk1 : (k : Int) < (W : Int) * (H : Int) := by simpa using hd
        have hk2 : (k : Int) < (ls : Int) := by omega
        go_wp2_with fail
        apply wp_region_tail_drew 8
        case hm => kernel_rfl
        case hB => kernel_rfl
        case hno => kernel_rfl
        case hF =>
          simp only [List.take_succ_cons, List.take_zero]
          repeat (go_big_quiet_step (fail))
          exact wpQuiet_nil rfl
        case hT =>
          intro nq
          simp only [List.drop_succ_cons, List.drop_zero]
          replace HO := HO.drewN nq; replace HX := HX.drewN nq; replace HP := HP.drewN nq; replace HW := below_drewN HW nq; replace f3 : (wr.drewN nq).frozen? ⟨b, k, none⟩ = false := f3; replace c3 : (wr.drewN nq).cell? ⟨b, k, none⟩ = some (.int .u8 v) := c3
          clear c2 c4
          generalize wr.drewN nq = w4 at *
          go_wp2_with fail
          exact ⟨⟨k + 1, by omega, by go_num, HO.other (by omega) _ _, HX.other (by omega) _ _, (HP.set k (sl k) hbd).congr (fun j _ => hup.out j), HW.setCell (by simp; omega) _⟩, by simp [intOf]; omega⟩
      · have hup : ∀ j, mixF k v ls sl j = mixF (k + 1) v ls sl j := by
          intro j; unfold mixF
          by_cases e : j < ls
          · by_cases e2 : j < k
            · simp [e, e2, show j < k + 1 by omega]
            · simp [e, e2, show ¬ j < k + 1 by omega]
          · simp [e]
        replace hup := Lib.hid hup
        go_wp2_with fail
        exact ⟨⟨k + 1, by omega, by go_num, HO, HX, HP.congr (fun j _ => hup.out j), HW⟩, by simp [intOf]; omega⟩
    · obtain rfl : k = W * H := by omega
      go_wp2_with (refine wpList_load_ob_g HO rfl _ _ rfl rfl Try.underlying46 (by kernel_rfl) ?_)
      replace hA := Lib.hid hA; replace hB := Lib.hid hB; replace hX := Lib.hid hX; replace hY := Lib.hid hY
      refine (block_any W H b _ _ _ _ _ (by omega) (by omega) HP (by omega) (by omega) (by omega) (by omega)).mono ?_
      rintro e w5 ⟨rfl, hb⟩
      replace HO := HO.later hb; replace HX := HX.later hb; replace HP := HP.later hb; replace HW := below_step HW hb
      clear hb c2
      go_wp2_with (first | (refine wpList_alloc_blk rfl 44 rfl _ _ alloc28 ?_) | (refine wpList_store_blk (Blk.new_at _ _ _ rfl) rfl _ _ _ rfl rfl rfl (by kernel_rfl) (fun j _ => rfl) ?_))
      generalize hs : mixF (W * H) v ls sl = s at *
      replace hs := Lib.hid hs
      generalize hw6 : (w5.alloc (.cells (fcells 64 (ival fun _ => 0)) 44)).setRow w5.heap.size (fcells 64 (ival (blockF W H s X Y))) = w6
      have HZ : Blk w6 w5.heap.size 44 64 (ival (blockF W H s X Y)) := by rw [← hw6]; exact (Blk.new_at _ _ _ rfl).setRow_same rfl
      have hO := HO.lt; have hX := HX.lt; have hP := HP.lt
      replace HO : Ob w6 q PLT (plC W H b (W * H) (W * H)) := by rw [← hw6]; exact (HO.alloc _).setRow (by omega) _
      replace HX : Blk w6 w.heap.size 44 64 (ival put) := by rw [← hw6]; exact (HX.alloc _).setRow (by omega) _
      replace HP : PB w6 b (W * H) s := by rw [← hw6]; exact (HP.alloc _).setRow (by omega) _
      replace HW : Below w.heap.size w w6 := by rw [← hw6]; exact below_setRow (HW.alloc HW.size _) HW.size _
      clear hw6
      generalize w5.heap.size = z at *
      clear w5 wr
      go_loopw [98] (fun i wr => ∃ k : Nat, k ≤ 64 ∧ i = .int .i64 k ∧ Ob wr q PLT (plC W H b (W * H) (W * H)) ∧ Blk wr w.heap.size 44 64 (ival put) ∧ PB wr b (W * H) s ∧ Blk wr z 44 64 (ival (blockF W H s X Y)) ∧ Below w.heap.size w wr) (fun i _ => 64 - (intOf i).toNat)
      case atStart => exact ⟨0, by omega, rfl, HO, HX, HP, HZ, HW⟩
      case round =>
        clear HO HX HP HZ HW
        obtain ⟨k, hk, rfl, HO, HX, HP, HZ, HW⟩ := hrel
        by_cases hk8 : k < 64
        · have hd : decide ((k : Int) < 64) = true := by simp; omega
          have i1 : (0 : Int) ≤ k := by omega
          have i2 : (k : Int) < 64 := by omega
          obtain ⟨hb1, hb2⟩ := plAt_bd HP (X + (k : Int) % 8) (Y + (k : Int) / 8)
          have c0 := fun p => (HO.re p).plW
          have c1 := fun p => (HO.re p).plH
          have c2 := fun p => (HO.re p).plS
          have c3 : ∀ p : Regrown, (Sort.grow (redrawn wr p.d) p.os).cell? ⟨z, k, none⟩ = some (.int .i64 (plAt W H s (X + (k : Int) % 8) (Y + (k : Int) / 8))) := fun p => by
            have := (HZ.re p).cell hk8; simpa [ival, blockF] using this
          go_wp2_with fail
          refine wp_region_quiet_below (by kernel_rfl) (by kernel_rfl) ?_
          repeat (go_big_quiet_step (first | (go_at_call 29; exact Calls.regrown_of ((readsAt_any W H b _ q s _ _ _ (by omega) (by omega) (HP.later (below_regrown _ _ _)) (HO.later (below_regrown _ _ _))).mono fun _ _ h => ⟨h.1, h.2 ▸ Below.refl _ _⟩)) | (go_at_call 31; exact Calls.regrown_of (at_any W H b _ s _ _ _ (by omega) (by omega) (HP.later (below_regrown _ _ _))))))
          refine wpQuiet_nil ?_
          intro wq hwq
          replace hwq := Cls.below hwq
          replace HO := HO.later hwq; replace HX := HX.later hwq; replace HP := HP.later hwq; replace HZ := HZ.later hwq; replace HW := below_step HW hwq
          clear hwq c0 c1 c2 c3
          go_wp2_with fail
          exact ⟨⟨k + 1, by omega, by go_num, HO, HX, HP, HZ, HW⟩, by simp [intOf]; omega⟩
        · obtain rfl : k = 64 := by omega
          clear HZ
          have s1 := HO.lt; have s2 := HX.lt; have s3 := HP.lt
          go_wp2_with fail
          apply wp_region_grow1 10 [4, 7, 8] 9 20 PLT #[.int .i64 0, .int .i64 0, .slice none 0 0]
          case hm => kernel_rfl
          case hB => kernel_rfl
          case hp => kernel_rfl
          case hlo => kernel_rfl
          case hop => kernel_rfl
          case hz => intro W; kernel_rfl
          case hF =>
            intro w1 hw1
            have c0 := fun p => ((HO.later hw1).re p).plW
            have c1 := fun p => ((HO.later hw1).re p).plH
            have c2 := fun p => ((HO.later hw1).re p).plS
            simp only [List.take_succ_cons, List.take_zero, muteG, mute, isAlloc, neutral, List.contains_cons, List.contains_nil, Nat.reduceAdd, Nat.zero_add, Nat.reduceBEq, Bool.or_self, Bool.or_false, Bool.or_true, ↓reduceIte, Bool.false_eq_true]
            repeat (go_big_quiet_step (fail))
            exact wpQuiet_nil rfl
          case hG =>
            simp only [List.filterMap_cons, List.filterMap_nil, List.getElem?_toArray, List.getElem?_cons_succ, List.getElem?_cons_zero]
            intro w1 hw1
            replace HO := HO.later hw1; replace HX := HX.later hw1; replace HP := HP.later hw1; replace HW := below_step HW hw1
            have hws := hw1.size
            clear hw1
            go_wp2_with fail
            refine ⟨rfl, by ((repeat (first | exact Below.refl _ _ | assumption | refine Below.setCell ?_ (by first | omega | (simp; done) | (simp; omega)) _ | refine Below.alloc ?_ (by first | omega | (simp; done) | (simp; omega)) _ | refine below_drewN ?_ _ | refine Below.drew ?_ | refine below_setRow ?_ (by first | omega | (simp; done) | (simp; omega)) _))), ?_⟩
            have HE : VB (w1.alloc (.cells #[] 5)) w1.heap.size 5 0 (fun _ => undef) := ⟨0, fun _ => undef, Nat.le_refl _, Blk.new_at (w := w1) _ 0 _ rfl, fun k hk => by omega⟩
            generalize hw0 : w1.alloc (.cells #[] 5) = w1' at *
            replace HO : Ob w1' q PLT (plC W H b (W * H) (W * H)) := by rw [← hw0]; exact HO.alloc _
            replace HX : Blk w1' w.heap.size 44 64 (ival put) := by rw [← hw0]; exact HX.alloc _
            replace HP : PB w1' b (W * H) s := by rw [← hw0]; exact HP.alloc _
            have hgw := HW.size
            replace HW : Below w.heap.size w w1' := by rw [← hw0]; exact HW.alloc HW.size _
            clear hw0
            generalize w1.heap.size = g at *
            intro w2 hw2
            have hgl := HE.lt
            have hgl2 := hw2.size
            replace HE := HE.later hw2; replace HO := HO.later hw2; replace HX := HX.later hw2; replace HP := HP.later hw2; replace HW := below_step HW hw2
            clear hw2
            go_wp2_with (refine wpList_append_copy rfl _ _ _ rfl 5 (.int .u8 0) 1 Try.underlying43 infoU8 rfl g rfl _ HE b (W * H) (W * H) (u8v s) rfl HP.vb (fun _ _ => rfl) (by unfold maxLen; omega) (by omega) ?_)
            intro g' cap w3 hg' hV hb3
            go_wp2_with fail
            refine ⟨rfl, hb3, ?_⟩
            replace HO := HO.later hb3; replace HX := HX.later hb3; replace HP := HP.later hb3; replace HW := below_step HW hb3
            intro w4 hw4
            go_wp2_with fail
            refine ⟨rfl, Below.refl _ _, ?_⟩
            intro w5 hw5 b' hb' HQ
            simp only [ptrAt, List.setIfInBounds_toArray, List.set_cons_succ, List.set_cons_zero]
            replace HO := (HO.later hw4).later hw5; replace HX := (HX.later hw4).later hw5; replace HP := (HP.later hw4).later hw5; replace HW := below_step (below_step HW hw4) hw5
            have HV : PB w5 g' (W * H) s := ⟨(hV.later hw4).later hw5, HP.bd⟩
            clear hw4 hw5 hb3 hV HE
            have n1 : b' ≠ g' := HQ.ne_vb HV.vb (by decide)
            obtain ⟨x1, x2⟩ := tmod_bd X 50 (by omega)
            obtain ⟨y1, y2⟩ := tmod_bd Y 50 (by omega)
            go_wp2_with (first | (refine wpList_store_ob HQ rfl _ _ _ rfl rfl _ rfl (by kernel_rfl) rfl rfl ?_) | (refine wpList_load_ob_g (HQ.setRow_same _) rfl _ _ rfl rfl Try.underlying46 (by kernel_rfl) ?_) | (refine wpList_load_blk_g (HX.setRow (c := b') (by omega) _) rfl _ _ rfl rfl und28 (by kernel_rfl) ?_))
            generalize X.tmod 50 = px at *
            generalize Y.tmod 50 = py at *
            replace HO := HO.setRow (c := b') (by omega) (plC W H g' (W * H) cap); replace HX := HX.setRow (c := b') (by omega) (plC W H g' (W * H) cap); replace HP := HP.setRow (c := b') (by omega) (plC W H g' (W * H) cap)
            replace HV := HV.setRow n1 (plC W H g' (W * H) cap); replace HQ := HQ.setRow_same (plC W H g' (W * H) cap); replace HW := below_setRow HW (show w.heap.size ≤ b' by omega) (plC W H g' (W * H) cap)
            refine (put_any W H g' cap s put px py _ (by omega) (by omega) ?_ (by omega) (by omega) (by omega) (by omega)).mono ?_
            · exact HV
            rintro e w7 ⟨rfl, HV7, hWr⟩
            have m1 : q ≠ g' := by omega
            have m2 : w.heap.size ≠ g' := by omega
            have m3 : b ≠ g' := by omega
            have m4 : w.heap.size ≤ g' := by omega
            replace HO := HO.wr hWr m1; replace HX := HX.wr hWr m2; replace HP := HP.wr hWr m3; replace HQ := HQ.wr hWr n1; replace HW := hWr.below HW m4
            have HV := HV7
            clear HV7 hWr
            clear hg' m1 m2 m3 m4 n1 hws hgl hgl2 hgw s1 s2 s3
            have c1 := HO.plH
            go_wp2_with fail
            clear c1
            go_loopw [160] (fun i wr => ∃ j : Nat, j ≤ H ∧ i = .int .i64 j ∧ Ob wr q PLT (plC W H b (W * H) (W * H)) ∧ Blk wr w.heap.size 44 64 (ival put) ∧ PB wr b (W * H) s ∧ Ob wr b' PLT (plC W H g' (W * H) cap) ∧ PB wr g' (W * H) (putF W H s px py put 64) ∧ Below w.heap.size w wr) (fun i _ => H - (intOf i).toNat)
            case atStart => exact ⟨0, by omega, rfl, HO, HX, HP, HQ, HV, HW⟩
            case round =>
              clear HO HX HP HQ HV HW
              rename_i wr2
              obtain ⟨j, hj, rfl, HO, HX, HP, HQ, HV, HW⟩ := hrel
              have c0 := HO.plW
              by_cases hj8 : j < H
              · have hd : decide ((j : Int) < (H : Int)) = true := by simp; omega
                go_wp2_with fail
                clear c0
                go_loopw [165] (fun i wr => ∃ k : Nat, k ≤ W ∧ i = .int .i64 k ∧ Ob wr q PLT (plC W H b (W * H) (W * H)) ∧ Blk wr w.heap.size 44 64 (ival put) ∧ PB wr b (W * H) s ∧ Ob wr b' PLT (plC W H g' (W * H) cap) ∧ PB wr g' (W * H) (putF W H s px py put 64) ∧ Below w.heap.size w wr) (fun i _ => W - (intOf i).toNat)
                case atStart => exact ⟨0, by omega, rfl, HO, HX, HP, HQ, HV, HW⟩
                case round =>
                  clear HO HX HP HQ HV HW
                  obtain ⟨i, hi, rfl, HO, HX, HP, HQ, HV, HW⟩ := hrel
                  by_cases hi8 : i < W
                  · have hidx : j * W + i < W * H := by
                      have := set_idx (W := W) (H := H) (x := (i : Int)) (y := (j : Int)) (by omega)
                      simpa using this
                    have hp := putF_at (s := s) (p := put) (px := px) (py := py) hi8 hj8 64 (Nat.le_refl _)
                    have cs := HP.cell hidx
                    have cv := HV.cell hidx
                    obtain ⟨sb1, sb2⟩ := HP.bd hidx
                    have c0 := HO.plW
                    have c1 := HO.plS
                    have c2 : wr.cell? ⟨b', 2, none⟩ = some (.slice (some ⟨g', 0, none⟩) (W * H) cap) := HQ.plS
                    have hd : decide ((i : Int) < (W : Int)) = true := by simp; omega
                    have hm : j * W ≤ 1048576 := by omega
                    have i1 : (0 : Int) ≤ i := by omega
                    have i2 : (0 : Int) ≤ j := by omega
                    have i3 : (i : Int) < 40 := by omega
                    have i4 : (j : Int) < 40 := by omega
                    by_cases h1 : px ≤ i
                    · by_cases h2 : (i : Int) < px + 8
                      · by_cases h3 : py ≤ j
                        · by_cases h4 : (j : Int) < py + 8
                          · rw [if_pos (by omega)] at hp
                            rw [hp] at cv
                            obtain ⟨x, hx, hx64⟩ : ∃ x : Nat, 8 * ((j : Int) - py) + i - px = x ∧ x < 64 := ⟨(8 * ((j : Int) - py) + i - px).toNat, by omega, by omega⟩
                            rw [hx, Int.toNat_natCast] at cv
                            have hsat : sat (put x) = imin (imax (put x) 0) 255 := by unfold sat; simp only [imin_eq, imax_eq]; omega
                            obtain ⟨sb3, sb4⟩ := sat_bd (put x)
                            rw [hsat] at cv sb3 sb4
                            have c3 : wr.cell? ⟨w.heap.size, x, none⟩ = some (.int .i64 (put x)) := HX.cell hx64
                            clear hp hsat
                            go_wp2_with fail
                            exact ⟨⟨i + 1, by omega, by go_num, HO, HX, HP, HQ, HV, HW⟩, by simp [intOf]; omega⟩
                          · rw [if_neg (by omega)] at hp
                            rw [hp] at cv
                            clear hp
                            have e : decide ((j : Int) < py + 8) = false := by simpa using h4
                            go_wp2_with fail
                            exact ⟨⟨i + 1, by omega, by go_num, HO, HX, HP, HQ, HV, HW⟩, by simp [intOf]; omega⟩
                        · rw [if_neg (by omega)] at hp
                          rw [hp] at cv
                          clear hp
                          have e : decide (py ≤ (j : Int)) = false := by simpa using h3
                          go_wp2_with fail
                          exact ⟨⟨i + 1, by omega, by go_num, HO, HX, HP, HQ, HV, HW⟩, by simp [intOf]; omega⟩
                      · rw [if_neg (by omega)] at hp
                        rw [hp] at cv
                        clear hp
                        have e : decide ((i : Int) < px + 8) = false := by simpa using h2
                        go_wp2_with fail
                        exact ⟨⟨i + 1, by omega, by go_num, HO, HX, HP, HQ, HV, HW⟩, by simp [intOf]; omega⟩
                    · rw [if_neg (by omega)] at hp
                      rw [hp] at cv
                      clear hp
                      have e : decide (px ≤ (i : Int)) = false := by simpa using h1
                      go_wp2_with fail
                      exact ⟨⟨i + 1, by omega, by go_num, HO, HX, HP, HQ, HV, HW⟩, by simp [intOf]; omega⟩
                  · obtain rfl : i = W := by omega
                    go_wp2_with fail
                    exact ⟨⟨j + 1, by omega, by go_num, HO, HX, HP, HQ, HV, HW⟩, by simp [intOf]; omega⟩
              · obtain rfl : j = H := by omega
                go_wp2_with fail
                go_ret
                exact ⟨rfl, HW⟩
end Go.Proofs.Ytggdaefgaakijaa

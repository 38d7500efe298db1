/- The walk of the law ConcealAgain: true at every input. -/
import Derived.Test.YtbldgpemocnboaaConM
namespace Go.Proofs.Ytbldgpemocnboaa
open Go.RowKit Go.Sort
attribute [local go_sem ↓] run_imax run_imin

/-- The maps so far: as told, or the macroblock itself; the other one: elsewhere than in its column by another list. -/
def agX (ls : Nat) (bad : Nat → Bool) (N j : Nat) : Bool := flF ls bad j || decide (j = N)
def agA (k ls : Nat) (bad : Nat → Bool) (N j : Nat) : Bool := decide (j < k) && agX ls bad N j
def agO (k c ls lm : Nat) (bad more : Nat → Bool) (N j : Nat) : Bool := decide (j < k) && (if j % c = N % c then agX ls bad N j else flF lm more j)
theorem agA_zero {ls N j : Nat} {bad : Nat → Bool} : agA 0 ls bad N j = false := by unfold agA; simp
theorem agO_zero {c ls lm N j : Nat} {bad more : Nat → Bool} : agO 0 c ls lm bad more N j = false := by unfold agO; simp
theorem agA_step {M k ls N : Nat} {bad : Nat → Bool} {X : Bool} (hk : k < M) (hX : agX ls bad N k = X) (j : Nat) : updB M (agA k ls bad N) (k : Int) X j = agA (k + 1) ls bad N j := by
  unfold updB agA
  by_cases e : j = k
  · subst e; simp [hk, hX]
  · have : decide (j < k + 1) = decide (j < k) := by rw [decide_eq_decide]; omega
    simp [e, this]
theorem agO_in {M k c ls lm N : Nat} {bad more : Nat → Bool} {X : Bool} (hk : k < M) (hX : agX ls bad N k = X) (he : k % c = N % c) (j : Nat) : updB M (agO k c ls lm bad more N) (k : Int) X j = agO (k + 1) c ls lm bad more N j := by
  unfold updB agO
  by_cases e : j = k
  · subst e; simp [hk, hX, he]
  · have : decide (j < k + 1) = decide (j < k) := by rw [decide_eq_decide]; omega
    simp [e, this]
theorem agO_out {M k c ls lm N : Nat} {bad more : Nat → Bool} {X Y : Bool} (hk : k < M) (hY : flF lm more k = Y) (he : k % c ≠ N % c) (j : Nat) : updB M (updB M (agO k c ls lm bad more N) (k : Int) X) (k : Int) Y j = agO (k + 1) c ls lm bad more N j := by
  unfold updB agO
  by_cases e : j = k
  · subst e; simp [hk, hY, he]
  · have : decide (j < k + 1) = decide (j < k) := by rw [decide_eq_decide]; omega
    simp [e, this]
theorem has_agA {M k ls N : Nat} {bad : Nat → Bool} {X : Bool} (hk : k < M) (hX : agX ls bad N k = X) : dmHas M (agA (k + 1) ls bad N) (k : Int) = X := by
  rw [has_row hk]; unfold agA; simp [hX]
theorem agX_t {ls N k : Nat} {bad : Nat → Bool} (h : k < ls) (hb : bad k = true) : agX ls bad N k = true := by unfold agX flF; simp [h, hb]
theorem agX_f {ls N k : Nat} {bad : Nat → Bool} (h : k < ls) (hb : bad k = false) : agX ls bad N k = decide (k = N) := by unfold agX flF; simp [h, hb]
theorem agX_o {ls N k : Nat} {bad : Nat → Bool} (h : ¬ k < ls) : agX ls bad N k = decide (k = N) := by unfold agX flF; simp [h]
theorem flF_in {ls k : Nat} {bad : Nat → Bool} (h : k < ls) : flF ls bad k = bad k := by unfold flF; simp [h]
theorem flF_o {ls k : Nat} {bad : Nat → Bool} (h : ¬ k < ls) : flF ls bad k = false := by unfold flF; simp [h]
theorem dmHas_is {C R b n c : Nat} {f : Nat → Bool} {mb : Int} {w : World} {r : Bool} (hr : dmHas n f mb = r) (hB : VB w b 4 n (blv f)) :
    Calls Try.prog 46 #[dmV C R b n c, .int .i64 mb] w fun e w' => e = .returned (.bool r) ∧ Below w.heap.size w w' := by
  rw [← hr]; exact dmHas_any C R b n c f mb w hB
/-- A cell of a list, in whatever world a quiet region makes. -/
theorem list_cell {w0 w : World} {b o n : Nat} {f : Nat → Value} (hb : b < w0.heap.size) (hc : ∀ k, k < n → w0.cell? ⟨b, o + k, none⟩ = some (f k)) (HW : Below w0.heap.size w0 w) {k : Nat} (hk : k < n) (p : Regrown) :
    (Sort.grow (redrawn w p.d) p.os).cell? ⟨b, o + k, none⟩ = some (f k) := by
  rw [(below_step HW (below_regrown w p.d p.os)).cell (p := ⟨b, o + k, none⟩) hb]; exact hc k hk

set_option maxRecDepth 1000000 in
set_option maxHeartbeats 16000000 in
theorem conAgain_walk (co ro ki a b c sd : Int) (p : Option Addr) (n m : Nat) (sl : Nat → Int) (p1 : Option Addr) (ls lc : Nat) (bad : Nat → Bool) (p2 : Option Addr) (lm lmc : Nat) (more : Nat → Bool) (mb : Int) (w : World)
    (hw : SmallW co ro ki a b c sd n sl) (hn : n ≤ maxLen) (hS : SL w p n (u8v sl)) (hls : ls ≤ maxLen) (hS1 : SL w p1 ls (blv bad)) (hlm : lm ≤ maxLen) (hS2 : SL w p2 lm (blv more)) (hmb : 0 ≤ mb ∧ mb ≤ 255) :
    Calls Try.prog 6 #[smV co ro ki a b c sd p n m, .slice p1 ls lc, .slice p2 lm lmc, .int .u8 mb] w fun e w' => e = .returned (.bool true) ∧ Below w.heap.size w w' := by
  replace hw := Lib.hid hw; replace hS := Lib.hid hS; replace hS1 := Lib.hid hS1; replace hS2 := Lib.hid hS2
  have hls2 : ls ≤ 9223372036854775807 := by unfold maxLen at hls; omega
  have hlm2 : lm ≤ 9223372036854775807 := by unfold maxLen at hlm; omega
  obtain ⟨hmb0, hmb1⟩ := hmb
  have HB0 : Ob (w.alloc (.cells (smC co ro ki a b c sd p n m) SMT)) w.heap.size SMT (smC co ro ki a b c sd p n m) := Ob.new_at _ _ rfl
  unfold smV
  unfold smC at *
  go_enter Try.func6, Try.ntmps6
  go_wp2_with fail
  have HW : Below w.heap.size w (w.alloc (.cells (smC co ro ki a b c sd p n m) SMT)) := by ((repeat (first | exact Below.refl _ _ | assumption | refine Below.setCell ?_ (by first | omega | (simp; done) | (simp; omega)) _ | refine Below.alloc ?_ (by first | omega | (simp; done) | (simp; omega)) _ | refine below_drewN ?_ _ | refine Below.drew ?_ | refine below_setRow ?_ (by first | omega | (simp; done) | (simp; omega)) _)))
  unfold smC at HW
  refine (awake26 _).mono ?_
  rintro e w1 ⟨rfl, hb⟩
  have HB := HB0.later hb
  clear HB0
  replace HW := below_step HW hb
  clear hb
  go_wp2_with (refine wpList_load_ob_g HB rfl 38 _ rfl rfl Try.underlying38 (by kernel_rfl) ?_)
  refine (light_any co ro ki a b c sd p n m _ hn).mono ?_
  rintro e w2 ⟨rfl, hb⟩
  replace HB := HB.later hb; replace HW := below_step HW hb
  clear hb
  by_cases hn2 : n ≤ 2000
  case neg =>
    have hd : decide (n ≤ 2000) = false := by simpa using hn2
    go_wp2_with fail
    go_ret
    exact ⟨rfl, HW⟩
  have hd : decide (n ≤ 2000) = true := by simpa using hn2
  by_cases hbig : 100 < ls
  · go_wp2_with fail
    go_ret
    exact ⟨rfl, HW⟩
  by_cases hbig2 : 100 < lm
  · go_wp2_with fail
    go_ret
    exact ⟨rfl, HW⟩
  go_wp2_with (refine wpList_load_ob_g HB rfl 38 _ rfl rfl Try.underlying38 (by kernel_rfl) ?_)
  clear hd
  refine (smallW_any hw.out hn2 (sl_later hS.out HW)).mono ?_
  rintro e w3 ⟨f, rfl, f1, f2, f3, f4, hM, -, hb⟩
  replace HW := below_step HW hb
  clear hb HB
  have hc8 := hM.hc; have hr8 := hM.hr
  unfold Fr.val
  go_wp2_with (refine wpList_store_stop (Ob.new_at (w := w3) FRT frZ rfl) rfl _ _ _ rfl rfl f.cells rfl (by kernel_rfl) rfl rfl ?_)
  intro w5 hw5
  have HF := cell_ob hw5.out
  replace hM := cell_mem hw5.out hM
  replace HW := cell_below hw5.out HW HW.size
  clear hw5
  generalize w3.heap.size = q at *
  obtain ⟨M, hMe⟩ : ∃ M, f.c * f.r = M := ⟨_, rfl⟩
  have hM0 : 0 < M := by rw [← hMe]; exact Nat.mul_pos (by omega) (by omega)
  have hM9 : M ≤ 9 := by rw [← hMe]; exact Nat.mul_le_mul f2 f4
  obtain ⟨N, hN1, hN2⟩ := mb_of mb hM0 hmb0
  have hMi : (f.c : Int) * (f.r : Int) = (M : Int) := by rw [← Int.natCast_mul, hMe]
  have ub0 := HW.size; have ub1 := HF.lt; have ub2 := hM.y.lt; have ub3 := hM.u.lt; have ub4 := hM.v.lt
  go_wp2_with fail
  apply wp_region_grow2 12 [4, 9] 10 10 11 11 DMT DMT dmZ dmZ
  case hm => kernel_rfl
  case hB => kernel_rfl
  case hp => kernel_rfl
  case hlo => kernel_rfl
  case hne => decide
  case hop1 => kernel_rfl
  case hop2 => kernel_rfl
  case hz1 => intro W; kernel_rfl
  case hz2 => intro W; kernel_rfl
  case hF =>
    intro wx hwx
    have c0 := fun p => ((HF.later hwx).re p).fC
    have c1 := fun p => ((HF.later hwx).re p).fR
    have c2 := fun p => ((HF.later hwx).re p).fYW
    have c3 := fun p => ((HF.later hwx).re p).fYH
    have c4 := fun p => ((HF.later hwx).re p).fYS
    have c5 := fun p => ((HF.later hwx).re p).fUW
    have c6 := fun p => ((HF.later hwx).re p).fUH
    have c7 := fun p => ((HF.later hwx).re p).fUS
    have c8 := fun p => ((HF.later hwx).re p).fVW
    have c9 := fun p => ((HF.later hwx).re p).fVH
    have c10 := fun p => ((HF.later hwx).re p).fVS
    simp only [List.take_succ_cons, List.take_zero, muteG, mute, isAlloc, neutral, List.contains_cons, List.contains_nil, Nat.reduceAdd, Nat.zero_add, Nat.reduceBEq, Bool.or_self, Bool.or_false, Bool.or_true, ↓reduceIte, Bool.false_eq_true]
    repeat (go_big_quiet_step (fail))
    exact wpQuiet_nil rfl
  case hG =>
    simp only [List.filterMap_cons, List.filterMap_nil, List.getElem?_toArray, List.getElem?_cons_succ, List.getElem?_cons_zero]
    intro w6 hw6
    have us6 := hw6.size
    replace HF := HF.later hw6; replace hM := hM.later hw6; replace HW := below_step HW hw6
    clear hw6
    go_wp2_with fail
    refine (dmNew_any _ _ false f.c f.r _ (by rw [imin_eq, imax_eq]; omega) (by rw [imin_eq, imax_eq]; omega)).mono ?_
    rintro e w7 ⟨b1, rfl, hb1, V1, hb⟩
    have us7 := V1.lt
    replace HF := HF.later hb; replace hM := hM.later hb; replace HW := below_step HW hb
    unfold dmV dmC
    go_wp2_with fail
    refine ⟨rfl, hb, ?_⟩
    clear hb
    intro w8 hw8
    have us8 := hw8.size
    replace HF := HF.later hw8; replace hM := hM.later hw8; replace V1 := V1.later hw8; replace HW := below_step HW hw8
    clear hw8
    go_wp2_with fail
    refine (dmNew_any _ _ false f.c f.r _ (by rw [imin_eq, imax_eq]; omega) (by rw [imin_eq, imax_eq]; omega)).mono ?_
    rintro e w9 ⟨b2, rfl, hb2, V2, hb⟩
    have us9 := V2.lt
    replace HF := HF.later hb; replace hM := hM.later hb; replace V1 := V1.later hb; replace HW := below_step HW hb
    unfold dmV dmC
    go_wp2_with fail
    refine ⟨rfl, hb, ?_⟩
    clear hb
    intro w10 hw10 q1 q2 hq1 hq2 hq3 H1 H2
    simp only [ptrAt]
    replace HF := HF.later hw10; replace hM := hM.later hw10; replace V1 := V1.later hw10; replace V2 := V2.later hw10; replace HW := below_step HW hw10
    clear hw10
    rw [hMe] at V1 V2
    have hq4 : q1 ≠ b1 := H1.ne_vb V1 (by decide)
    have hq5 : q1 ≠ b2 := H1.ne_vb V2 (by decide)
    have hq6 : q2 ≠ b1 := H2.ne_vb V1 (by decide)
    have hq7 : q2 ≠ b2 := H2.ne_vb V2 (by decide)
    refine wpList_store_ob H1 rfl _ _ _ rfl rfl (dmC f.c f.r b1 M M) rfl (by kernel_rfl) rfl rfl ?_
    simp only [Act.put]
    refine wpList_store_ob (H2.setRow hq3 _) rfl _ _ _ rfl rfl (dmC f.c f.r b2 M M) rfl (by kernel_rfl) rfl rfl ?_
    generalize hwB : (w10.setRow q1 (dmC f.c f.r b1 M M)).setRow q2 (dmC f.c f.r b2 M M) = wB
    replace HF : Ob wB q FRT f.cells := by rw [← hwB]; exact (HF.setRow (by omega) _).setRow (by omega) _
    replace hM : f.Mem wB := by rw [← hwB]; exact (hM.setRow (by omega) (by omega) (by omega) _).setRow (by omega) (by omega) (by omega) _
    replace HW : Below w.heap.size w wB := by rw [← hwB]; exact below_setRow (below_setRow HW (by omega) _) (by omega) _
    replace V1 : VB wB b1 4 M (blv (agA (0) ls bad N)) := by rw [← hwB]; exact ((V1.setRow hq4 _).setRow hq6 _).congr (fun j _ => by unfold blv; rw [agA_zero])
    replace V2 : VB wB b2 4 M (blv (agO (0) f.c ls lm bad more N)) := by rw [← hwB]; exact ((V2.setRow hq5 _).setRow hq7 _).congr (fun j _ => by unfold blv; rw [agO_zero])
    replace H2 : Ob wB q2 DMT (dmC f.c f.r b2 M M) := by rw [← hwB]; exact (H2.setRow hq3 _).setRow_same _
    replace H1 : Ob wB q1 DMT (dmC f.c f.r b1 M M) := by rw [← hwB]; exact (H1.setRow_same _).setRow (Ne.symm hq3) _
    have hwb1 : w.heap.size ≤ b1 := by omega
    have hwb2 : w.heap.size ≤ b2 := by omega
    have hb12 : b1 ≠ b2 := by omega
    clear hwB ub0 ub1 ub2 ub3 ub4 us6 us7 us8 us9 hb1 hb2 hq1 hq2
    have hN3 : mb.tmod ((f.c : Int) * (f.r : Int)) = (N : Int) := by rw [hMi]; exact hN1
    have hz0 : ((f.c : Int) * (f.r : Int) == 0) = false := by rw [hMi]; simp; omega
    have hp0 : 0 < (f.c : Int) * (f.r : Int) := by rw [hMi]; omega
    have hp1 : (f.c : Int) * (f.r : Int) ≤ 9 := by rw [hMi]; omega
    replace hMe := Lib.hid hMe; replace hMi := Lib.hid hMi; replace hN1 := Lib.hid hN1
    have g0 := HF.fC; have g1 := HF.fR; have g2 := H1.mS
    go_wp2_with fail
    clear g0 g1 g2 hN3 hz0 hp0 hp1
    go_loopw [55] (fun i wr => ∃ k : Nat, k ≤ M ∧ i = .int .i64 k ∧ Ob wr q FRT f.cells ∧ Ob wr q1 DMT (dmC f.c f.r b1 M M) ∧ Ob wr q2 DMT (dmC f.c f.r b2 M M) ∧ VB wr b1 4 M (blv (agA (k) ls bad N)) ∧ VB wr b2 4 M (blv (agO (k) f.c ls lm bad more N)) ∧ f.Mem wr ∧ Below w.heap.size w wr) (fun i _ => M - (intOf i).toNat)
    case atStart => exact ⟨0, by omega, rfl, HF, H1, H2, V1, V2, hM, HW⟩
    case round =>
      clear HF H1 H2 V1 V2 hM HW
      obtain ⟨k, hk, rfl, HF, H1, H2, V1, V2, hM, HW⟩ := hrel
      by_cases hkM : k < M
      · have hd : decide ((k : Int) < (M : Int)) = true := by simp; omega
        have i1 : (0 : Int) ≤ k := by omega
        obtain ⟨X, hX⟩ : ∃ X, agX ls bad N k = X := ⟨_, rfl⟩
        go_upto_region 11 with fail
        go_cut [69] (fun t wx => (∃ v, t = v) ∧ Ob wx q FRT f.cells ∧ Ob wx q1 DMT (dmC f.c f.r b1 M M) ∧ Ob wx q2 DMT (dmC f.c f.r b2 M M) ∧ VB wx b1 4 M (blv (agA (k + 1) ls bad N)) ∧ VB wx b2 4 M (blv (agO (k) f.c ls lm bad more N)) ∧ f.Mem wx ∧ Below w.heap.size w wx)
        case first =>
          have m0 := fun p => (H1.re p).mC; have m1 := fun p => (H1.re p).mR; have m2 := fun p => (H1.re p).mS
          by_cases hl : k < ls
          · obtain ⟨bs, os, rfl, hbs, hcs⟩ : ∃ bs os, p1 = some ⟨bs, os, none⟩ ∧ bs < w.heap.size ∧ ∀ k, k < ls → w.cell? ⟨bs, os + k, none⟩ = some (blv bad k) := by
              rcases hS1.out with h | h
              · omega
              · exact h
            have c4 := fun p => list_cell hbs hcs HW hl p
            have hk2 : (k : Int) < (ls : Int) := by omega
            clear hcs
            unfold blv at c4
            cases hbk : bad k
            · rw [hbk] at c4
              apply wp_region_tail_below 17
              case hm => kernel_rfl
              case hB => kernel_rfl
              case hno => kernel_rfl
              case hF =>
                simp only [List.take_succ_cons, List.take_zero]
                repeat (go_big_quiet_step (fail))
                exact wpQuiet_nil rfl
              case hT =>
                intro w7 hw7
                simp only [List.drop_succ_cons, List.drop_zero]
                clear m0 m1 m2 c4 hk2
                replace HF := HF.later hw7; replace H1 := H1.later hw7; replace H2 := H2.later hw7; replace V1 := V1.later hw7; replace V2 := V2.later hw7; replace hM := hM.later hw7; replace HW := below_step HW hw7
                clear hw7
                go_wp2_with fail
                refine (dmSet_any f.c f.r b1 M M (agA k ls bad N) (k : Int) _ _ V1).mono ?_
                rintro e w8 ⟨rfl, V1', hWr⟩
                replace HF := HF.wrT V1 hWr (by decide); replace H1 := H1.wrT V1 hWr (by decide); replace H2 := H2.wrT V1 hWr (by decide); replace hM := hM.wrT V1 hWr (by decide)
                replace V2 := V2.wr hWr (Ne.symm hb12); replace HW := hWr.below HW hwb1
                replace V1 := V1'.congr (f' := blv (agA (k + 1) ls bad N)) (fun j _ => by unfold blv; rw [agA_step hkM (show agX ls bad N k = ((k : Int) == (N : Int)) by rw [agX_f hl hbk]; exact Bool.eq_iff_iff.2 (by simp only [decide_eq_true_eq, beq_iff_eq]; omega))])
                clear V1' hWr
                go_wp2_with fail
                go_meet
                exact ⟨⟨_, rfl⟩, HF, H1, H2, V1, V2, hM, HW⟩
            · rw [hbk] at c4
              apply wp_region_tail_below 17
              case hm => kernel_rfl
              case hB => kernel_rfl
              case hno => kernel_rfl
              case hF =>
                simp only [List.take_succ_cons, List.take_zero]
                repeat (go_big_quiet_step (fail))
                exact wpQuiet_nil rfl
              case hT =>
                intro w7 hw7
                simp only [List.drop_succ_cons, List.drop_zero]
                clear m0 m1 m2 c4 hk2
                replace HF := HF.later hw7; replace H1 := H1.later hw7; replace H2 := H2.later hw7; replace V1 := V1.later hw7; replace V2 := V2.later hw7; replace hM := hM.later hw7; replace HW := below_step HW hw7
                clear hw7
                go_wp2_with fail
                refine (dmSet_any f.c f.r b1 M M (agA k ls bad N) (k : Int) _ _ V1).mono ?_
                rintro e w8 ⟨rfl, V1', hWr⟩
                replace HF := HF.wrT V1 hWr (by decide); replace H1 := H1.wrT V1 hWr (by decide); replace H2 := H2.wrT V1 hWr (by decide); replace hM := hM.wrT V1 hWr (by decide)
                replace V2 := V2.wr hWr (Ne.symm hb12); replace HW := hWr.below HW hwb1
                replace V1 := V1'.congr (f' := blv (agA (k + 1) ls bad N)) (fun j _ => by unfold blv; rw [agA_step hkM (agX_t hl hbk)])
                clear V1' hWr
                go_wp2_with fail
                go_meet
                exact ⟨⟨_, rfl⟩, HF, H1, H2, V1, V2, hM, HW⟩
          · have hk2 : ((k : Int) < (ls : Int)) = False := by simp; omega
            apply wp_region_tail_below 17
            case hm => kernel_rfl
            case hB => kernel_rfl
            case hno => kernel_rfl
            case hF =>
              simp only [List.take_succ_cons, List.take_zero]
              repeat (go_big_quiet_step (fail))
              exact wpQuiet_nil rfl
            case hT =>
              intro w7 hw7
              simp only [List.drop_succ_cons, List.drop_zero]
              clear m0 m1 m2 hk2
              replace HF := HF.later hw7; replace H1 := H1.later hw7; replace H2 := H2.later hw7; replace V1 := V1.later hw7; replace V2 := V2.later hw7; replace hM := hM.later hw7; replace HW := below_step HW hw7
              clear hw7
              go_wp2_with fail
              refine (dmSet_any f.c f.r b1 M M (agA k ls bad N) (k : Int) _ _ V1).mono ?_
              rintro e w8 ⟨rfl, V1', hWr⟩
              replace HF := HF.wrT V1 hWr (by decide); replace H1 := H1.wrT V1 hWr (by decide); replace H2 := H2.wrT V1 hWr (by decide); replace hM := hM.wrT V1 hWr (by decide)
              replace V2 := V2.wr hWr (Ne.symm hb12); replace HW := hWr.below HW hwb1
              replace V1 := V1'.congr (f' := blv (agA (k + 1) ls bad N)) (fun j _ => by unfold blv; rw [agA_step hkM (show agX ls bad N k = ((k : Int) == (N : Int)) by rw [agX_o hl]; exact Bool.eq_iff_iff.2 (by simp only [decide_eq_true_eq, beq_iff_eq]; omega))])
              clear V1' hWr
              go_wp2_with fail
              go_meet
              exact ⟨⟨_, rfl⟩, HF, H1, H2, V1, V2, hM, HW⟩
        case rest =>
          obtain ⟨-, HF, H1, H2, V1, V2, hM, HW⟩ := hcut
          go_wp2_with fail
          have m0 := fun p => (H1.re p).mC; have m1 := fun p => (H1.re p).mR; have m2 := fun p => (H1.re p).mS
          have n0 := fun p => (H2.re p).mC; have n1 := fun p => (H2.re p).mR; have n2 := fun p => (H2.re p).mS
          apply wp_region_tail_below 5
          case hm => kernel_rfl
          case hB => kernel_rfl
          case hno => kernel_rfl
          case hF =>
            simp only [List.take_succ_cons, List.take_zero]
            repeat (go_big_quiet_step ((go_at_call 46; exact Calls.regrown_of (dmHas_is (has_agA hkM hX) (V1.later (below_regrown _ _ _))))))
            exact wpQuiet_nil rfl
          case hT =>
            intro w7 hw7
            simp only [List.drop_succ_cons, List.drop_zero]
            clear m0 m1 m2 n0 n1 n2
            replace HF := HF.later hw7; replace H1 := H1.later hw7; replace H2 := H2.later hw7; replace V1 := V1.later hw7; replace V2 := V2.later hw7; replace hM := hM.later hw7; replace HW := below_step HW hw7
            clear hw7
            go_wp2_with fail
            refine (dmSet_any f.c f.r b2 M M (agO k f.c ls lm bad more N) (k : Int) _ _ V2).mono ?_
            rintro e w8 ⟨rfl, V2', hWr⟩
            replace HF := HF.wrT V2 hWr (by decide); replace H1 := H1.wrT V2 hWr (by decide); replace H2 := H2.wrT V2 hWr (by decide); replace hM := hM.wrT V2 hWr (by decide)
            replace V1 := V1.wr hWr hb12; replace HW := hWr.below HW hwb2
            replace V2 := V2'
            clear V2' hWr
            have hz1 : ((f.c : Int) == 0) = false := by simp; omega
            have hq1 : (k : Int).tmod (f.c : Int) = ((k % f.c : Nat) : Int) := rfl
            have hq2 : (N : Int).tmod (f.c : Int) = ((N % f.c : Nat) : Int) := rfl
            have c0 := fun p => (HF.re p).fC
            have hq3 : k % f.c < f.c := Nat.mod_lt _ (by omega)
            have hq4 : N % f.c < f.c := Nat.mod_lt _ (by omega)
            by_cases he : k % f.c = N % f.c
            · obtain ⟨a, ha⟩ : ∃ a, k % f.c = a := ⟨_, rfl⟩
              have hb := he.symm.trans ha
              rw [ha] at hq1 hq3; rw [hb] at hq2 hq4
              replace ha := Lib.hid ha; replace hb := Lib.hid hb; replace he := Lib.hid he
              go_wp2_with fail
              refine wp_region_quiet_below (by kernel_rfl) (by kernel_rfl) ?_
              repeat (go_big_quiet_step (fail))
              refine wpQuiet_nil ?_
              intro wq hwq
              replace hwq := Cls.below hwq
              clear c0 hz1 hq1 hq2
              replace HF := HF.later hwq; replace H1 := H1.later hwq; replace H2 := H2.later hwq; replace V1 := V1.later hwq; replace V2 := V2.later hwq; replace hM := hM.later hwq; replace HW := below_step HW hwq
              clear hwq
              go_wp2_with fail
              replace V2 := V2.congr (f' := blv (agO (k + 1) f.c ls lm bad more N)) (fun j _ => by unfold blv; rw [agO_in hkM hX he.out])
              exact ⟨⟨k + 1, by omega, by go_num, HF, H1, H2, V1, V2, hM, HW⟩, by simp [intOf]; omega⟩
            · obtain ⟨a, ha⟩ : ∃ a, k % f.c = a := ⟨_, rfl⟩
              obtain ⟨b, hb⟩ : ∃ b, N % f.c = b := ⟨_, rfl⟩
              have hab : ((a : Int) != (b : Int)) = true := by simp; omega
              rw [ha] at hq1 hq3; rw [hb] at hq2 hq4
              replace ha := Lib.hid ha; replace hb := Lib.hid hb; replace he := Lib.hid he
              go_wp2_with fail
              refine wp_region_quiet_below (by kernel_rfl) (by kernel_rfl) ?_
              repeat (go_big_quiet_step (fail))
              refine wpQuiet_nil ?_
              intro wq hwq
              replace hwq := Cls.below hwq
              clear c0 hz1 hq1 hq2
              replace HF := HF.later hwq; replace H1 := H1.later hwq; replace H2 := H2.later hwq; replace V1 := V1.later hwq; replace V2 := V2.later hwq; replace hM := hM.later hwq; replace HW := below_step HW hwq
              clear hwq
              have n0 := fun p => (H2.re p).mC; have n1 := fun p => (H2.re p).mR; have n2 := fun p => (H2.re p).mS
              by_cases hl : k < lm
              · obtain ⟨bs, os, rfl, hbs, hcs⟩ : ∃ bs os, p2 = some ⟨bs, os, none⟩ ∧ bs < w.heap.size ∧ ∀ k, k < lm → w.cell? ⟨bs, os + k, none⟩ = some (blv more k) := by
                  rcases hS2.out with h | h
                  · omega
                  · exact h
                have c4 := fun p => list_cell hbs hcs HW hl p
                have hk2 : (k : Int) < (lm : Int) := by omega
                clear hcs
                unfold blv at c4
                go_wp2_with fail
                apply wp_region_tail_below 12
                case hm => kernel_rfl
                case hB => kernel_rfl
                case hno => kernel_rfl
                case hF =>
                  simp only [List.take_succ_cons, List.take_zero]
                  repeat (go_big_quiet_step (fail))
                  exact wpQuiet_nil rfl
                case hT =>
                  intro w9 hw9
                  simp only [List.drop_succ_cons, List.drop_zero]
                  clear n0 n1 n2 c4 hk2
                  replace HF := HF.later hw9; replace H1 := H1.later hw9; replace H2 := H2.later hw9; replace V1 := V1.later hw9; replace V2 := V2.later hw9; replace hM := hM.later hw9; replace HW := below_step HW hw9
                  clear hw9
                  go_wp2_with fail
                  refine (dmSet_any f.c f.r b2 M M _ (k : Int) _ _ V2).mono ?_
                  rintro e w10 ⟨rfl, V2', hWr⟩
                  replace HF := HF.wrT V2 hWr (by decide); replace H1 := H1.wrT V2 hWr (by decide); replace H2 := H2.wrT V2 hWr (by decide); replace hM := hM.wrT V2 hWr (by decide)
                  replace V1 := V1.wr hWr hb12; replace HW := hWr.below HW hwb2
                  replace V2 := V2'.congr (f' := blv (agO (k + 1) f.c ls lm bad more N)) (fun j _ => by unfold blv; rw [agO_out hkM (flF_in hl) he.out])
                  clear V2' hWr
                  go_wp2_with fail
                  exact ⟨⟨k + 1, by omega, by go_num, HF, H1, H2, V1, V2, hM, HW⟩, by simp [intOf]; omega⟩
              · have hk2 : ((k : Int) < (lm : Int)) = False := by simp; omega
                go_wp2_with fail
                apply wp_region_tail_below 12
                case hm => kernel_rfl
                case hB => kernel_rfl
                case hno => kernel_rfl
                case hF =>
                  simp only [List.take_succ_cons, List.take_zero]
                  repeat (go_big_quiet_step (fail))
                  exact wpQuiet_nil rfl
                case hT =>
                  intro w9 hw9
                  simp only [List.drop_succ_cons, List.drop_zero]
                  clear n0 n1 n2 hk2
                  replace HF := HF.later hw9; replace H1 := H1.later hw9; replace H2 := H2.later hw9; replace V1 := V1.later hw9; replace V2 := V2.later hw9; replace hM := hM.later hw9; replace HW := below_step HW hw9
                  clear hw9
                  go_wp2_with fail
                  refine (dmSet_any f.c f.r b2 M M _ (k : Int) _ _ V2).mono ?_
                  rintro e w10 ⟨rfl, V2', hWr⟩
                  replace HF := HF.wrT V2 hWr (by decide); replace H1 := H1.wrT V2 hWr (by decide); replace H2 := H2.wrT V2 hWr (by decide); replace hM := hM.wrT V2 hWr (by decide)
                  replace V1 := V1.wr hWr hb12; replace HW := hWr.below HW hwb2
                  replace V2 := V2'.congr (f' := blv (agO (k + 1) f.c ls lm bad more N)) (fun j _ => by unfold blv; rw [agO_out hkM (flF_o hl) he.out])
                  clear V2' hWr
                  go_wp2_with fail
                  exact ⟨⟨k + 1, by omega, by go_num, HF, H1, H2, V1, V2, hM, HW⟩, by simp [intOf]; omega⟩
      · have hkE : k = M := by omega
        have hd : decide ((k : Int) < (M : Int)) = false := by simp; omega
        obtain ⟨A, hA⟩ : ∃ A, agA k ls bad N = A := ⟨_, rfl⟩
        obtain ⟨O, hO⟩ : ∃ O, agO k f.c ls lm bad more N = O := ⟨_, rfl⟩
        rw [hA] at V1; rw [hO] at V2
        have hNf : N < f.c * f.r := by rw [hMe.out]; exact hN2
        have hAN : A N = true := by rw [← hA, hkE]; unfold agA agX; simp; omega
        have hcol : ∀ j, A (j * f.c + N % f.c) = O (j * f.c + N % f.c) := by
          intro j; rw [← hA, ← hO]; unfold agA agO; rw [if_pos col_mod]
        replace hA := Lib.hid hA; replace hO := Lib.hid hO; replace hcol := Lib.hid hcol; replace hAN := Lib.hid hAN; replace hkE := Lib.hid hkE
        go_upto_region 16 with fail
        have uq := HF.lt; have u1 := H1.lt; have u2 := H2.lt
        apply wp_region_grow2 6 [1, 3] 4 14 5 15 FRT FRT frZ frZ
        case hm => kernel_rfl
        case hB => kernel_rfl
        case hp => kernel_rfl
        case hlo => kernel_rfl
        case hne => decide
        case hop1 => kernel_rfl
        case hop2 => kernel_rfl
        case hz1 => intro W; kernel_rfl
        case hz2 => intro W; kernel_rfl
        case hF =>
          intro wx hwx
          have c0 := fun p => ((HF.later hwx).re p).fC
          have c1 := fun p => ((HF.later hwx).re p).fR
          have c2 := fun p => ((HF.later hwx).re p).fYW
          have c3 := fun p => ((HF.later hwx).re p).fYH
          have c4 := fun p => ((HF.later hwx).re p).fYS
          have c5 := fun p => ((HF.later hwx).re p).fUW
          have c6 := fun p => ((HF.later hwx).re p).fUH
          have c7 := fun p => ((HF.later hwx).re p).fUS
          have c8 := fun p => ((HF.later hwx).re p).fVW
          have c9 := fun p => ((HF.later hwx).re p).fVH
          have c10 := fun p => ((HF.later hwx).re p).fVS
          simp only [List.take_succ_cons, List.take_zero, muteG, mute, isAlloc, neutral, List.contains_cons, List.contains_nil, Nat.reduceAdd, Nat.zero_add, Nat.reduceBEq, Bool.or_self, Bool.or_false, Bool.or_true, ↓reduceIte, Bool.false_eq_true]
          repeat (go_big_quiet_step (fail))
          exact wpQuiet_nil rfl
        case hG =>
          simp only [List.filterMap_cons, List.filterMap_nil, List.getElem?_toArray, List.getElem?_cons_succ, List.getElem?_cons_zero]
          intro w6 hw6
          have ww6 := HW.size; have us6 := hw6.size
          replace HF := HF.later hw6; replace H1 := H1.later hw6; replace H2 := H2.later hw6; replace V1 := V1.later hw6; replace V2 := V2.later hw6; replace hM := hM.later hw6; replace HW := below_step HW hw6
          clear hw6
          go_wp2_with fail
          refine (clone_any f _ hM).mono ?_
          rintro e w7 ⟨g, rfl, hg, hG, gF, hb⟩
          have us13 := hb.size
          replace HF := HF.later hb; replace H1 := H1.later hb; replace H2 := H2.later hb; replace V1 := V1.later hb; replace V2 := V2.later hb; replace hM := hM.later hb; replace HW := below_step HW hb
          unfold Fr.val
          go_wp2_with fail
          refine ⟨rfl, hb, ?_⟩
          clear hb
          intro w8 hw8
          have us9 := hw8.size
          replace HF := HF.later hw8; replace H1 := H1.later hw8; replace H2 := H2.later hw8; replace V1 := V1.later hw8; replace V2 := V2.later hw8; replace hM := hM.later hw8; replace hG := hG.later hw8; replace HW := below_step HW hw8
          clear hw8
          go_wp2_with fail
          refine (clone_any f _ hM).mono ?_
          rintro e w9 ⟨h, rfl, hh, hH, hF2, hb⟩
          have us10 := hG.y.lt; have us11 := hG.u.lt; have us12 := hG.v.lt
          have sGH : g.Sep h := Fr.Sep.of hG hF2
          replace HF := HF.later hb; replace H1 := H1.later hb; replace H2 := H2.later hb; replace V1 := V1.later hb; replace V2 := V2.later hb; replace hM := hM.later hb; replace hG := hG.later hb; replace HW := below_step HW hb
          unfold Fr.val
          go_wp2_with fail
          refine ⟨rfl, hb, ?_⟩
          clear hb
          intro w10 hw10 z1 z2 hz1 hz2 hz3 HG HH
          simp only [ptrAt]
          replace HF := HF.later hw10; replace H1 := H1.later hw10; replace H2 := H2.later hw10; replace V1 := V1.later hw10; replace V2 := V2.later hw10; replace hM := hM.later hw10; replace hG := hG.later hw10; replace hH := hH.later hw10; replace HW := below_step HW hw10
          clear hw10
          have gFw : g.From w.heap.size := gF.mono (by omega)
          have hFw : h.From w.heap.size := hF2.mono (by omega)
          have zw1 : w.heap.size ≤ z1 := by omega
          have zw2 : w.heap.size ≤ z2 := by omega
          have y1 : z1 ≠ q1 := by omega
          have y2 : z1 ≠ q2 := by omega
          have y3 : z2 ≠ q1 := by omega
          have y4 : z2 ≠ q2 := by omega
          have y5 : z1 ≠ b1 := HG.ne_vb V1 (by decide)
          have y6 : z1 ≠ b2 := HG.ne_vb V2 (by decide)
          have y7 : z2 ≠ b1 := HH.ne_vb V1 (by decide)
          have y8 : z2 ≠ b2 := HH.ne_vb V2 (by decide)
          have y9 := HG.ne_vb hG.y.vb (by decide); have y10 := HG.ne_vb hG.u.vb (by decide); have y11 := HG.ne_vb hG.v.vb (by decide)
          have y12 := HG.ne_vb hH.y.vb (by decide); have y13 := HG.ne_vb hH.u.vb (by decide); have y14 := HG.ne_vb hH.v.vb (by decide)
          have y15 := HH.ne_vb hG.y.vb (by decide); have y16 := HH.ne_vb hG.u.vb (by decide); have y17 := HH.ne_vb hG.v.vb (by decide)
          have y18 := HH.ne_vb hH.y.vb (by decide); have y19 := HH.ne_vb hH.u.vb (by decide); have y20 := HH.ne_vb hH.v.vb (by decide)
          refine wpList_store_ob HG rfl _ _ _ rfl rfl g.cells rfl (by kernel_rfl) rfl rfl ?_
          simp only [Act.put]
          refine wpList_store_ob (HH.setRow hz3 _) rfl _ _ _ rfl rfl h.cells rfl (by kernel_rfl) rfl rfl ?_
          generalize hwB : (w10.setRow z1 g.cells).setRow z2 h.cells = wB
          replace H1 : Ob wB q1 DMT (dmC f.c f.r b1 M M) := by rw [← hwB]; exact (H1.setRow y1 _).setRow y3 _
          replace H2 : Ob wB q2 DMT (dmC f.c f.r b2 M M) := by rw [← hwB]; exact (H2.setRow y2 _).setRow y4 _
          replace V1 : VB wB b1 4 M (blv A) := by rw [← hwB]; exact (V1.setRow y5 _).setRow y7 _
          replace V2 : VB wB b2 4 M (blv O) := by rw [← hwB]; exact (V2.setRow y6 _).setRow y8 _
          replace hG : g.Mem wB := by rw [← hwB]; exact (hG.setRow y9 y10 y11 _).setRow y15 y16 y17 _
          replace hH : h.Mem wB := by rw [← hwB]; exact (hH.setRow y12 y13 y14 _).setRow y18 y19 y20 _
          replace HH : Ob wB z2 FRT h.cells := by rw [← hwB]; exact (HH.setRow hz3 _).setRow_same _
          replace HG : Ob wB z1 FRT g.cells := by rw [← hwB]; exact (HG.setRow_same _).setRow (Ne.symm hz3) _
          replace HW : Below w.heap.size w wB := by rw [← hwB]; exact below_setRow (below_setRow HW zw1 _) zw2 _
          clear hwB ww6 us6 us13 y1 y2 y3 y4 y5 y6 y7 y8 y9 y10 y11 y12 y13 y14 y15 y16 y17 y18 y19 y20 us9 us10 us11 us12 uq u1 u2 hz1 hz2 HF hM
          have hwz := HW.size
          replace gFw := Lib.hid gFw; replace hFw := Lib.hid hFw; replace sGH := Lib.hid sGH
          have hgd : Hid (g.c = f.c ∧ g.r = f.r ∧ h.c = f.c ∧ h.r = f.r) := Lib.hid ⟨hg.c, hg.r, hh.c, hh.r⟩
          replace hg := Lib.hid hg; replace hh := Lib.hid hh
          unfold dmC at H1 H2
          go_wp2_with (first | (refine wpList_load_ob_g HG rfl 43 _ rfl rfl Try.underlying43 (by kernel_rfl) ?_) | (refine wpList_load_ob_g H1 rfl 58 _ rfl rfl Try.underlying58 (by kernel_rfl) ?_))
          refine (spread_like hgd.out.1 hgd.out.2.1 hMe.out (by omega) (by omega) hN2 hG V1).mono ?_
          rintro e w11 ⟨rfl, x, hx, hX2, hwr⟩
          replace H1 := H1.wrfT hG hwr (by decide); replace H2 := H2.wrfT hG hwr (by decide); replace V1 := V1.wrfT hG hwr (by decide); replace V2 := V2.wrfT hG hwr (by decide)
          replace HG := HG.wrfT hG hwr (by decide); replace HH := HH.wrfT hG hwr (by decide); replace hH := hH.wrfS sGH.out.symm hwr
          replace HW := hwr.belowF HW hwz gFw.out
          have hwz := HW.size
          rw [← (hx.pw 0).2.2.2.2.1] at HG
          clear hwr hG
          go_wp2_with (first | (refine wpList_load_ob_g HH rfl 43 _ rfl rfl Try.underlying43 (by kernel_rfl) ?_) | (refine wpList_load_ob_g H2 rfl 58 _ rfl rfl Try.underlying58 (by kernel_rfl) ?_))
          refine (spread_like hgd.out.2.2.1 hgd.out.2.2.2 hMe.out (by omega) (by omega) hN2 hH V2).mono ?_
          rintro e w12 ⟨rfl, y, hy, hY, hwr⟩
          have sXH : x.Sep h := hx.sep sGH.out
          replace H1 := H1.wrfT hH hwr (by decide); replace V1 := V1.wrfT hH hwr (by decide)
          replace HG := HG.wrfT hH hwr (by decide); replace HH := HH.wrfT hH hwr (by decide); replace hX2 := hX2.wrfS sXH hwr
          replace HW := hwr.belowF HW hwz hFw.out
          have hwz := HW.size
          rw [← (hy.pw 0).2.2.2.2.1] at HH
          clear hwr hH H2 V2
          go_wp2_with (refine wpList_load_ob_g HG rfl 43 _ rfl rfl Try.underlying43 (by kernel_rfl) ?_)
          refine (clone_any x _ hX2).mono ?_
          rintro e w13 ⟨v, rfl, hv, hV, vF, hb⟩
          have sXV : x.Sep v := Fr.Sep.of hX2 vF
          have sYV : y.Sep v := Fr.Sep.of hY vF
          have vFw : v.From w.heap.size := vF.mono hwz
          replace H1 := H1.later hb; replace V1 := V1.later hb; replace HG := HG.later hb; replace HH := HH.later hb; replace hX2 := hX2.later hb; replace hY := hY.later hb; replace HW := below_step HW hb
          clear hb vF
          unfold Fr.val
          go_wp2_with (refine wpList_store_stop (Ob.new_at (w := w13) FRT frZ rfl) rfl _ _ _ rfl rfl v.cells rfl (by kernel_rfl) rfl rfl ?_)
          intro w14 hw14
          have HV := cell_ob hw14.out
          replace H1 : Ob w14 q1 DMT #[.int .i64 (f.c : Int), .int .i64 (f.r : Int), .slice (some ⟨b1, 0, none⟩) M M] := by rw [← hw14.out]; have := H1.lt; exact (H1.alloc _).setRow (by omega) _
          replace V1 : VB w14 b1 4 M (blv A) := by rw [← hw14.out]; have := V1.lt; exact (V1.alloc _).setRow (by omega) _
          replace HG := cell_keep hw14.out HG; replace HH := cell_keep hw14.out HH
          replace hX2 := cell_mem hw14.out hX2; replace hY := cell_mem hw14.out hY; replace hV := cell_mem hw14.out hV
          replace HW := cell_below hw14.out HW HW.size
          clear hw14
          generalize w13.heap.size = z3 at *
          have hwz := HW.size
          have hvd : Hid (v.c = f.c ∧ v.r = f.r) := Lib.hid ⟨by rw [hv.c, hx.dims.1]; exact hgd.out.1, by rw [hv.r, hx.dims.2.1]; exact hgd.out.2.1⟩
          replace hv := Lib.hid hv; replace vFw := Lib.hid vFw; replace sXV := Lib.hid sXV; replace sYV := Lib.hid sYV
          go_wp2_with (first | (refine wpList_load_ob_g HV rfl 43 _ rfl rfl Try.underlying43 (by kernel_rfl) ?_) | (refine wpList_load_ob_g H1 rfl 58 _ rfl rfl Try.underlying58 (by kernel_rfl) ?_))
          refine (spread_like hvd.out.1 hvd.out.2 hMe.out (by omega) (by omega) hN2 hV V1).mono ?_
          rintro e w15 ⟨rfl, u, hu, hU, hwr⟩
          replace HG := HG.wrfT hV hwr (by decide); replace HH := HH.wrfT hV hwr (by decide); replace HV := HV.wrfT hV hwr (by decide)
          replace hX2 := hX2.wrfS sXV.out hwr; replace hY := hY.wrfS sYV.out hwr
          replace HW := hwr.belowF HW hwz vFw.out
          rw [← (hu.pw 0).2.2.2.2.1] at HV
          clear hwr hV H1 V1
          have hUD := upOf_congr (c := f.c) (r := f.r) (mb := N) hcol.out
          rw [← hUD.1, ← hUD.2] at hy
          have s1 : sameB x y = true := spr_same hx hy hg.out hh.out (by omega)
          have s2 : sameB x u = true := by
            refine spr_again hx hv.out hu (by rw [hgd.out.1]; omega) (by rw [hgd.out.1, hgd.out.2.1]; exact hNf) ?_
            have := around (by omega) hNf hAN.out
            rw [hgd.out.1]; exact this
          have hsm : ∀ W, x.Mem W → y.Mem W → Calls Try.prog 40 #[x.val, y.val] W fun e w' => e = .returned (.bool true) ∧ Below W.heap.size W w' := fun W h1 h2 => by have := same_any x y W h1 h2; rw [s1] at this; exact this
          have hsm2 : ∀ W, x.Mem W → u.Mem W → Calls Try.prog 40 #[x.val, u.val] W fun e w' => e = .returned (.bool true) ∧ Below W.heap.size W w' := fun W h1 h2 => by have := same_any x u W h1 h2; rw [s2] at this; exact this
          replace hsm := Lib.hid hsm; replace hsm2 := Lib.hid hsm2
          go_wp2_with (first | (refine wpList_load_ob_g HG rfl 43 _ rfl rfl Try.underlying43 (by kernel_rfl) ?_) | (refine wpList_load_ob_g HH rfl 43 _ rfl rfl Try.underlying43 (by kernel_rfl) ?_))
          refine (hsm.out _ hX2 hY).mono ?_
          rintro e w16 ⟨rfl, hb⟩
          replace HG := HG.later hb; replace HV := HV.later hb; replace hX2 := hX2.later hb; replace hU := hU.later hb; replace HW := below_step HW hb
          clear hb
          go_wp2_with (first | (refine wpList_load_ob_g HG rfl 43 _ rfl rfl Try.underlying43 (by kernel_rfl) ?_) | (refine wpList_load_ob_g HV rfl 43 _ rfl rfl Try.underlying43 (by kernel_rfl) ?_))
          refine (hsm2.out _ hX2 hU).mono ?_
          rintro e w17 ⟨rfl, hb⟩
          replace HG := HG.later hb; replace HW := below_step HW hb
          clear hb
          go_wp2_with fail
          go_ret
          exact ⟨rfl, HW⟩
end Go.Proofs.Ytbldgpemocnboaa

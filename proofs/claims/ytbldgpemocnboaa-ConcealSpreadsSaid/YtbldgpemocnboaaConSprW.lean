/- The walk of the law ConcealSpreads: true at every input. -/
import Derived.Test.YtbldgpemocnboaaConSprM
namespace Go.Proofs.Ytbldgpemocnboaa
open Go.RowKit Go.Sort
attribute [local go_sem ↓] run_imax run_imin

theorem flK_zero {ls : Nat} {bad : Nat → Bool} (j : Nat) : flK 0 ls bad j = false := by unfold flK; simp
/-- A sample's byte as it is put. -/
theorem sat_eq (z : Int) : imin (imax z 0) 255 = sat z := by unfold sat; simp only [imin_eq, imax_eq]; omega

set_option maxRecDepth 1000000 in
set_option maxHeartbeats 16000000 in
theorem conSpreads_walk (co ro ki a b c sd : Int) (p : Option Addr) (n m : Nat) (sl : Nat → Int) (p1 : Option Addr) (ls lc : Nat) (bad : Nat → Bool) (mb : Int) (w : World)
    (hw : SmallW co ro ki a b c sd n sl) (hn : n ≤ maxLen) (hS : SL w p n (u8v sl)) (hls : ls ≤ maxLen) (hS1 : SL w p1 ls (blv bad)) (hmb : 0 ≤ mb ∧ mb ≤ 255) :
    Calls Try.prog 7 #[smV co ro ki a b c sd p n m, .slice p1 ls lc, .int .u8 mb] w fun e w' => e = .returned (.bool true) ∧ Below w.heap.size w w' := by
  replace hw := Lib.hid hw; replace hS := Lib.hid hS; replace hS1 := Lib.hid hS1
  have hls2 : ls ≤ 9223372036854775807 := by unfold maxLen at hls; omega
  obtain ⟨hmb0, hmb1⟩ := hmb
  have HB0 : Ob (w.alloc (.cells (smC co ro ki a b c sd p n m) SMT)) w.heap.size SMT (smC co ro ki a b c sd p n m) := Ob.new_at _ _ rfl
  unfold smV
  unfold smC at *
  go_enter Try.func7, Try.ntmps7
  go_wp2_with fail
  have HW : Below w.heap.size w (w.alloc (.cells (smC co ro ki a b c sd p n m) SMT)) := by ((repeat (first | exact Below.refl _ _ | assumption | refine Below.setCell ?_ (by first | omega | (simp; done) | (simp; omega)) _ | refine Below.alloc ?_ (by first | omega | (simp; done) | (simp; omega)) _ | refine below_drewN ?_ _ | refine Below.drew ?_ | refine below_setRow ?_ (by first | omega | (simp; done) | (simp; omega)) _)))
  unfold smC at HW
  refine (awake26 _).mono ?_
  rintro e w1 ⟨rfl, hb⟩
  have HB := HB0.later hb
  clear HB0
  replace HW := below_step HW hb
  clear hb
  go_wp2_with (refine wpList_load_ob_g HB rfl 38 _ rfl rfl Try.underlying38 (by kernel_rfl) ?_)
  refine (light_any co ro ki a b c sd p n m _ hn).mono ?_
  rintro e w2 ⟨rfl, hb⟩
  replace HB := HB.later hb; replace HW := below_step HW hb
  clear hb
  by_cases hn2 : n ≤ 2000
  case neg =>
    have hd : decide (n ≤ 2000) = false := by simpa using hn2
    go_wp2_with fail
    go_ret
    exact ⟨rfl, HW⟩
  have hd : decide (n ≤ 2000) = true := by simpa using hn2
  by_cases hbig : 100 < ls
  · go_wp2_with fail
    go_ret
    exact ⟨rfl, HW⟩
  go_wp2_with (refine wpList_load_ob_g HB rfl 38 _ rfl rfl Try.underlying38 (by kernel_rfl) ?_)
  clear hd
  refine (smallW_any hw.out hn2 (sl_later hS.out HW)).mono ?_
  rintro e w3 ⟨f, rfl, f1, f2, f3, f4, hM, -, hb⟩
  replace HW := below_step HW hb
  clear hb HB
  have hc8 := hM.hc; have hr8 := hM.hr
  unfold Fr.val
  go_wp2_with (refine wpList_store_stop (Ob.new_at (w := w3) FRT frZ rfl) rfl _ _ _ rfl rfl f.cells rfl (by kernel_rfl) rfl rfl ?_)
  intro w5 hw5
  have HF := cell_ob hw5.out
  replace hM := cell_mem hw5.out hM
  replace HW := cell_below hw5.out HW HW.size
  clear hw5
  generalize w3.heap.size = q at *
  obtain ⟨M, hMe⟩ : ∃ M, f.c * f.r = M := ⟨_, rfl⟩
  have hM0 : 0 < M := by rw [← hMe]; exact Nat.mul_pos (by omega) (by omega)
  have hM9 : M ≤ 9 := by rw [← hMe]; exact Nat.mul_le_mul f2 f4
  obtain ⟨N, hN1, hN2⟩ := mb_of mb hM0 hmb0
  have g0 := HF.fC; have g1 := HF.fR
  go_wp2_with fail
  clear g0 g1
  refine (dmNew_any _ _ false f.c f.r _ (by rw [imin_eq, imax_eq]; omega) (by rw [imin_eq, imax_eq]; omega)).mono ?_
  rintro e w7 ⟨bb, rfl, hbb, V1, hb⟩
  rw [hMe] at V1 ⊢
  have ubb : w.heap.size ≤ bb := Nat.le_trans HW.size hbb
  have uq : q < bb := Nat.lt_of_lt_of_le HF.lt hbb
  replace HF := HF.later hb; replace hM := hM.later hb; replace HW := below_step HW hb
  clear hb
  unfold dmV dmC
  go_wp2_with (refine wpList_store_stop (Ob.new_at (w := w7) DMT dmZ rfl) rfl _ _ _ rfl rfl (dmC f.c f.r bb M M) rfl (by kernel_rfl) rfl rfl ?_)
  intro w8 hw8
  have uq1 : q < w7.heap.size := HF.lt
  have H1 : Ob w8 w7.heap.size DMT (dmC f.c f.r bb M M) := by rw [← hw8.out]; exact (Ob.new_at (w := w7) DMT dmZ rfl).setRow_same _
  replace HF : Ob w8 q FRT f.cells := by rw [← hw8.out]; have := HF.lt; exact (HF.alloc _).setRow (by omega) _
  replace hM : f.Mem w8 := by rw [← hw8.out]; have := hM.y.lt; have := hM.u.lt; have := hM.v.lt; exact (hM.alloc _).setRow (by omega) (by omega) (by omega) _
  replace V1 : VB w8 bb 4 M (blv (flK 0 ls bad)) := by
    rw [← hw8.out]; have := V1.lt
    exact ((V1.alloc _).setRow (by omega) _).congr (fun j _ => by unfold blv; rw [flK_zero])
  replace HW : Below w.heap.size w w8 := by rw [← hw8.out]; exact below_setRow (HW.alloc HW.size _) HW.size _
  clear hw8 hbb
  generalize w7.heap.size = q1 at *
  have hq1 : q1 ≠ bb := H1.ne_vb V1 (by decide)
  have hMi : (f.c : Int) * (f.r : Int) = (M : Int) := by rw [← Int.natCast_mul, hMe]
  replace hMe := Lib.hid hMe; replace hN1 := Lib.hid hN1; replace hMi := Lib.hid hMi
  go_wp2_with fail
  go_loopw [49] (fun i wr => ∃ k : Nat, k ≤ ls ∧ i = .int .i64 k ∧ Ob wr q FRT f.cells ∧ Ob wr q1 DMT (dmC f.c f.r bb M M) ∧ VB wr bb 4 M (blv (flK k ls bad)) ∧ f.Mem wr ∧ Below w.heap.size w wr) (fun i _ => ls - (intOf i).toNat)
  case atStart => exact ⟨0, by omega, rfl, HF, H1, V1, hM, HW⟩
  case round =>
    clear HF H1 V1 hM HW
    obtain ⟨k, hk, rfl, HF, H1, V1, hM, HW⟩ := hrel
    by_cases hlt : k < ls
    · obtain ⟨bs, os, rfl, hbs, hcs⟩ : ∃ bs os, p1 = some ⟨bs, os, none⟩ ∧ bs < w.heap.size ∧ ∀ k, k < ls → w.cell? ⟨bs, os + k, none⟩ = some (blv bad k) := by
        rcases hS1.out with h | h
        · omega
        · exact h
      have c4 : wr.cell? ⟨bs, os + k, none⟩ = some (.bool (bad k)) := by rw [HW.cell (p := ⟨bs, os + k, none⟩) hbs]; exact hcs k hlt
      clear hcs
      unfold dmC at H1
      go_wp2_with (refine wpList_load_ob_g H1 rfl 58 _ rfl rfl Try.underlying58 (by kernel_rfl) ?_)
      refine (dmSet_any f.c f.r bb M M _ _ _ _ V1).mono ?_
      rintro e w9 ⟨rfl, V1', hWr⟩
      replace HF := HF.wrT V1 hWr (by decide); replace H1 := H1.wrT V1 hWr (by decide); replace hM := hM.wrT V1 hWr (by decide)
      replace HW := hWr.below HW ubb
      replace V1 := V1'.congr (f' := blv (flK (k + 1) ls bad)) (fun j hj => by unfold blv; rw [flK_step hlt j hj])
      clear V1' hWr c4
      go_wp2_with fail
      exact ⟨⟨k + 1, by omega, by go_num, HF, H1, V1, hM, HW⟩, by simp [intOf]; omega⟩
    · obtain rfl : ls = k := by omega
      replace V1 := V1.congr (f' := blv (flF ls bad)) (fun j hj => by unfold blv; rw [flK_end])
      obtain ⟨B, hB⟩ : ∃ B, flF ls bad = B := ⟨_, rfl⟩
      rw [hB] at V1
      clear hB
      have g2 := H1.mS
      have hN3 := hN1.out
      have hz0 : ((M : Int) == 0) = false := by simp; omega
      have hp0 : (0 : Int) < (M : Int) := by omega
      go_wp2_with (refine wpList_load_ob_g HF rfl 43 _ rfl rfl Try.underlying43 (by kernel_rfl) ?_)
      clear g2 hN3 hz0 hp0
      refine (clone_any f _ hM).mono ?_
      rintro e w10 ⟨g, rfl, hg, hG, gF, hb⟩
      have sFG : f.Sep g := Fr.Sep.of hM gF
      replace gF : g.From w.heap.size := gF.mono HW.size
      replace HF := HF.later hb; replace H1 := H1.later hb; replace V1 := V1.later hb; replace hM := hM.later hb; replace HW := below_step HW hb
      clear hb
      unfold Fr.val
      go_wp2_with (refine wpList_store_stop (Ob.new_at (w := w10) FRT frZ rfl) rfl _ _ _ rfl rfl g.cells rfl (by kernel_rfl) rfl rfl ?_)
      intro w11 hw11
      have HG := cell_ob hw11.out
      replace HF := cell_keep hw11.out HF; replace H1 := cell_keep hw11.out H1
      replace V1 : VB w11 bb 4 M (blv B) := by rw [← hw11.out]; have := V1.lt; exact (V1.alloc _).setRow (by omega) _
      replace hM := cell_mem hw11.out hM; replace hG := cell_mem hw11.out hG
      replace HW := cell_below hw11.out HW HW.size
      clear hw11
      generalize w10.heap.size = z at *
      have hwz := HW.size
      have hgd : Hid (g.c = f.c ∧ g.r = f.r) := Lib.hid ⟨hg.c, hg.r⟩
      replace hg := Lib.hid hg; replace gF := Lib.hid gF; replace sFG := Lib.hid sFG
      unfold dmC at H1
      go_wp2_with (first | (refine wpList_load_ob_g HG rfl 43 _ rfl rfl Try.underlying43 (by kernel_rfl) ?_) | (refine wpList_load_ob_g H1 rfl 58 _ rfl rfl Try.underlying58 (by kernel_rfl) ?_))
      refine (spread_like hgd.out.1 hgd.out.2 hMe.out (by omega) (by omega) hN2 hG V1).mono ?_
      rintro e w12 ⟨rfl, x, hx, hX, hwr⟩
      replace HF := HF.wrfT hG hwr (by decide); replace HG := HG.wrfT hG hwr (by decide); replace H1 := H1.wrfT hG hwr (by decide); replace V1 := V1.wrfT hG hwr (by decide)
      replace hM := hM.wrfS sFG.out hwr
      replace HW := hwr.belowF HW hwz gF.out
      rw [← (hx.pw 0).2.2.2.2.1] at HG
      clear hwr hG hwz
      -- the rows
      have hNf : N < f.c * f.r := by rw [hMe.out]; exact hN2
      obtain ⟨hmc, hmr⟩ := mbdm (show 0 < f.c by omega) hNf
      have hub := upR_bd (colR B f.c N) (N / f.c + 1)
      have hdb := dnR_bd (colR B f.c N) (f.r - N / f.c) (N / f.c)
      obtain ⟨U, hU⟩ : ∃ U, upOf B f.c N = U := ⟨_, rfl⟩
      obtain ⟨D, hD⟩ : ∃ D, dnOf B f.c f.r N = D := ⟨_, rfl⟩
      obtain ⟨row, hrow⟩ : ∃ row, N / f.c = row := ⟨_, rfl⟩
      obtain ⟨col, hcol⟩ : ∃ col, N % f.c = col := ⟨_, rfl⟩
      rw [hU, hD] at hx
      unfold upOf at hU; unfold dnOf at hD
      rw [hU] at hub; rw [hD] at hdb
      rw [hrow] at hU hD hmr hub hdb
      rw [hcol] at hmc
      have hB0 : ∀ q, q < f.r → q * f.c + col < M := fun q hq => by rw [← hMe.out]; exact nat_row hq hmc
      have hcR : ∀ q, colR B f.c N q = B (q * f.c + col) := fun q => by unfold colR; rw [hcol]
      have hz1 : ((f.c : Int) == 0) = false := by simp; omega
      have hqr : (N : Int).tdiv (f.c : Int) = (row : Int) := by rw [← hrow]; rfl
      have hqc : (N : Int).tmod (f.c : Int) = (col : Int) := by rw [← hcol]; rfl
      replace hx := Lib.hid hx
      replace hU := Lib.hid hU; replace hD := Lib.hid hD; replace hrow := Lib.hid hrow; replace hcol := Lib.hid hcol; replace hcR := Lib.hid hcR; replace hB0 := Lib.hid hB0
      have hcb : col ≤ 2 := by omega
      have hrb : row ≤ 2 := by omega
      go_wp2_with fail
      have c0 := fun p => (HF.re p).fC
      refine wp_region_quiet_below (by kernel_rfl) (by kernel_rfl) ?_
      repeat (go_big_quiet_step (fail))
      refine wpQuiet_nil ?_
      intro wq hwq
      replace hwq := Cls.below hwq
      clear c0
      replace hX := hX.later hwq
      replace HF := HF.later hwq; replace H1 := H1.later hwq; replace V1 := V1.later hwq; replace hM := hM.later hwq; replace HG := HG.later hwq; replace HW := below_step HW hwq
      clear hwq
      have hdm : row * f.c + col = N := by rw [← hrow.out, ← hcol.out, Nat.mul_comm]; exact Nat.div_add_mod N f.c
      replace hdm := Lib.hid hdm
      clear hqr
      go_upto_block 2 with fail
      go_cut [13] (fun t wx => t = .int .i64 U ∧ Ob wx q FRT f.cells ∧ Ob wx q1 DMT #[.int .i64 (f.c : Int), .int .i64 (f.r : Int), .slice (some ⟨bb, 0, none⟩) M M] ∧ Ob wx z FRT x.cells ∧ VB wx bb 4 M (blv B) ∧ f.Mem wx ∧ x.Mem wx ∧ Below w.heap.size w wx)
      case first =>
        go_wp2_with fail
        go_loopw [13] (fun t wr => ∃ (e : Nat) (v : Int), e ≤ row + 1 ∧ Hid (v = (e : Int) - 1) ∧ t = .int .i64 v ∧ Hid (upR (colR B f.c N) e = U) ∧ Ob wr q FRT f.cells ∧ Ob wr q1 DMT #[.int .i64 (f.c : Int), .int .i64 (f.r : Int), .slice (some ⟨bb, 0, none⟩) M M] ∧ Ob wr z FRT x.cells ∧ VB wr bb 4 M (blv B) ∧ f.Mem wr ∧ x.Mem wr ∧ Below w.heap.size w wr) (fun t _ => (intOf t + 1).toNat)
        case atStart => exact ⟨row + 1, _, by omega, Lib.hid (by omega), rfl, hU, HF, H1, HG, V1, hM, hX, HW⟩
        case round =>
          clear HF H1 HG V1 hM hX HW
          obtain ⟨e, v, he, hv, rfl, hUe, HF, H1, HG, V1, hM, hX, HW⟩ := hrel
          rcases Nat.eq_zero_or_pos e with he0 | he0
          · have hv0 : v = -1 := by have := hv.out; omega
            have hU0 : U = -1 := by have := hUe.out; rw [he0] at this; exact this.symm
            subst hv0 hU0
            go_wp2_with fail
            refine wp_region_quiet_below (by kernel_rfl) (by kernel_rfl) ?_
            repeat (go_big_quiet_step (fail))
            refine wpQuiet_nil ?_
            intro wq hwq
            replace hwq := Cls.below hwq
            replace hX := hX.later hwq
            replace HF := HF.later hwq; replace H1 := H1.later hwq; replace HG := HG.later hwq; replace V1 := V1.later hwq; replace hM := hM.later hwq; replace HW := below_step HW hwq
            clear hwq
            go_wp2_with fail
            go_meet
            exact ⟨rfl, HF, H1, HG, V1, hM, hX, HW⟩
          · obtain ⟨p, rfl⟩ : ∃ p, e = p + 1 := ⟨e - 1, by omega⟩
            obtain rfl : v = (p : Int) := by have := hv.out; omega
            have hI := hB0.out p (by omega)
            obtain ⟨I, hIe⟩ : ∃ I : Nat, p * f.c + col = I := ⟨_, rfl⟩
            have hI2 : (p : Int) * (f.c : Int) + (col : Int) = (I : Int) := by rw [← hIe, Int.natCast_add, Int.natCast_mul]
            have hI3 : 0 ≤ (p : Int) * (f.c : Int) ∧ (p : Int) * (f.c : Int) ≤ 9 := by
              rw [← Int.natCast_mul]; omega
            have hI4 : (IntKind.i64.wrap ((p : Int) * (f.c : Int))) = (p : Int) * (f.c : Int) := IntWalk.i64_in _ (by omega)
            have hI5 : (IntKind.i64.wrap ((p : Int) * (f.c : Int) + (col : Int))) = (I : Int) := by rw [hI2]; exact IntWalk.i64_in _ (by omega)
            rw [hIe] at hI
            have hhas : ∀ W, VB W bb 4 M (blv B) → Calls Try.prog 46 #[.agg #[.int .i64 (f.c : Int), .int .i64 (f.r : Int), .slice (some ⟨bb, 0, none⟩) M M], .int .i64 (I : Int)] W fun e w' => e = .returned (.bool (colR B f.c N p)) ∧ Below W.heap.size W w' := fun W hV => dmHas_is (by rw [has_row hI, hcR.out, hIe]) hV
            have d0 : decide (0 ≤ (p : Int)) = true := by simp
            replace hIe := Lib.hid hIe
            have c0 := fun p => (HF.re p).fC
            have m0 := fun p => (H1.re p).mC; have m1 := fun p => (H1.re p).mR; have m2 := fun p => (H1.re p).mS
            cases hcp : colR B f.c N p
            · rw [hcp] at hhas
              have eU : (p : Int) = U := by rw [← hUe.out, upR_false hcp]
              replace hhas := Lib.hid hhas
              replace hcp := Lib.hid hcp; replace eU := Lib.hid eU
              go_wp2_with fail
              refine wp_region_quiet_below (by kernel_rfl) (by kernel_rfl) ?_
              repeat (go_big_quiet_step (first | (go_at_call 46; with_reducible exact Calls.regrown_of (hhas.out _ (V1.later (below_regrown _ _ _))))))
              refine wpQuiet_nil ?_
              intro wq hwq
              replace hwq := Cls.below hwq
              clear c0 m0 m1 m2 hhas
              replace hX := hX.later hwq
              replace HF := HF.later hwq; replace H1 := H1.later hwq; replace HG := HG.later hwq; replace V1 := V1.later hwq; replace hM := hM.later hwq; replace HW := below_step HW hwq
              clear hwq
              go_wp2_with fail
              go_meet
              exact ⟨by rw [eU.out], HF, H1, HG, V1, hM, hX, HW⟩
            · rw [hcp] at hhas
              have eU : upR (colR B f.c N) p = U := by rw [← hUe.out, upR_true hcp]
              replace hhas := Lib.hid hhas
              replace hcp := Lib.hid hcp; replace eU := Lib.hid eU
              go_wp2_with fail
              refine wp_region_quiet_below (by kernel_rfl) (by kernel_rfl) ?_
              repeat (go_big_quiet_step (first | (go_at_call 46; with_reducible exact Calls.regrown_of (hhas.out _ (V1.later (below_regrown _ _ _))))))
              refine wpQuiet_nil ?_
              intro wq hwq
              replace hwq := Cls.below hwq
              clear c0 m0 m1 m2 hhas
              replace hX := hX.later hwq
              replace HF := HF.later hwq; replace H1 := H1.later hwq; replace HG := HG.later hwq; replace V1 := V1.later hwq; replace hM := hM.later hwq; replace HW := below_step HW hwq
              clear hwq
              go_wp2_with fail
              exact ⟨⟨p, _, by omega, Lib.hid rfl, rfl, eU, HF, H1, HG, V1, hM, hX, HW⟩, by simp [intOf]⟩
      case rest =>
        obtain ⟨rfl, HF, H1, HG, V1, hM, hX, HW⟩ := hcut
        go_upto_block 4 with fail
        go_cut [14] (fun t wx => t = .int .i64 (D : Int) ∧ Ob wx q FRT f.cells ∧ Ob wx q1 DMT #[.int .i64 (f.c : Int), .int .i64 (f.r : Int), .slice (some ⟨bb, 0, none⟩) M M] ∧ Ob wx z FRT x.cells ∧ VB wx bb 4 M (blv B) ∧ f.Mem wx ∧ x.Mem wx ∧ Below w.heap.size w wx)
        case first =>
          go_wp2_with fail
          go_loopw [14] (fun t wr => ∃ (e : Nat), e ≤ f.r ∧ t = .int .i64 (e : Int) ∧ Hid (dnR (colR B f.c N) (f.r - e) e = D) ∧ Ob wr q FRT f.cells ∧ Ob wr q1 DMT #[.int .i64 (f.c : Int), .int .i64 (f.r : Int), .slice (some ⟨bb, 0, none⟩) M M] ∧ Ob wr z FRT x.cells ∧ VB wr bb 4 M (blv B) ∧ f.Mem wr ∧ x.Mem wr ∧ Below w.heap.size w wr) (fun t _ => f.r - (intOf t).toNat)
          case atStart => exact ⟨row, by omega, rfl, hD, HF, H1, HG, V1, hM, hX, HW⟩
          case round =>
            clear HF H1 HG V1 hM hX HW
            obtain ⟨e, he, rfl, hDe, HF, H1, HG, V1, hM, hX, HW⟩ := hrel
            have c0 := fun p => (HF.re p).fC; have c1 := fun p => (HF.re p).fR
            rcases Nat.lt_or_ge e f.r with he0 | he0
            · have hI := hB0.out e he0
              obtain ⟨I, hIe⟩ : ∃ I : Nat, e * f.c + col = I := ⟨_, rfl⟩
              have hI2 : (e : Int) * (f.c : Int) + (col : Int) = (I : Int) := by rw [← hIe, Int.natCast_add, Int.natCast_mul]
              have hI3 : 0 ≤ (e : Int) * (f.c : Int) ∧ (e : Int) * (f.c : Int) ≤ 9 := by
                rw [← Int.natCast_mul]; omega
              have hI4 : (IntKind.i64.wrap ((e : Int) * (f.c : Int))) = (e : Int) * (f.c : Int) := IntWalk.i64_in _ (by omega)
              have hI5 : (IntKind.i64.wrap ((e : Int) * (f.c : Int) + (col : Int))) = (I : Int) := by rw [hI2]; exact IntWalk.i64_in _ (by omega)
              rw [hIe] at hI
              have hhas : ∀ W, VB W bb 4 M (blv B) → Calls Try.prog 46 #[.agg #[.int .i64 (f.c : Int), .int .i64 (f.r : Int), .slice (some ⟨bb, 0, none⟩) M M], .int .i64 (I : Int)] W fun e' w' => e' = .returned (.bool (colR B f.c N e)) ∧ Below W.heap.size W w' := fun W hV => dmHas_is (by rw [has_row hI, hcR.out, hIe]) hV
              have d0 : decide ((e : Int) < (f.r : Int)) = true := by simpa using he0
              replace hIe := Lib.hid hIe
              have m0 := fun p => (H1.re p).mC; have m1 := fun p => (H1.re p).mR; have m2 := fun p => (H1.re p).mS
              obtain ⟨fu, hfu⟩ : ∃ fu, f.r - e = fu + 1 := ⟨f.r - e - 1, by omega⟩
              cases hcp : colR B f.c N e
              · rw [hcp] at hhas
                have eD : e = D := by rw [← hDe.out, dnR_false hcp]
                replace hhas := Lib.hid hhas
                replace hcp := Lib.hid hcp; replace eD := Lib.hid eD; replace hfu := Lib.hid hfu
                go_wp2_with fail
                refine wp_region_quiet_below (by kernel_rfl) (by kernel_rfl) ?_
                repeat (go_big_quiet_step (first | (go_at_call 46; with_reducible exact Calls.regrown_of (hhas.out _ (V1.later (below_regrown _ _ _))))))
                refine wpQuiet_nil ?_
                intro wq hwq
                replace hwq := Cls.below hwq
                clear c0 c1 m0 m1 m2 hhas
                replace hX := hX.later hwq
                replace HF := HF.later hwq; replace H1 := H1.later hwq; replace HG := HG.later hwq; replace V1 := V1.later hwq; replace hM := hM.later hwq; replace HW := below_step HW hwq
                clear hwq
                go_wp2_with fail
                go_meet
                exact ⟨by rw [eD.out], HF, H1, HG, V1, hM, hX, HW⟩
              · rw [hcp] at hhas
                have eD : dnR (colR B f.c N) (f.r - (e + 1)) (e + 1) = D := by
                  have h9 : f.r - (e + 1) = fu := by omega
                  rw [h9, ← hDe.out, hfu, dnR_true hcp]
                replace hhas := Lib.hid hhas
                replace hcp := Lib.hid hcp; replace eD := Lib.hid eD; replace hfu := Lib.hid hfu
                go_wp2_with fail
                refine wp_region_quiet_below (by kernel_rfl) (by kernel_rfl) ?_
                repeat (go_big_quiet_step (first | (go_at_call 46; with_reducible exact Calls.regrown_of (hhas.out _ (V1.later (below_regrown _ _ _))))))
                refine wpQuiet_nil ?_
                intro wq hwq
                replace hwq := Cls.below hwq
                clear c0 c1 m0 m1 m2 hhas
                replace hX := hX.later hwq
                replace HF := HF.later hwq; replace H1 := H1.later hwq; replace HG := HG.later hwq; replace V1 := V1.later hwq; replace hM := hM.later hwq; replace HW := below_step HW hwq
                clear hwq
                go_wp2_with fail
                exact ⟨⟨e + 1, by omega, by go_num, eD, HF, H1, HG, V1, hM, hX, HW⟩, by (simp [intOf]) <;> omega⟩
            · obtain rfl : e = f.r := by omega
              have eD : f.r = D := by have := hDe.out; rw [Nat.sub_self] at this; exact this
              replace eD := Lib.hid eD
              have d0 : decide ((f.r : Int) < (f.r : Int)) = false := by simp
              go_wp2_with fail
              refine wp_region_quiet_below (by kernel_rfl) (by kernel_rfl) ?_
              repeat (go_big_quiet_step (fail))
              refine wpQuiet_nil ?_
              intro wq hwq
              replace hwq := Cls.below hwq
              clear c0 c1
              replace hX := hX.later hwq
              replace HF := HF.later hwq; replace H1 := H1.later hwq; replace HG := HG.later hwq; replace V1 := V1.later hwq; replace hM := hM.later hwq; replace HW := below_step HW hwq
              clear hwq
              go_wp2_with fail
              go_meet
              exact ⟨by rw [eD.out], HF, H1, HG, V1, hM, hX, HW⟩
        case rest =>
          obtain ⟨rfl, HF, H1, HG, V1, hM, hX, HW⟩ := hcut
          have hg2 := H1.mS
          go_wp2_with fail
          clear hg2
          go_loopw [118] (fun t wr => ∃ (j : Nat), j ≤ M ∧ t = .int .i64 (j : Int) ∧ Ob wr q FRT f.cells ∧ Ob wr z FRT x.cells ∧ f.Mem wr ∧ x.Mem wr ∧ Below w.heap.size w wr) (fun t _ => M - (intOf t).toNat)
          case atStart => exact ⟨0, by omega, rfl, HF, HG, hM, hX, HW⟩
          case round =>
            clear HF H1 HG V1 hM hX HW
            obtain ⟨j, hj, rfl, HF, HG, hM, hX, HW⟩ := hrel
            by_cases hjM : j < M
            · have hd : decide ((j : Int) < (M : Int)) = true := by simp; omega
              by_cases hjN : j = N
              · have hne : ((j : Int) != (N : Int)) = false := by simp; omega
                go_wp2_with fail
                exact ⟨⟨j + 1, by omega, by go_num, HF, HG, hM, hX, HW⟩, by simp [intOf]; omega⟩
              · have hne : ((j : Int) != (N : Int)) = true := by simp; omega
                have hsa : sameAtB f x j = true := spr_else hx.out hg.out (by omega) (by rw [hMe.out]; exact hjM) hjN
                have hxc : 0 < x.c := by have := (hx.out.pw 0).2.2.2.2.2.1; have := hgd.out.1; omega
                have hsm : ∀ W, f.Mem W → x.Mem W → Calls Try.prog 51 #[f.val, x.val, .int .i64 (j : Int)] W fun e w' => e = .returned (.bool true) ∧ Below W.heap.size W w' := fun W h1 h2 => by have := sameAt_any f x j W h1 h2 (by omega) hxc (by omega); rw [hsa] at this; exact this
                replace hsm := Lib.hid hsm; clear hsa
                go_wp2_with (first | (refine wpList_load_ob_g HF rfl 43 _ rfl rfl Try.underlying43 (by kernel_rfl) ?_) | (refine wpList_load_ob_g HG rfl 43 _ rfl rfl Try.underlying43 (by kernel_rfl) ?_))
                refine (hsm.out _ hM hX).mono ?_
                rintro e w13 ⟨rfl, hb⟩
                replace hX := hX.later hb
                replace HF := HF.later hb; replace HG := HG.later hb; replace hM := hM.later hb; replace HW := below_step HW hb
                clear hb
                go_wp2_with fail
                exact ⟨⟨j + 1, by omega, by go_num, HF, HG, hM, hX, HW⟩, by simp [intOf]; omega⟩
            · have hd : decide ((j : Int) < (M : Int)) = false := by simp; omega
              go_wp2_with fail
              go_loopw [132] (fun t wr => ∃ (k : Nat), k ≤ 6 ∧ t = .int .i64 (k : Int) ∧ Ob wr q FRT f.cells ∧ Ob wr z FRT x.cells ∧ f.Mem wr ∧ x.Mem wr ∧ Below w.heap.size w wr) (fun t _ => 6 - (intOf t).toNat)
              case atStart => exact ⟨0, by omega, rfl, HF, HG, hM, hX, HW⟩
              case round =>
                clear HF HG hM hX HW hd
                obtain ⟨k, hk, rfl, HF, HG, hM, hX, HW⟩ := hrel
                by_cases hk6 : k < 6
                · have hd : decide ((k : Int) < 6) = true := by simp; omega
                  have hxd : x.c = f.c ∧ x.r = f.r := ⟨by rw [hx.out.dims.1]; exact hgd.out.1, by rw [hx.out.dims.2.1]; exact hgd.out.2⟩
                  have hxc : 0 < x.c ∧ x.c ≤ 8 := by omega
                  replace hxd := Lib.hid hxd
                  go_wp2_with (refine wpList_load_ob_g HF rfl 43 _ rfl rfl Try.underlying43 (by kernel_rfl) ?_)
                  refine (frBlock_any f N k _ (by omega) hc8 (by omega) hk6).mono ?_
                  rintro e w14 ⟨rfl, hb⟩
                  replace hX := hX.later hb
                  replace HF := HF.later hb; replace HG := HG.later hb; replace hM := hM.later hb; replace HW := below_step HW hb
                  clear hb
                  unfold Fr.blkV
                  go_upto_region 30 with fail
                  have HP : Ob (w14.alloc (.cells #[.int .i64 (f.pw k : Int), .int .i64 (f.ph k : Int), .slice (some ⟨f.pb k, 0, none⟩) (f.pw k * f.ph k) (f.pc k)] PLT)) w14.heap.size PLT #[.int .i64 (f.pw k : Int), .int .i64 (f.ph k : Int), .slice (some ⟨f.pb k, 0, none⟩) (f.pw k * f.ph k) (f.pc k)] := Ob.new_at _ _ rfl
                  replace HF := HF.alloc (.cells #[.int .i64 (f.pw k : Int), .int .i64 (f.ph k : Int), .slice (some ⟨f.pb k, 0, none⟩) (f.pw k * f.ph k) (f.pc k)] PLT); replace HG := HG.alloc (.cells #[.int .i64 (f.pw k : Int), .int .i64 (f.ph k : Int), .slice (some ⟨f.pb k, 0, none⟩) (f.pw k * f.ph k) (f.pc k)] PLT); replace hM := hM.alloc (.cells #[.int .i64 (f.pw k : Int), .int .i64 (f.ph k : Int), .slice (some ⟨f.pb k, 0, none⟩) (f.pw k * f.ph k) (f.pc k)] PLT); replace hX := hX.alloc (.cells #[.int .i64 (f.pw k : Int), .int .i64 (f.ph k : Int), .slice (some ⟨f.pb k, 0, none⟩) (f.pw k * f.ph k) (f.pc k)] PLT); replace HW := HW.alloc HW.size (.cells #[.int .i64 (f.pw k : Int), .int .i64 (f.ph k : Int), .slice (some ⟨f.pb k, 0, none⟩) (f.pw k * f.ph k) (f.pc k)] PLT)
                  generalize w14.alloc (.cells #[.int .i64 (f.pw k : Int), .int .i64 (f.ph k : Int), .slice (some ⟨f.pb k, 0, none⟩) (f.pw k * f.ph k) (f.pc k)] PLT) = w15 at *
                  generalize w14.heap.size = pp at *
                  go_wp2_with (refine wpList_load_ob_g HG rfl 43 _ rfl rfl Try.underlying43 (by kernel_rfl) ?_)
                  refine (frBlock_any x N k _ hxc.1 hxc.2 (by omega) hk6).mono ?_
                  rintro e w16 ⟨rfl, hb⟩
                  replace hX := hX.later hb
                  replace HF := HF.later hb; replace HG := HG.later hb; replace HP := HP.later hb; replace hM := hM.later hb; replace HW := below_step HW hb
                  clear hb
                  unfold Fr.blkV
                  go_upto_if 152 with fail
                  have HQ : Ob (w16.alloc (.cells #[.int .i64 (x.pw k : Int), .int .i64 (x.ph k : Int), .slice (some ⟨x.pb k, 0, none⟩) (x.pw k * x.ph k) (x.pc k)] PLT)) w16.heap.size PLT #[.int .i64 (x.pw k : Int), .int .i64 (x.ph k : Int), .slice (some ⟨x.pb k, 0, none⟩) (x.pw k * x.ph k) (x.pc k)] := Ob.new_at _ _ rfl
                  replace HF := HF.alloc (.cells #[.int .i64 (x.pw k : Int), .int .i64 (x.ph k : Int), .slice (some ⟨x.pb k, 0, none⟩) (x.pw k * x.ph k) (x.pc k)] PLT); replace HG := HG.alloc (.cells #[.int .i64 (x.pw k : Int), .int .i64 (x.ph k : Int), .slice (some ⟨x.pb k, 0, none⟩) (x.pw k * x.ph k) (x.pc k)] PLT); replace HP := HP.alloc (.cells #[.int .i64 (x.pw k : Int), .int .i64 (x.ph k : Int), .slice (some ⟨x.pb k, 0, none⟩) (x.pw k * x.ph k) (x.pc k)] PLT); replace hM := hM.alloc (.cells #[.int .i64 (x.pw k : Int), .int .i64 (x.ph k : Int), .slice (some ⟨x.pb k, 0, none⟩) (x.pw k * x.ph k) (x.pc k)] PLT); replace hX := hX.alloc (.cells #[.int .i64 (x.pw k : Int), .int .i64 (x.ph k : Int), .slice (some ⟨x.pb k, 0, none⟩) (x.pw k * x.ph k) (x.pc k)] PLT); replace HW := HW.alloc HW.size (.cells #[.int .i64 (x.pw k : Int), .int .i64 (x.ph k : Int), .slice (some ⟨x.pb k, 0, none⟩) (x.pw k * x.ph k) (x.pc k)] PLT)
                  generalize w16.alloc (.cells #[.int .i64 (x.pw k : Int), .int .i64 (x.ph k : Int), .slice (some ⟨x.pb k, 0, none⟩) (x.pw k * x.ph k) (x.pc k)] PLT) = w17 at *
                  generalize w16.heap.size = qq at *
                  go_cut [23] (fun t wx => t = .int .i64 (szk k : Int) ∧ wx = w17)
                  case first =>
                    by_cases h4 : k < 4
                    · have d : decide ((k : Int) < 4) = true := by simp; omega
                      have e : szk k = 16 := by unfold szk; rw [if_pos h4]
                      replace e := Lib.hid e
                      go_wp2_with fail
                      go_meet
                      exact ⟨by rw [e.out]; rfl, rfl⟩
                    · have d : decide ((k : Int) < 4) = false := by simp; omega
                      have e : szk k = 8 := by unfold szk; rw [if_neg h4]
                      replace e := Lib.hid e
                      go_wp2_with fail
                      go_meet
                      exact ⟨by rw [e.out]; rfl, rfl⟩
                  case rest =>
                    obtain ⟨rfl, rfl⟩ := hcut
                    have hsz : szk k = 16 ∨ szk k = 8 := by unfold szk; split <;> simp
                    have hspW := fun j => spW_is f N k U D j
                    obtain ⟨S, hS⟩ : ∃ S, szk k = S := ⟨_, rfl⟩
                    rw [hS] at hsz hspW ⊢
                    clear hS
                    have hus : -16 ≤ U * (S : Int) ∧ U * (S : Int) ≤ 48 := by rcases hsz with rfl | rfl <;> omega
                    have hds : 0 ≤ (D : Int) * (S : Int) ∧ (D : Int) * (S : Int) ≤ 48 := by rcases hsz with rfl | rfl <;> omega
                    obtain ⟨hus1, hus2⟩ := hus
                    obtain ⟨hds1, hds2⟩ := hds
                    have hS2 : 8 ≤ (S : Int) ∧ (S : Int) ≤ 16 := by omega
                    obtain ⟨hS3, hS4⟩ := hS2
                    replace hspW := Lib.hid hspW
                    clear hd
                    obtain ⟨y1, y2, y3, y4⟩ := f.pxy_bd (show N ≤ 1000000 by omega) hk6
                    obtain ⟨t1, t2⟩ := f.nxy_lt (show 0 < f.c by omega) hNf hk6
                    have t3 := f.px_nx N k; have t4 := f.py_ny N k
                    obtain ⟨t5, t6⟩ := hM.plb k
                    have y5 : f.px N k ≤ 128 := by omega
                    have y6 : f.py N k ≤ 128 := by omega
                    clear t1 t2 t3 t4 t5 t6 y2 y4
                    go_wp2_with fail
                    obtain ⟨A, hA⟩ : ∃ A, U * (S : Int) + (S : Int) - 1 = A := ⟨_, rfl⟩
                    obtain ⟨E, hE⟩ : ∃ E, (D : Int) * (S : Int) = E := ⟨_, rfl⟩
                    rw [hA, hE]
                    have hAb : -9 ≤ A ∧ A ≤ 63 := by omega
                    have hEb : 0 ≤ E ∧ E ≤ 48 := by omega
                    have hspW2 := hspW.out
                    rw [hA, hE] at hspW2
                    clear hspW
                    replace hspW2 := Lib.hid hspW2
                    clear hA hE hus1 hus2 hds1 hds2 hS3 hS4 hsz
                    obtain ⟨a1, a2⟩ := hAb; obtain ⟨e1, e2⟩ := hEb
                    go_loopw [162] (fun t wr => ∃ (i : Nat), i ≤ 64 ∧ t = .int .i64 (i : Int) ∧ Ob wr q FRT f.cells ∧ Ob wr z FRT x.cells ∧ Ob wr pp PLT #[.int .i64 (f.pw k : Int), .int .i64 (f.ph k : Int), .slice (some ⟨f.pb k, 0, none⟩) (f.pw k * f.ph k) (f.pc k)] ∧ Ob wr qq PLT #[.int .i64 (x.pw k : Int), .int .i64 (x.ph k : Int), .slice (some ⟨x.pb k, 0, none⟩) (x.pw k * x.ph k) (x.pc k)] ∧ f.Mem wr ∧ x.Mem wr ∧ Below w.heap.size w wr) (fun t _ => 64 - (intOf t).toNat)
                    case atStart => exact ⟨0, by omega, rfl, HF, HG, HP, HQ, hM, hX, HW⟩
                    case round =>
                      clear HF HG HP HQ hM hX HW
                      obtain ⟨i, hi, rfl, HF, HG, HP, HQ, hM, hX, HW⟩ := hrel
                      by_cases hi64 : i < 64
                      · have hd : decide ((i : Int) < 64) = true := by simp; omega
                        have i0 : (0 : Int) ≤ i := by omega
                        go_upto_block 12 with fail
                        obtain ⟨X, hXe⟩ : ∃ X, f.px N k + (i : Int) % 8 = X := ⟨_, rfl⟩
                        obtain ⟨Y, hYe⟩ : ∃ Y, f.py N k + (i : Int) / 8 = Y := ⟨_, rfl⟩
                        rw [hXe, hYe]
                        have hXb : 0 ≤ X ∧ X ≤ 200 := by omega
                        have hYb : 0 ≤ Y ∧ Y ≤ 200 := by omega
                        obtain ⟨x1, x2⟩ := hXb; obtain ⟨yb1, yb2⟩ := hYb
                        have hVe : spW (f.pw k) (f.ph k) (f.ps k) X Y U D f.r A E = sprV f N k U D i := by
                          rw [← hspW2.out i, ← hXe, ← hYe]; congr 1
                        have hsx : plAt (x.pw k) (x.ph k) (x.ps k) X Y = imin (imax (spW (f.pw k) (f.ph k) (f.ps k) X Y U D f.r A E) 0) 255 := by
                          rw [sat_eq, hVe]
                          have g1 := hx.out.of_like hg.out k hk6 N hNf i hi64
                          rw [if_pos rfl] at g1
                          rw [← g1]
                          have g2 := mbF_ix (f := x) (mb := N) (k := k) (j := i) hxc.1 (by rw [hxd.out.1, hxd.out.2]; exact hNf) hk6 hi64
                          have g3 : x.ix N k i = f.ix N k i := by rw [hx.out.dims.2.2, (like_xy hg.out N k).2.2]
                          rw [← g3, ← g2]
                          unfold mbF blockF
                          have g4 : x.px N k = f.px N k := by unfold Fr.px; rw [hxd.out.1]
                          have g5 : x.py N k = f.py N k := by unfold Fr.py; rw [hxd.out.1]
                          rw [g4, g5, ← hXe, ← hYe]; congr 1
                        have hpx := hx.out.pw k
                        have hatx : ∀ W, x.Mem W → Calls Try.prog 35 #[.agg #[.int .i64 (x.pw k : Int), .int .i64 (x.ph k : Int), .slice (some ⟨x.pb k, 0, none⟩) (x.pw k * x.ph k) (x.pc k)], .int .i64 X, .int .i64 Y] W fun e w' => e = .returned (.int .u8 (imin (imax (spW (f.pw k) (f.ph k) (f.ps k) X Y U D f.r A E) 0) 255)) ∧ Below W.heap.size W w' := fun W h => by
                          rw [← hsx]
                          have hb := h.plb k
                          exact at_any (x.pw k) (x.ph k) (x.pb k) (x.pc k) (x.ps k) X Y W (by omega) (by omega) (h.pl k)
                        have hatf : ∀ (y : Int) W, f.Mem W → Calls Try.prog 35 #[.agg #[.int .i64 (f.pw k : Int), .int .i64 (f.ph k : Int), .slice (some ⟨f.pb k, 0, none⟩) (f.pw k * f.ph k) (f.pc k)], .int .i64 X, .int .i64 y] W fun e w' => e = .returned (.int .u8 (plAt (f.pw k) (f.ph k) (f.ps k) X y)) ∧ Below W.heap.size W w' := fun y W h => by
                          have hb := h.plb k
                          exact at_any (f.pw k) (f.ph k) (f.pb k) (f.pc k) (f.ps k) X y W (by omega) (by omega) (h.pl k)
                        replace hatx := Lib.hid hatx; replace hatf := Lib.hid hatf
                        have b1 := plAt_bd (hM.pl k) X A
                        have b2 := plAt_bd (hM.pl k) X E
                        obtain ⟨V, hV⟩ : ∃ V, spW (f.pw k) (f.ph k) (f.ps k) X Y U D f.r A E = V := ⟨_, rfl⟩
                        rw [hV] at hatx
                        replace hV := Lib.hid hV
                        clear hVe hsx hpx hd
                        replace hXe := Lib.hid hXe; replace hYe := Lib.hid hYe
                        go_cut [29] (fun t wx => t = .int .i64 V ∧ Ob wx q FRT f.cells ∧ Ob wx z FRT x.cells ∧ Ob wx pp PLT #[.int .i64 (f.pw k : Int), .int .i64 (f.ph k : Int), .slice (some ⟨f.pb k, 0, none⟩) (f.pw k * f.ph k) (f.pc k)] ∧ Ob wx qq PLT #[.int .i64 (x.pw k : Int), .int .i64 (x.ph k : Int), .slice (some ⟨x.pb k, 0, none⟩) (x.pw k * x.ph k) (x.pc k)] ∧ f.Mem wx ∧ x.Mem wx ∧ Below w.heap.size w wx)
                        case first =>
                          have g1 := HF.sR
                          by_cases hU0 : 0 ≤ U
                          · have d1 : decide (0 ≤ U) = true := by simpa using hU0
                            by_cases hD0 : D < f.r ∧ A < E
                            · obtain ⟨hD1, hAE⟩ := hD0
                              have d2 : decide ((D : Int) < (f.r : Int)) = true := by simpa using hD1
                              have d3 : decide (A < E) = true := by simpa using hAE
                              have hVV : (plAt (f.pw k) (f.ph k) (f.ps k) X A * (E - Y) + plAt (f.pw k) (f.ph k) (f.ps k) X E * (Y - A)).tdiv (E - A) = V := by
                                rw [← hV.out]; unfold spW; rw [if_pos ⟨⟨hU0, hD1⟩, hAE⟩]
                              obtain ⟨P1, hP1⟩ : ∃ P1, plAt (f.pw k) (f.ph k) (f.ps k) X A = P1 := ⟨_, rfl⟩
                              obtain ⟨P2, hP2⟩ : ∃ P2, plAt (f.pw k) (f.ph k) (f.ps k) X E = P2 := ⟨_, rfl⟩
                              have hat1 := hatf.out A
                              have hat2 := hatf.out E
                              rw [hP1] at hat1 b1 hVV; rw [hP2] at hat2 b2 hVV
                              replace hat1 := Lib.hid hat1; replace hat2 := Lib.hid hat2
                              clear hP1 hP2
                              obtain ⟨m1, m2⟩ := mul_bd255 b1 (z := E - Y) (by omega) (by omega)
                              obtain ⟨m3, m4⟩ := mul_bd255 b2 (z := Y - A) (by omega) (by omega)
                              obtain ⟨m5, m6⟩ := tdiv_bd (d := E - A) (show -1069547520 ≤ P1 * (E - Y) + P2 * (Y - A) by omega) (by omega)
                              obtain ⟨b3, b4⟩ := b1; obtain ⟨b5, b6⟩ := b2
                              have dz : ((E - A) == 0) = false := by simp; omega
                              replace hVV := Lib.hid hVV
                              go_wp2_with fail
                              have e0 := fun p => (HP.re p).plW
                              have e1 := fun p => (HP.re p).plH
                              have e2 := fun p => (HP.re p).plS
                              refine wp_region_quiet_below (by kernel_rfl) (by kernel_rfl) ?_
                              repeat (go_big_quiet_step (first | (go_at_call 35; with_reducible exact Calls.regrown_of (hat1.out _ (hM.later (below_regrown _ _ _)))) | (go_at_call 35; with_reducible exact Calls.regrown_of (hat2.out _ (hM.later (below_regrown _ _ _))))))
                              refine wpQuiet_nil ?_
                              intro wq hwq
                              replace hwq := Cls.below hwq
                              clear e0 e1 e2
                              replace hX := hX.later hwq
                              replace HF := HF.later hwq; replace HG := HG.later hwq; replace HP := HP.later hwq; replace HQ := HQ.later hwq; replace hM := hM.later hwq; replace HW := below_step HW hwq
                              clear hwq
                              go_wp2_with fail
                              go_meet
                              exact ⟨by rw [hVV.out], HF, HG, HP, HQ, hM, hX, HW⟩
                            · have hVV : plAt (f.pw k) (f.ph k) (f.ps k) X A = V := by
                                rw [← hV.out]; unfold spW; rw [if_neg (fun h => hD0 ⟨h.1.2, h.2⟩), if_pos hU0]
                              have hat1 := hatf.out A
                              rw [hVV] at hat1 b1
                              replace hat1 := Lib.hid hat1
                              obtain ⟨b3, b4⟩ := b1
                              clear hVV b2
                              rcases Nat.lt_or_ge D f.r with hD1 | hD1
                              · have d2 : decide ((D : Int) < (f.r : Int)) = true := by simpa using hD1
                                have d3 : decide (A < E) = false := by simp; omega
                                clear hD0
                                go_wp2_with (refine wpList_load_ob_g HP rfl 41 _ rfl rfl Try.underlying41 (by kernel_rfl) ?_)
                                refine (hat1.out _ hM).mono ?_
                                rintro e w18 ⟨rfl, hb⟩
                                clear g1
                                replace hX := hX.later hb
                                replace HF := HF.later hb; replace HG := HG.later hb; replace HP := HP.later hb; replace HQ := HQ.later hb; replace hM := hM.later hb; replace HW := below_step HW hb
                                clear hb
                                go_wp2_with fail
                                go_meet
                                exact ⟨rfl, HF, HG, HP, HQ, hM, hX, HW⟩
                              · have d2 : decide ((D : Int) < (f.r : Int)) = false := by simp; omega
                                clear hD0
                                go_wp2_with (refine wpList_load_ob_g HP rfl 41 _ rfl rfl Try.underlying41 (by kernel_rfl) ?_)
                                refine (hat1.out _ hM).mono ?_
                                rintro e w18 ⟨rfl, hb⟩
                                clear g1
                                replace hX := hX.later hb
                                replace HF := HF.later hb; replace HG := HG.later hb; replace HP := HP.later hb; replace HQ := HQ.later hb; replace hM := hM.later hb; replace HW := below_step HW hb
                                clear hb
                                go_wp2_with fail
                                go_meet
                                exact ⟨rfl, HF, HG, HP, HQ, hM, hX, HW⟩
                          · have d1 : decide (0 ≤ U) = false := by simp; omega
                            clear b1
                            rcases Nat.lt_or_ge D f.r with hD1 | hD1
                            · have d2 : decide ((D : Int) < (f.r : Int)) = true := by simpa using hD1
                              have hVV : plAt (f.pw k) (f.ph k) (f.ps k) X E = V := by
                                rw [← hV.out]; unfold spW; rw [if_neg (fun h => hU0 h.1.1), if_neg hU0, if_pos hD1]
                              have hat1 := hatf.out E
                              rw [hVV] at hat1 b2
                              replace hat1 := Lib.hid hat1
                              obtain ⟨b3, b4⟩ := b2
                              clear hVV
                              go_wp2_with (refine wpList_load_ob_g HP rfl 41 _ rfl rfl Try.underlying41 (by kernel_rfl) ?_)
                              refine (hat1.out _ hM).mono ?_
                              rintro e w18 ⟨rfl, hb⟩
                              clear g1
                              replace hX := hX.later hb
                              replace HF := HF.later hb; replace HG := HG.later hb; replace HP := HP.later hb; replace HQ := HQ.later hb; replace hM := hM.later hb; replace HW := below_step HW hb
                              clear hb
                              go_wp2_with fail
                              go_meet
                              exact ⟨rfl, HF, HG, HP, HQ, hM, hX, HW⟩
                            · have d2 : decide ((D : Int) < (f.r : Int)) = false := by simp; omega
                              have hVV : V = 128 := by
                                rw [← hV.out]; unfold spW; rw [if_neg (fun h => hU0 h.1.1), if_neg hU0, if_neg (by omega)]
                              replace hVV := Lib.hid hVV
                              clear b2
                              go_wp2_with fail
                              go_meet
                              exact ⟨by rw [hVV.out], HF, HG, HP, HQ, hM, hX, HW⟩
                        case rest =>
                          obtain ⟨rfl, HF, HG, HP, HQ, hM, hX, HW⟩ := hcut
                          obtain ⟨Z, hZ⟩ : ∃ Z, imin (imax V 0) 255 = Z := ⟨_, rfl⟩
                          rw [hZ] at hatx
                          have hZb : 0 ≤ Z ∧ Z ≤ 255 := by rw [← hZ, imin_eq, imax_eq]; omega
                          obtain ⟨z1, z2⟩ := hZb
                          clear b1 b2 hV
                          go_wp2_with (refine wpList_load_ob_g HQ rfl 41 _ rfl rfl Try.underlying41 (by kernel_rfl) ?_)
                          refine (hatx.out _ hX).mono ?_
                          rintro e w19 ⟨rfl, hb⟩
                          replace hX := hX.later hb
                          replace HF := HF.later hb; replace HG := HG.later hb; replace HP := HP.later hb; replace HQ := HQ.later hb; replace hM := hM.later hb; replace HW := below_step HW hb
                          clear hb
                          go_wp2_with fail
                          exact ⟨⟨i + 1, by omega, by go_num, HF, HG, HP, HQ, hM, hX, HW⟩, by simp [intOf]; omega⟩
                      · have hd : decide ((i : Int) < 64) = false := by simp; omega
                        go_wp2_with fail
                        exact ⟨⟨k + 1, by omega, by go_num, HF, HG, hM, hX, HW⟩, by simp [intOf]; omega⟩
                · have hd : decide ((k : Int) < 6) = false := by simp; omega
                  go_wp2_with fail
                  go_ret
                  exact ⟨rfl, HW⟩
end Go.Proofs.Ytbldgpemocnboaa

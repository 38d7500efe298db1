/- The walk of the law ConcealVectors: true at every input. -/
import Derived.Test.YtbldgpemocnboaaCvP
import Derived.Test.YtbldgpemocnboaaWay
import Derived.Test.YtbldgpemocnboaaQld
import Derived.Test.YtbldgpemocnboaaSprM
import Derived.Test.YtbldgpemocnboaaConM
namespace Go.Proofs.Ytbldgpemocnboaa
open Go.RowKit Go.Sort
attribute [local go_sem ↓] run_imax run_imin

def swC (WX WY : Nat → Nat → Int) (WS : Nat → Bool) (k : Nat) : Value := wyC (WX (k / 9)) (WY (k / 9)) (WS (k / 9)) (k % 9)
def wvP (WX WY : Nat → Nat → Int) (WS : Nat → Bool) (i : Nat) : VP := (wyV (WS i) (WX i), wyV (WS i) (WY i))
theorem fb1 : Value.complex .f64 4607182418800017408 0 = vcV 1 0 := by
  unfold vcV; rw [show fbits 1 = 4607182418800017408 by decide +kernel, fbits_zero]
set_option maxRecDepth 1000000 in
set_option maxHeartbeats 16000000 in
theorem conVectors_walk (a0 a1 : Int) (p2 : Option Addr) (ls lc : Nat) (bad : Nat → Bool) (p3 : Option Addr) (lk lkc : Nat) (kn : Nat → Bool) (p4 : Option Addr) (lw lwc : Nat) (WX WY : Nat → Nat → Int) (WS : Nat → Bool) (mb : Int) (w : World)
    (h0 : 0 ≤ a0 ∧ a0 ≤ 255) (h1 : 0 ≤ a1 ∧ a1 ≤ 255) (hls : ls ≤ maxLen) (hS : SL w p2 ls (blv bad)) (hlk : lk ≤ maxLen) (hS3 : SL w p3 lk (blv kn)) (hlw : lw ≤ maxLen) (hS4 : SL w p4 (lw * 9) (swC WX WY WS)) (hWB : ∀ i, i < lw → WyB (WX i) (WY i)) (hmb : 0 ≤ mb ∧ mb ≤ 255) :
    Calls Try.prog 5 #[.int .u8 a0, .int .u8 a1, .slice p2 ls lc, .slice p3 lk lkc, .slice p4 lw lwc, .int .u8 mb] w fun e w' => e = .returned (.bool true) ∧ Below w.heap.size w w' := by
  replace hS := Lib.hid hS; replace hS3 := Lib.hid hS3; replace hS4 := Lib.hid hS4; replace hWB := Lib.hid hWB
  have hmm := @run_makeMap Try.prog
  have hls2 : ls ≤ 9223372036854775807 := by unfold maxLen at hls; omega
  have hlk2 : lk ≤ 9223372036854775807 := by unfold maxLen at hlk; omega
  have hlw2 : lw ≤ 9223372036854775807 := by unfold maxLen at hlw; omega
  obtain ⟨hmb0, hmb1⟩ := hmb
  obtain ⟨C, hA⟩ : ∃ C : Nat, 1 + a0 % 4 = (C : Int) := ⟨(1 + a0 % 4).toNat, by omega⟩
  obtain ⟨R, hB⟩ : ∃ R : Nat, 1 + a1 % 4 = (R : Int) := ⟨(1 + a1 % 4).toNat, by omega⟩
  have hC : 1 ≤ C ∧ C ≤ 4 := by omega
  have hR : 1 ≤ R ∧ R ≤ 4 := by omega
  obtain ⟨M, hMe⟩ : ∃ M, C * R = M := ⟨_, rfl⟩
  have hM0 : 0 < M := by rw [← hMe]; exact Nat.mul_pos (by omega) (by omega)
  have hM9 : M ≤ 16 := by rw [← hMe]; exact Nat.mul_le_mul hC.2 hR.2
  obtain ⟨N, hN1, hN2⟩ := mb_of mb hM0 hmb0
  replace hMe := Lib.hid hMe; replace hN1 := Lib.hid hN1
  obtain ⟨hC1, hC2⟩ := hC; obtain ⟨hR1, hR2⟩ := hR
  replace h0 := Lib.hid h0; replace h1 := Lib.hid h1; replace hA := Lib.hid hA; replace hB := Lib.hid hB
  go_enter Try.func5, Try.ntmps5
  go_wp2_with fail
  refine (awake26 _).mono ?_
  rintro e w1 ⟨rfl, hb⟩
  have HW : Below w.heap.size w w1 := hb
  clear hb
  by_cases hbig : 100 < ls
  · go_wp2_with fail
    go_ret
    exact ⟨rfl, HW⟩
  by_cases hbig2 : 100 < lk
  · go_wp2_with fail
    go_ret
    exact ⟨rfl, HW⟩
  have hA2 := hA.out; have hB2 := hB.out; have h02 := h0.out; have h12 := h1.out
  go_wp2_with fail
  clear hA2 hB2 h02 h12
  refine (mapOf_any a0 a1 C R p2 ls lc bad _ h0.out h1.out hA.out hB.out (by omega) (sl_later hS.out HW)).mono ?_
  rintro e w2 ⟨b, rfl, hb1, V1, hb⟩
  replace HW := below_step HW hb
  clear hb hb1 hbig
  obtain ⟨B, hBe⟩ : ∃ B, flF ls bad = B := ⟨_, rfl⟩
  rw [hBe, hMe.out] at V1
  rw [hMe.out]
  clear hBe
  unfold dmV dmC
  go_wp2_with (refine wpList_store_stop (Ob.new_at (w := w2) DMT dmZ rfl) rfl _ _ _ rfl rfl (dmC C R b M M) rfl (by kernel_rfl) rfl rfl ?_)
  intro w3 hw3
  have us := HW.size
  have H1 : Ob w3 w2.heap.size DMT #[.int .i64 (C : Int), .int .i64 (R : Int), .slice (some ⟨b, 0, none⟩) M M] := mk_ob hw3.out
  replace V1 := mk_keepV hw3.out V1; replace HW := mk_below hw3.out HW us
  clear hw3 us
  generalize w2.heap.size = q at *
  have us := HW.size
  go_upto_region 7 with fail
  have HK : MapI (w3.alloc (.map #[] 0)) w3.heap.size 0 (mapV (kfK kn lk lw (wvP WX WY WS) 0)) := (MapI.made w3).congr fun k _ => by unfold mapV; rw [kfK_zero]; rfl
  replace H1 := H1.alloc (.map #[] 0); replace V1 := V1.alloc (.map #[] 0); replace HW := HW.alloc us (.map #[] 0)
  have nq : w3.heap.size ≠ q := HK.ne_ob H1
  have nb : w3.heap.size ≠ b := HK.ne_vb V1
  have hmq : w.heap.size ≤ w3.heap.size := us
  generalize w3.alloc (.map #[] 0) = w4 at *
  generalize w3.heap.size = mq at *
  have m2 := H1.mS
  go_wp2_with fail
  clear m2
  go_loopw [42] (fun t wr => ∃ k : Nat, k ≤ M ∧ t = .int .i64 (k : Int) ∧ Ob wr q DMT #[.int .i64 (C : Int), .int .i64 (R : Int), .slice (some ⟨b, 0, none⟩) M M] ∧ VB wr b 4 M (blv B) ∧ MapI wr mq k (mapV (kfK kn lk lw (wvP WX WY WS) k)) ∧ Below w.heap.size w wr) (fun t _ => M - (intOf t).toNat)
  case atStart => exact ⟨0, by omega, rfl, H1, V1, HK, HW⟩
  case round =>
    clear H1 V1 HK HW
    obtain ⟨k, hkM, rfl, H1, V1, HK, HW⟩ := hrel
    by_cases hk : k < M
    · have hd : decide ((k : Int) < (M : Int)) = true := by simp; omega
      have k0 : (0 : Int) ≤ k := by omega
      by_cases hkl : k < lk
      · have hd2 : decide ((k : Int) < (lk : Int)) = true := by simp; omega
        obtain ⟨bs, os, rfl, hbs, hcs⟩ : ∃ bs os, p3 = some ⟨bs, os, none⟩ ∧ bs < w.heap.size ∧ ∀ k, k < lk → w.cell? ⟨bs, os + k, none⟩ = some (blv kn k) := by
          rcases hS3.out with h | h
          · omega
          · exact h
        have c4 : wr.cell? ⟨bs, os + k, none⟩ = some (.bool (kn k)) := by rw [HW.cell (p := ⟨bs, os + k, none⟩) hbs]; exact hcs k hkl
        clear hcs
        cases hkn : kn k
        · rw [hkn] at c4
          replace HK := (HK.congr (M' := mapV (kfK kn lk lw (wvP WX WY WS) (k + 1))) fun i _ => by unfold mapV; rw [kfK_no (by rw [hkn]; simp)]).mono (Nat.le_succ k)
          replace hkn := Lib.hid hkn
          go_wp2_with fail
          exact ⟨⟨k + 1, by omega, by go_num, H1, V1, HK, HW⟩, by simp [intOf]; omega⟩
        · rw [hkn] at c4
          by_cases hlw0 : 0 < lw
          · have hd3 : decide (0 < (lw : Int)) = true := by simp; omega
            have hyes := kfK_yes (kn := kn) (lk := lk) (lw := lw) (k := k) (V := wvP WX WY WS) ⟨hkl, hkn, hlw0⟩
            obtain ⟨J, hJ⟩ : ∃ J, k % lw = J := ⟨_, rfl⟩
            rw [hJ] at hyes
            have hJl : J < lw := by rw [← hJ]; exact Nat.mod_lt _ hlw0
            have hJi : (k : Int) % (lw : Int) = (J : Int) := by rw [← hJ]; omega
            replace hyes := Lib.hid hyes; replace hJ := Lib.hid hJ; replace hkn := Lib.hid hkn
            obtain ⟨bw, ow, rfl, hbw, hcw⟩ : ∃ bw ow, p4 = some ⟨bw, ow, none⟩ ∧ bw < w.heap.size ∧ ∀ k, k < lw * 9 → w.cell? ⟨bw, ow + k, none⟩ = some (swC WX WY WS k) := by
              rcases hS4.out with h | h
              · omega
              · exact h
            have hrg : wr.rangeAt bw (ow + J * 9) ((List.range 9).map fun j => wyC (WX J) (WY J) (WS J) j) := by
              intro j v hj
              have hj9 : j < 9 := by
                rcases Nat.lt_or_ge j 9 with h | h
                · exact h
                · rw [List.getElem?_eq_none (by simp; omega)] at hj; cases hj
              rw [List.getElem?_map, List.getElem?_range hj9] at hj
              rw [HW.cell (p := ⟨bw, ow + J * 9 + j, none⟩) hbw, Nat.add_assoc, hcw (J * 9 + j) (by omega)]
              unfold swC
              rw [show (J * 9 + j) / 9 = J by omega, show (J * 9 + j) % 9 = j by omega]
              simpa using hj
            clear hcw
            have hJd : decide ((J : Int) < (lw : Int)) = true := by simp; omega
            have J0 : (0 : Int) ≤ J := by omega
            replace hrg := Lib.hid hrg
            go_wp2_with (refine wpList_load_mid rfl WYT _ rfl bw (ow + J * 9) rfl _ _ hrg.out Try.underlying66 rfl (by kernel_rfl) ?_)
            refine (ways_any (WX J) (WY J) (WS J) _ (hWB.out J hJl)).mono ?_
            rintro e w6 ⟨rfl, hb⟩
            clear hrg c4 hJi
            replace H1 := H1.later hb; replace V1 := V1.later hb; replace HK := HK.later hb; replace HW := below_step HW hb
            clear hb
            obtain ⟨w7, hup, HK7, hwr⟩ := HK.update undMV (by unfold maxLen; omega) ⟨by omega, by omega⟩ (k := (k : Int)) (vV (wvP WX WY WS J))
            unfold vV wvP at hup
            simp only at hup
            go_wp2_with fail
            clear hup
            replace HK7 := HK7.congr fun i _ => hyes.out i
            replace H1 := H1.wr hwr (Ne.symm nq); replace V1 := V1.wr hwr (Ne.symm nb); replace HW := hwr.below HW hmq
            exact ⟨⟨k + 1, by omega, by go_num, H1, V1, HK7, HW⟩, by simp [intOf]; omega⟩
          · have hd3 : decide (0 < (lw : Int)) = false := by simp; omega
            replace HK := (HK.congr (M' := mapV (kfK kn lk lw (wvP WX WY WS) (k + 1))) fun i _ => by unfold mapV; rw [kfK_no (by omega)]).mono (Nat.le_succ k)
            replace hkn := Lib.hid hkn
            go_wp2_with fail
            exact ⟨⟨k + 1, by omega, by go_num, H1, V1, HK, HW⟩, by simp [intOf]; omega⟩
      · have hd2 : decide ((k : Int) < (lk : Int)) = false := by simp; omega
        replace HK := (HK.congr (M' := mapV (kfK kn lk lw (wvP WX WY WS) (k + 1))) fun i _ => by unfold mapV; rw [kfK_no (by omega)]).mono (Nat.le_succ k)
        go_wp2_with fail
        exact ⟨⟨k + 1, by omega, by go_num, H1, V1, HK, HW⟩, by simp [intOf]; omega⟩
    · have hkE : k = M := by omega
      have hd : decide ((k : Int) < (M : Int)) = false := by simp; omega
      rw [hkE] at HK
      have hal : ∀ W, Calls Try.prog 45 #[.complex .f64 4607182418800017408 0] W fun e w' => e = .returned (.agg (fcells 4 (vc4 (fun _ => 1) (fun _ => 0)))) ∧ Below W.heap.size W w' := fun W => by rw [fb1]; exact all_any 1 0 W
      replace hal := Lib.hid hal; replace hkE := Lib.hid hkE
      go_wp2_with fail
      refine (hal.out _).mono ?_
      rintro e w5 ⟨rfl, hb⟩
      replace H1 := H1.later hb; replace V1 := V1.later hb; replace HK := HK.later hb; replace HW := below_step HW hb
      clear hb
      go_wp2_with fail
      refine (hal.out _).mono ?_
      rintro e w6 ⟨rfl, hb⟩
      replace H1 := H1.later hb; replace V1 := V1.later hb; replace HK := HK.later hb; replace HW := below_step HW hb
      clear hb
      obtain ⟨st, w8, w9, he1, he2, HK9, hwr9⟩ := HK.entry undMV zeroV (by unfold maxLen; omega) (k := -1) ⟨by omega, by omega⟩ (by unfold mapV kfK; rw [if_neg (by omega)]; rfl) (vV (fun _ => 1, fun _ => 0))
      replace H1 := H1.wr hwr9 (Ne.symm nq); replace V1 := V1.wr hwr9 (Ne.symm nb); replace HW := hwr9.below HW hmq
      obtain ⟨w10, hup, HK10, hwr10⟩ := HK9.update undMV (by unfold maxLen; omega) (k := 1000) ⟨by omega, by omega⟩ (vV (fun _ => 1, fun _ => 0))
      replace H1 := H1.wr hwr10 (Ne.symm nq); replace V1 := V1.wr hwr10 (Ne.symm nb); replace HW := hwr10.below HW hmq
      replace HK := HK10.congr fun i _ => kEnd_is _ _ i
      clear HK9 hwr9 HK10 hwr10
      have hKb : ∀ k, k < M → ∀ p, kEnd (kfK kn lk lw (wvP WX WY WS) M) (fun _ => 1, fun _ => 0) (k : Int) = some p → (-64 ≤ p.1 3 ∧ p.1 3 ≤ 64) ∧ (-64 ≤ p.2 3 ∧ p.2 3 ≤ 64) := fun k hk p hp => by
        rw [kEnd_in (by omega)] at hp
        unfold kfK at hp
        split at hp
        · rw [← Option.some.inj hp]
          have := wyV_b (WS ((k : Int).toNat % lw)) (WX ((k : Int).toNat % lw)) (WY ((k : Int).toNat % lw)) 3 (by omega)
          unfold wvP; simp only; omega
        · cases hp
      obtain ⟨K, hKd⟩ : ∃ K, kEnd (kfK kn lk lw (wvP WX WY WS) M) (fun _ => 1, fun _ => 0) = K := ⟨_, rfl⟩
      rw [hKd] at HK hKb
      clear hKd
      replace hKb := Lib.hid hKb
      unfold vV zV at he1
      unfold vV at he2 hup
      simp only at he1 he2 hup
      have hN3 := hN1.out
      have hz0 : ((M : Int) == 0) = false := by simp; omega
      have hp0 : (0 : Int) < (M : Int) := by omega
      have hp1 : (M : Int) ≤ 16 := by omega
      have g2 := H1.mS
      go_wp2_with fail
      clear he1 he2 hup hN3 hz0 hp0 hp1 g2
      go_loopw [17, 18, 86] (fun t u v wr => ∃ (k : Nat) (x y F : Int), k ≤ M ∧ v = .int .i64 (k : Int) ∧ t = vcV x y ∧ u = .int .i64 F ∧ Hid (InvV K B C N k x y F) ∧ (-64 ≤ x ∧ x ≤ 64) ∧ (-64 ≤ y ∧ y ≤ 64) ∧ (0 ≤ F ∧ F ≤ 1000) ∧ Ob wr q DMT #[.int .i64 (C : Int), .int .i64 (R : Int), .slice (some ⟨b, 0, none⟩) M M] ∧ VB wr b 4 M (blv B) ∧ MapI wr mq (M + 1 + 1) (mapV K) ∧ Below w.heap.size w wr) (fun _ _ v _ => M - (intOf v).toNat)
      case atStart => exact ⟨0, 0, 0, 1000, by omega, rfl, (show Value.complex .f64 0 0 = vcV 0 0 from rfl), rfl, Lib.hid InvV.start, ⟨by omega, by omega⟩, ⟨by omega, by omega⟩, ⟨by omega, by omega⟩, H1, V1, HK, HW⟩
      case round =>
        clear H1 V1 HK HW
        obtain ⟨k, x, y, F, hkM, rfl, rfl, rfl, hI, hx, hy, hF, H1, V1, HK, HW⟩ := hrel
        by_cases hk : k < M
        · have hd : decide ((k : Int) < (M : Int)) = true := by simp; omega
          have k0 : (0 : Int) ≤ k := by omega
          obtain ⟨X, Y, ok, hlk, hok1, hok2⟩ : ∃ (X Y : Nat → Int) (ok : Bool), (Instr.lookup 60 (.map (some mq)) (.int .i64 (k : Int)) true).run Try.prog wr = .ok (.tuple #[.agg (fcells 4 (vc4 X Y)), .bool ok]) wr ∧ (ok = true → K (k : Int) = some (X, Y)) ∧ (ok = false → K (k : Int) = none) := by
            cases hKk : K (k : Int) with
            | none => exact ⟨_, _, false, HK.look_none undMV (zeroV _) ⟨by omega, by omega⟩ (by unfold mapV; rw [hKk]; rfl), (fun h => by cases h), fun _ => rfl⟩
            | some p => exact ⟨_, _, true, HK.look_some undMV (zeroV _) ⟨by omega, by omega⟩ (v := vV p) (by unfold mapV; rw [hKk]; rfl), (fun _ => rfl), (fun h => by cases h)⟩
          replace hok1 := Lib.hid hok1; replace hok2 := Lib.hid hok2
          go_wp2_with (first | (refine wpList_alloc_blk rfl V63 rfl _ _ alloc63 ?_) | (refine wpList_store_blk_stop (Blk.new_at _ _ _ rfl) rfl _ _ _ rfl rfl rfl (by kernel_rfl) (fun j _ => rfl) ?_))
          intro w11 hw11
          replace hw11 := hw11.out
          clear hlk
          have HB := mk_blk hw11
          replace H1 := mk_keepO hw11 H1; replace V1 := mk_keepV hw11 V1; replace HK := HK.keep (w' := w11) (by rw [← hw11, setRow_other _ _ _ _ (by have := HK.lt; omega), Below.heap_alloc _ _ _ HK.lt]); replace HW := mk_below hw11 HW HW.size
          clear hw11
          generalize wr.heap.size = vq at *
          have c0 := fun p => (H1.re p).mC
          obtain ⟨ka, hka⟩ : ∃ a : Nat, k / C = a := ⟨_, rfl⟩
          obtain ⟨na, hna⟩ : ∃ a : Nat, N / C = a := ⟨_, rfl⟩
          have hkb : ka ≤ 16 := by rw [← hka]; exact Nat.le_trans (Nat.div_le_self _ _) (by omega)
          have hnb : na ≤ 16 := by rw [← hna]; exact Nat.le_trans (Nat.div_le_self _ _) (by omega)
          obtain ⟨D, hD⟩ : ∃ D, (ka : Int) - (na : Int) = D := ⟨_, rfl⟩
          have hDb : -16 ≤ D ∧ D ≤ 16 := by omega
          have hz0 : ((C : Int) == 0) = false := by simp; omega
          have hDs : stpD C N k = D := by unfold stpD; rw [hka, hna]; exact hD
          have hq3 : Hid (wrap64 ((ka : Int) - (na : Int)) = D) := Lib.hid (by rw [hD]; exact IntWalk.wrap64_in _ (by omega))
          have hq1 : Hid (wrap64 ((k : Int) / (C : Int)) = (ka : Int)) := Lib.hid (by rw [← Int.natCast_ediv, hka]; exact IntWalk.wrap64_in _ (by omega))
          have hq2 : Hid (wrap64 ((N : Int) / (C : Int)) = (na : Int)) := Lib.hid (by rw [← Int.natCast_ediv, hna]; exact IntWalk.wrap64_in _ (by omega))
          replace hD := Lib.hid hD; replace hDs := Lib.hid hDs; replace hka := Lib.hid hka; replace hna := Lib.hid hna
          go_wp2_with fail
          refine wp_region_quiet_below (by kernel_rfl) (by kernel_rfl) ?_
          repeat (go_big_quiet_step (fail))
          refine wpQuiet_nil ?_
          intro wq hwq
          replace hwq := Cls.below hwq
          rw [hq1.out, hq2.out, hq3.out]
          clear c0 hq1 hq2 hq3 hz0
          replace H1 := H1.later hwq; replace V1 := V1.later hwq; replace HK := HK.later hwq; replace HB := HB.later hwq; replace HW := below_step HW hwq
          clear hwq
          obtain ⟨d1, d2⟩ := hDb
          obtain ⟨G, hG⟩ : ∃ G, imax D (-D) = G := ⟨_, rfl⟩
          have mb1 : 0 ≤ G ∧ G ≤ 16 := by rw [← hG, imax_eq]; omega
          obtain ⟨mb2, mb3⟩ := mb1
          obtain ⟨A, hA⟩ : ∃ A, awayD D = A := ⟨_, rfl⟩
          have hA2 : 2 * G + (if 0 < D then 1 else 0) = A := by rw [← hA, ← hG]; rfl
          have hAb : 0 ≤ A ∧ A ≤ 33 := by rw [← hA2]; split <;> omega
          obtain ⟨hAb1, hAb2⟩ := hAb
          replace hA := Lib.hid hA; replace hG := Lib.hid hG; replace hA2 := Lib.hid hA2
          obtain ⟨hF1, hF2⟩ := hF
          have mi1 : 0 ≤ imax D (-D) := by rw [hG.out]; exact mb2
          have mi2 : imax D (-D) ≤ 16 := by rw [hG.out]; exact mb3
          go_upto_if 110 with fail
          clear mi1 mi2
          rw [hG.out]
          go_cut [23] (fun t wx => t = .int .i64 A ∧ wx = wq)
          case first =>
            by_cases hDp : 0 < D
            · have e1 := hA2.out
              rw [if_pos hDp] at e1
              replace e1 := Lib.hid e1
              go_wp2_with fail
              go_meet
              exact ⟨by rw [e1.out], rfl⟩
            · have e1 := hA2.out
              rw [if_neg hDp, Int.add_zero] at e1
              replace e1 := Lib.hid e1
              go_wp2_with fail
              go_meet
              exact ⟨by rw [e1.out], rfl⟩
          case rest =>
            obtain ⟨rfl, rfl⟩ := hcut
            have hnc : (ok = false ∨ B k = true ∨ k % C ≠ N % C ∨ D = 0) → Hid (InvV K B C N (k + 1) x y F) := fun h => Lib.hid (hI.out.no (by
              rintro ⟨⟨p, hp⟩, c2, c3, c4⟩
              rw [hDs.out] at c4
              rcases h with h | h | h | h
              · rw [hok2.out h] at hp; cases hp
              · rw [h] at c2; cases c2
              · exact h c3
              · exact c4 h))
            have hAk : awayD (stpD C N k) = A := by rw [hDs.out]; exact hA.out
            have hfr : ¬ A < F → Hid (InvV K B C N (k + 1) x y F) := fun h => Lib.hid (hI.out.far (by rw [hAk]; exact h) (by rw [hAk]; omega))
            have hnr : ok = true → B k = false → k % C = N % C → D ≠ 0 → A < F → Hid (InvV K B C N (k + 1) (X 3) (Y 3) A) := fun c1 c2 c3 c4 c5 => Lib.hid (by
              have := hI.out.near (p := (X, Y)) (hok1.out c1) ⟨⟨_, hok1.out c1⟩, c2, c3, by rw [hDs.out]; exact c4⟩ (by rw [hAk]; exact c5)
              rw [hAk] at this; exact this)
            have hXY : ok = true → (-64 ≤ X 3 ∧ X 3 ≤ 64) ∧ (-64 ≤ Y 3 ∧ Y 3 ≤ 64) := fun c1 => hKb.out k hk (X, Y) (hok1.out c1)
            replace hnc := Lib.hid hnc; replace hfr := Lib.hid hfr; replace hnr := Lib.hid hnr; replace hXY := Lib.hid hXY; replace hAk := Lib.hid hAk
            have n0 := fun p => (H1.re p).mC; have n1 := fun p => (H1.re p).mR; have n2 := fun p => (H1.re p).mS
            have hha : ∀ W, VB W b 4 M (blv B) → Calls Try.prog 46 #[.agg #[.int .i64 (C : Int), .int .i64 (R : Int), .slice (some ⟨b, 0, none⟩) M M], .int .i64 (k : Int)] W fun e w' => e = .returned (.bool (B k)) ∧ Below W.heap.size W w' := fun W h => by
              have := has_at C R b M M B (k : Int) k0 (by omega) W h
              rwa [Int.toNat_natCast] at this
            cases hokv : ok
            · subst hokv
              have hres := hnc.out (Or.inl rfl)
              clear hha
              go_wp2_with fail
              refine wp_region_quiet_below (by kernel_rfl) (by kernel_rfl) ?_
              repeat (go_big_quiet_step (fail))
              refine wpQuiet_nil ?_
              intro wq hwq
              replace hwq := Cls.below hwq
              clear n0 n1 n2
              replace H1 := H1.later hwq; replace V1 := V1.later hwq; replace HK := HK.later hwq; replace HW := below_step HW hwq
              clear hwq
              go_wp2_with fail
              exact ⟨⟨k + 1, x, y, F, by omega, by go_num, rfl, rfl, hres, hx, hy, ⟨hF1, hF2⟩, H1, V1, HK, HW⟩, by simp [intOf]; omega⟩
            · subst hokv
              cases hBk : B k
              · rw [hBk] at hha
                replace hha := Lib.hid hha
                obtain ⟨kc, hkc⟩ : ∃ a : Nat, k % C = a := ⟨_, rfl⟩
                obtain ⟨nc, hnc2⟩ : ∃ a : Nat, N % C = a := ⟨_, rfl⟩
                have hkcb : kc < C := by rw [← hkc]; exact Nat.mod_lt _ (by omega)
                have hncb : nc < C := by rw [← hnc2]; exact Nat.mod_lt _ (by omega)
                have hz0 : ((C : Int) == 0) = false := by simp; omega
                have hm1 : (k : Int) % (C : Int) = (kc : Int) := by rw [← Int.natCast_emod, hkc]
                have hm2 : (N : Int) % (C : Int) = (nc : Int) := by rw [← Int.natCast_emod, hnc2]
                by_cases hcol : kc = nc
                · have hce : ((kc : Int) == (nc : Int)) = true := by simp; omega
                  by_cases hD0 : D = 0
                  · have hde : (D != 0) = false := by simp; exact hD0
                    have hres := hnc.out (Or.inr (Or.inr (Or.inr hD0)))
                    replace hkc := Lib.hid hkc; replace hnc2 := Lib.hid hnc2; replace hBk := Lib.hid hBk; replace hcol := Lib.hid hcol; replace hD0 := Lib.hid hD0
                    go_wp2_with fail
                    refine wp_region_quiet_below (by kernel_rfl) (by kernel_rfl) ?_
                    repeat (go_big_quiet_step ((go_at_call 46; with_reducible exact Calls.regrown_of (hha.out _ (V1.later (below_regrown _ _ _))))))
                    refine wpQuiet_nil ?_
                    intro wq hwq
                    replace hwq := Cls.below hwq
                    clear n0 n1 n2
                    replace H1 := H1.later hwq; replace V1 := V1.later hwq; replace HK := HK.later hwq; replace HB := HB.later hwq; replace HW := below_step HW hwq
                    clear hwq
                    go_wp2_with fail
                    exact ⟨⟨k + 1, x, y, F, by omega, by go_num, rfl, rfl, hres, hx, hy, ⟨hF1, hF2⟩, H1, V1, HK, HW⟩, by simp [intOf]; omega⟩
                  · have hde : (D != 0) = true := by simp; exact hD0
                    by_cases hAF : A < F
                    · have hdf : decide (A < F) = true := by simpa using hAF
                      have hres := hnr.out rfl hBk (by rw [hkc, hnc2]; exact hcol) hD0 hAF
                      obtain ⟨⟨x1, x2⟩, y1, y2⟩ := hXY.out rfl
                      replace hkc := Lib.hid hkc; replace hnc2 := Lib.hid hnc2; replace hBk := Lib.hid hBk; replace hcol := Lib.hid hcol; replace hD0 := Lib.hid hD0
                      go_wp2_with fail
                      refine wp_region_quiet_below (by kernel_rfl) (by kernel_rfl) ?_
                      repeat (go_big_quiet_step ((go_at_call 46; with_reducible exact Calls.regrown_of (hha.out _ (V1.later (below_regrown _ _ _))))))
                      refine wpQuiet_nil ?_
                      intro wq hwq
                      replace hwq := Cls.below hwq
                      clear n0 n1 n2
                      replace H1 := H1.later hwq; replace V1 := V1.later hwq; replace HK := HK.later hwq; replace HB := HB.later hwq; replace HW := below_step HW hwq
                      clear hwq
                      have c3 : wq.cell? ⟨vq, 3, none⟩ = some (vcV (X 3) (Y 3)) := HB.cell (k := 3) (by omega)
                      go_wp2_with fail
                      exact ⟨⟨k + 1, X 3, Y 3, A, by omega, by go_num, rfl, rfl, hres, ⟨x1, x2⟩, ⟨y1, y2⟩, ⟨hAb1, by omega⟩, H1, V1, HK, HW⟩, by simp [intOf]; omega⟩
                    · have hdf : decide (A < F) = false := by simp; omega
                      have hres := hfr.out hAF
                      replace hkc := Lib.hid hkc; replace hnc2 := Lib.hid hnc2; replace hBk := Lib.hid hBk; replace hcol := Lib.hid hcol; replace hD0 := Lib.hid hD0
                      go_wp2_with fail
                      refine wp_region_quiet_below (by kernel_rfl) (by kernel_rfl) ?_
                      repeat (go_big_quiet_step ((go_at_call 46; with_reducible exact Calls.regrown_of (hha.out _ (V1.later (below_regrown _ _ _))))))
                      refine wpQuiet_nil ?_
                      intro wq hwq
                      replace hwq := Cls.below hwq
                      clear n0 n1 n2
                      replace H1 := H1.later hwq; replace V1 := V1.later hwq; replace HK := HK.later hwq; replace HB := HB.later hwq; replace HW := below_step HW hwq
                      clear hwq
                      go_wp2_with fail
                      exact ⟨⟨k + 1, x, y, F, by omega, by go_num, rfl, rfl, hres, hx, hy, ⟨hF1, hF2⟩, H1, V1, HK, HW⟩, by simp [intOf]; omega⟩
                · have hce : ((kc : Int) == (nc : Int)) = false := by simp; omega
                  have hres := hnc.out (Or.inr (Or.inr (Or.inl (by rw [hkc, hnc2]; exact hcol))))
                  replace hkc := Lib.hid hkc; replace hnc2 := Lib.hid hnc2; replace hBk := Lib.hid hBk
                  go_wp2_with fail
                  refine wp_region_quiet_below (by kernel_rfl) (by kernel_rfl) ?_
                  repeat (go_big_quiet_step ((go_at_call 46; with_reducible exact Calls.regrown_of (hha.out _ (V1.later (below_regrown _ _ _))))))
                  refine wpQuiet_nil ?_
                  intro wq hwq
                  replace hwq := Cls.below hwq
                  clear n0 n1 n2
                  replace H1 := H1.later hwq; replace V1 := V1.later hwq; replace HK := HK.later hwq; replace HB := HB.later hwq; replace HW := below_step HW hwq
                  clear hwq
                  go_wp2_with fail
                  exact ⟨⟨k + 1, x, y, F, by omega, by go_num, rfl, rfl, hres, hx, hy, ⟨hF1, hF2⟩, H1, V1, HK, HW⟩, by simp [intOf]; omega⟩
              · rw [hBk] at hha
                have hres := hnc.out (Or.inr (Or.inl hBk))
                replace hha := Lib.hid hha; replace hBk := Lib.hid hBk
                go_wp2_with fail
                refine wp_region_quiet_below (by kernel_rfl) (by kernel_rfl) ?_
                repeat (go_big_quiet_step ((go_at_call 46; with_reducible exact Calls.regrown_of (hha.out _ (V1.later (below_regrown _ _ _))))))
                refine wpQuiet_nil ?_
                intro wq hwq
                replace hwq := Cls.below hwq
                clear n0 n1 n2
                replace H1 := H1.later hwq; replace V1 := V1.later hwq; replace HK := HK.later hwq; replace HW := below_step HW hwq
                clear hwq
                go_wp2_with fail
                exact ⟨⟨k + 1, x, y, F, by omega, by go_num, rfl, rfl, hres, hx, hy, ⟨hF1, hF2⟩, H1, V1, HK, HW⟩, by simp [intOf]; omega⟩
        · obtain rfl : k = M := by omega
          have hd : decide ((k : Int) < (k : Int)) = false := by simp
          have hsk := hI.out.fin hC1 hMe.out hN2
          have hvc : ∀ W, VB W b 4 k (blv B) → MapI W mq (k + 1 + 1) (mapV K) → Calls Try.prog 47 #[.agg #[.int .i64 (C : Int), .int .i64 (R : Int), .slice (some ⟨b, 0, none⟩) k k], .int .i64 (N : Int), .map (some mq)] W fun e w' => e = .returned (vcV x y) ∧ Below W.heap.size W w' := fun W hV hK => by
            have := vector_any C R b k k N B K mq _ W (by omega) (by omega) hMe.out hN2 hV hK
            rw [hsk] at this; exact this
          have o1 := ord_self hx
          have o2 := ord_self hy
          replace hsk := Lib.hid hsk; replace hvc := Lib.hid hvc
          go_wp2_with (refine wpList_load_ob_g H1 rfl 58 _ rfl rfl Try.underlying58 (by kernel_rfl) ?_)
          refine (hvc.out _ V1 HK).mono ?_
          rintro e w20 ⟨rfl, hb⟩
          replace HW := below_step HW hb
          unfold vcV
          go_wp2_with fail
          go_ret
          exact ⟨rfl, HW⟩
end Go.Proofs.Ytbldgpemocnboaa

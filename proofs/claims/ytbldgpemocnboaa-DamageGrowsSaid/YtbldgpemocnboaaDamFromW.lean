/- The walk of the law DamageFrom: true at every input. -/
import Derived.Test.YtbldgpemocnboaaSmMac
import Derived.Test.YtbldgpemocnboaaFrom
import Derived.Test.YtbldgpemocnboaaDamageSizesW
namespace Go.Proofs.Ytbldgpemocnboaa
open Go.RowKit Go.Sort
attribute [local go_sem ↓] run_imax run_imin

/-- A guarded operation that is wanted: a whole struct is read. -/
theorem wpList_load_blkM_g {P : Program} {ops : Array Oper} {rest : List Oper} {o : Oper} {a : Act} {w : World} {Q : Exit → Act → World → Prop} {b n : Nat} {T : TypeId} {fs : Array Field} {f : Nat → Value}
    (H : Blk w b T n f) (hw : Region.wanted o (yielded ops a.tmps) = true) (ty : TypeId) (x : Operand) (ho : o.op = .load ty x) (hx : a.eval x = .pointer (some ⟨b, 0, none⟩))
    (hu : P.underlying ty = some (.struct fs)) (hi : (P.info? ty).map (·.size) = some n)
    (h : wpList P ops Q rest (a.put o.dst (.agg (fcells n f))) w) : wpList P ops Q (o :: rest) a w :=
  wpList_step fun K hK => by
    rw [if_pos hw]
    exact wp_load_row ty x ho b hx T (fcells n f) (0, 0) _ H hu rfl (by rw [fcells_size]; exact hi) (hK _ _ h)
set_option maxRecDepth 1000000 in
set_option maxHeartbeats 16000000 in
theorem damFrom_walk (a0 a1 : Int) (p2 : Option Addr) (ls lc : Nat) (bad : Nat → Bool) (mb kd st : Int) (X0 Y0 : Nat → Int) (same ed : Bool) (bits : Nat → Int) (seed : Int) (far : Bool) (w : World)
    (h0 : 0 ≤ a0 ∧ a0 ≤ 255) (h1 : 0 ≤ a1 ∧ a1 ≤ 255) (hls : ls ≤ maxLen) (hS : SL w p2 ls (blv bad)) (hmb : 0 ≤ mb ∧ mb ≤ 255)
    (hk : 0 ≤ kd ∧ kd ≤ 255) (hst : 0 ≤ st ∧ st ≤ 255) (hB : WyB X0 Y0) (hbits : ∀ j, j < 6 → 0 ≤ bits j ∧ bits j < 18446744073709551616) (hsd : 0 ≤ seed ∧ seed < 4294967296) :
    Calls Try.prog 15 #[.int .u8 a0, .int .u8 a1, .slice p2 ls lc, .int .u8 mb, .agg (fcells 20 (s19 kd st X0 Y0 same ed bits seed far))] w fun e w' => e = .returned (.bool true) ∧ Below w.heap.size w w' := by
  replace hS := Lib.hid hS
  have hls2 : ls ≤ 9223372036854775807 := by unfold maxLen at hls; omega
  have hmac := fun W => smallMacro_any kd st X0 Y0 same ed bits seed far W hk hst hB hbits hsd
  replace hmac := Lib.hid hmac
  clear hk hst hB hbits hsd
  obtain ⟨sm, hsm⟩ : ∃ sm, s19 kd st X0 Y0 same ed bits seed far = sm := ⟨_, rfl⟩
  rw [hsm] at hmac ⊢
  clear hsm
  obtain ⟨hmb0, hmb1⟩ := hmb
  obtain ⟨C, hA⟩ : ∃ C : Nat, 1 + a0 % 4 = (C : Int) := ⟨(1 + a0 % 4).toNat, by omega⟩
  obtain ⟨R, hB⟩ : ∃ R : Nat, 1 + a1 % 4 = (R : Int) := ⟨(1 + a1 % 4).toNat, by omega⟩
  have hC : 1 ≤ C ∧ C ≤ 4 := by omega
  have hR : 1 ≤ R ∧ R ≤ 4 := by omega
  obtain ⟨M, hMe⟩ : ∃ M, C * R = M := ⟨_, rfl⟩
  have hM0 : 0 < M := by rw [← hMe]; exact Nat.mul_pos (by omega) (by omega)
  have hM9 : M ≤ 16 := by rw [← hMe]; exact Nat.mul_le_mul hC.2 hR.2
  obtain ⟨N, hN1, hN2⟩ := mb_of mb hM0 hmb0
  have hMi : (C : Int) * (R : Int) = (M : Int) := by rw [← Int.natCast_mul, hMe]
  have hN3 : mb.tmod ((C : Int) * (R : Int)) = (N : Int) := by rw [hMi]; exact hN1
  have hz0 : ((C : Int) * (R : Int) == 0) = false := by rw [hMi]; simp; omega
  have hp0 : 0 < (C : Int) * (R : Int) := by rw [hMi]; omega
  have hp1 : (C : Int) * (R : Int) ≤ 16 := by rw [hMi]; omega
  replace hMe := Lib.hid hMe; replace hMi := Lib.hid hMi; replace hN1 := Lib.hid hN1; replace hN3 := Lib.hid hN3; replace hz0 := Lib.hid hz0; replace hp0 := Lib.hid hp0; replace hp1 := Lib.hid hp1
  obtain ⟨hC1, hC2⟩ := hC; obtain ⟨hR1, hR2⟩ := hR
  go_enter Try.func15, Try.ntmps15
  have HI : Blk (w.alloc (.cells (fcells 20 sm) S19T)) w.heap.size S19T 20 sm := Blk.new_at _ _ _ rfl
  have HW : Below w.heap.size w (w.alloc (.cells (fcells 20 sm) S19T)) := by ((repeat (first | exact Below.refl _ _ | assumption | refine Below.setCell ?_ (by first | omega | (simp; done) | (simp; omega)) _ | refine Below.alloc ?_ (by first | omega | (simp; done) | (simp; omega)) _ | refine below_drewN ?_ _ | refine Below.drew ?_ | refine below_setRow ?_ (by first | omega | (simp; done) | (simp; omega)) _)))
  replace h0 := Lib.hid h0; replace h1 := Lib.hid h1; replace hA := Lib.hid hA; replace hB := Lib.hid hB
  go_wp2_with fail
  generalize w.alloc (.cells (fcells 20 sm) S19T) = w0 at *
  refine (awake25 _).mono ?_
  rintro e w1 ⟨rfl, hb⟩
  replace HI := HI.later hb; replace HW := below_step HW hb
  clear hb
  by_cases hbig : 100 < ls
  · go_wp2_with fail
    go_ret
    exact ⟨rfl, HW⟩
  have hA2 := hA.out; have hB2 := hB.out; have h02 := h0.out; have h12 := h1.out
  go_wp2_with fail
  clear hA2 hB2 h02 h12
  refine (mapOf_any a0 a1 C R p2 ls lc bad _ h0.out h1.out hA.out hB.out (by omega) (sl_later hS.out HW)).mono ?_
  rintro e w2 ⟨b, rfl, hb1, V1, hb⟩
  replace HI := HI.later hb; replace HW := below_step HW hb
  clear hb
  clear hb1 hbig
  obtain ⟨B, hBe⟩ : ∃ B, flF ls bad = B := ⟨_, rfl⟩
  rw [hBe, hMe.out] at V1
  rw [hMe.out]
  clear hBe
  unfold dmV dmC
  go_wp2_with (refine wpList_store_stop (Ob.new_at (w := w2) DMT dmZ rfl) rfl _ _ _ rfl rfl (dmC C R b M M) rfl (by kernel_rfl) rfl rfl ?_)
  intro w3 hw3
  have us := HW.size; have uI := HI.lt
  have H1 : Ob w3 w2.heap.size DMT #[.int .i64 (C : Int), .int .i64 (R : Int), .slice (some ⟨b, 0, none⟩) M M] := by rw [← hw3.out]; exact (Ob.new_at (w := w2) DMT dmZ rfl).setRow_same _
  replace V1 : VB w3 b 4 M (blv B) := by rw [← hw3.out]; have := V1.lt; exact (V1.alloc _).setRow (by omega) _
  replace HI : Blk w3 w.heap.size S19T 20 sm := by rw [← hw3.out]; exact (HI.alloc _).setRow (by omega) _
  replace HW : Below w.heap.size w w3 := by rw [← hw3.out]; exact below_setRow (HW.alloc us _) us _
  clear hw3 us uI
  generalize w2.heap.size = q at *
  have hN4 := hN3.out; have hz1 := hz0.out; have hp2 := hp0.out; have hp3 := hp1.out
  go_wp2_with (refine wpList_load_blkM HI rfl S19T _ rfl rfl Try.underlying124 (by kernel_rfl) ?_)
  clear hN4 hz1 hp2 hp3
  refine (hmac.out _).mono ?_
  rintro e w4 ⟨kk, qp, X, Y, ee, Lv, rfl, hV, hb⟩
  replace H1 := H1.later hb; replace V1 := V1.later hb; replace HW := below_step HW hb
  clear hb
  clear HI hmac
  have hal := fun W => alone_any kk qp X Y ee Lv W
  have hrf := fun W => lawRef_any kk qp X Y ee Lv _ W hV rfl
  have hfr : ∀ (res : Bool) W, VB W b 4 M (blv B) → (res = true ↔ (aloneB kk = false ∧ ∃ z, touched C R N X Y z ∧ B z = true)) → Calls Try.prog 78 #[dmV C R b M M, .int .i64 (N : Int), .agg (fcells 391 (mmC kk qp X Y ee Lv))] W fun e w' => e = .returned (.bool res) ∧ Below W.heap.size W w' := fun res W h1 h2 =>
    from_any C R b M N B kk qp X Y ee Lv res W (by omega) (by omega) hMe.out (by omega) hV h1 h2
  obtain ⟨al, hAl⟩ : ∃ al, aloneB kk = al := ⟨_, rfl⟩
  rw [hAl] at hal hrf hfr
  obtain ⟨sk, hsk⟩ : ∃ sk, (kk == 0) = sk := ⟨_, rfl⟩
  rw [hsk] at hrf
  obtain ⟨mm, hmm⟩ : ∃ mm, mmC kk qp X Y ee Lv = mm := ⟨_, rfl⟩
  have hone : ∀ j, (mm j).oneCell' = true := fun j => by rw [← hmm]; exact mmC_one _ _ _ _ _ _ j
  rw [hmm] at hal hrf hfr ⊢
  clear hmm hAl hsk
  unfold dmV dmC at hfr
  replace hal := Lib.hid hal; replace hrf := Lib.hid hrf; replace hfr := Lib.hid hfr; replace hV := Lib.hid hV; replace hone := Lib.hid hone
  have HZ : Blk (w4.alloc (.cells (fcells 391 (mmC 0 0 zv zv false zv)) M106)) w4.heap.size M106 391 (mmC 0 0 zv zv false zv) := Blk.new_at _ _ _ rfl
  go_upto_region 9 with (first | (refine wpList_alloc_blk rfl M106 rfl _ _ alloc106 ?_) | (refine wpList_store_blk HZ rfl _ _ _ rfl rfl rfl (by kernel_rfl) (fun j _ => hone.out j) ?_))
  have us := HW.size; have u1 := H1.lt; have u2 := V1.lt
  generalize hw5 : (w4.alloc (.cells (fcells 391 (mmC 0 0 zv zv false zv)) M106)).setRow w4.heap.size (fcells 391 mm) = w5
  have HM : Blk w5 w4.heap.size M106 391 mm := by rw [← hw5]; exact HZ.setRow_same rfl
  replace H1 : Ob w5 q DMT #[.int .i64 (C : Int), .int .i64 (R : Int), .slice (some ⟨b, 0, none⟩) M M] := by rw [← hw5]; exact (H1.alloc _).setRow (by omega) _
  replace V1 : VB w5 b 4 M (blv B) := by rw [← hw5]; exact (V1.alloc _).setRow (by omega) _
  replace HW : Below w.heap.size w w5 := by rw [← hw5]; exact below_setRow (HW.alloc us _) us _
  clear hw5 HZ us u1 u2
  generalize w4.heap.size = mq at *
  go_wp2_with (refine wpList_load_partX (m := 391) (q := 0) HM rfl M106 _ rfl rfl _ Try.underlying106 rfl (by kernel_rfl) (by omega) _ (fcells_from _ _) ?_)
  refine (hrf.out _).mono ?_
  rintro e w6 ⟨rfl, hb⟩
  replace HM := HM.later hb; replace H1 := H1.later hb; replace V1 := V1.later hb; replace HW := below_step HW hb
  clear hb
  go_wp2_with fail
  refine (refTouches_any C R N al sk qp X Y Lv _ (by omega) (by omega) (by omega) (by omega) (by omega) hV.out).mono ?_
  rintro e w7 ⟨g, F, rfl, hg, V2, hF, hb⟩
  rw [hMe.out] at V2
  rw [hMe.out]
  replace HM := HM.later hb; replace H1 := H1.later hb; replace V1 := V1.later hb; replace HW := below_step HW hb
  clear hb
  clear hg
  replace hF := Lib.hid hF
  go_wp2_with fail
  go_loopw [16, 57] (fun u t wr => ∃ (i : Nat) (W : Bool), i ≤ M ∧ t = .int .i64 (i : Int) ∧ u = .bool W ∧ Hid (W = true ↔ (al = false ∧ ∃ z, z < i ∧ F z = true ∧ B z = true)) ∧ Blk wr mq M106 391 mm ∧ Ob wr q DMT #[.int .i64 (C : Int), .int .i64 (R : Int), .slice (some ⟨b, 0, none⟩) M M] ∧ VB wr b 4 M (blv B) ∧ VB wr g 4 M (blv F) ∧ Below w.heap.size w wr) (fun u t _ => M - (intOf t).toNat)
  case atStart => exact ⟨0, false, by omega, rfl, rfl, Lib.hid ⟨(fun h => by cases h), fun ⟨_, z, h, _⟩ => by omega⟩, HM, H1, V1, V2, HW⟩
  case round =>
    clear HM H1 V1 V2 HW
    obtain ⟨i, W, hi, rfl, rfl, hW, HM, H1, V1, V2, HW⟩ := hrel
    by_cases hiM : i < M
    · have hd : decide ((i : Int) < (M : Int)) = true := by simp; omega
      have c0 : wr.cell? ⟨g, i, none⟩ = some (.bool (F i)) := by have := V2.cell hiM; simpa [blv] using this
      have hnext : ∀ W2 : Bool, (W2 = true ↔ (W = true ∨ (al = false ∧ F i = true ∧ B i = true))) → Hid (W2 = true ↔ (al = false ∧ ∃ z, z < i + 1 ∧ F z = true ∧ B z = true)) := fun W2 h => Lib.hid (by
        rw [h, hW.out]
        constructor
        · rintro (⟨e1, z, e2, e3⟩ | ⟨e1, e2, e3⟩)
          · exact ⟨e1, z, by omega, e3⟩
          · exact ⟨e1, i, by omega, e2, e3⟩
        · rintro ⟨e1, z, e2, e3, e4⟩
          by_cases e : z = i
          · subst e; exact Or.inr ⟨e1, e3, e4⟩
          · exact Or.inl ⟨e1, z, by omega, e3, e4⟩)
      have hhas : ∀ W0, VB W0 b 4 M (blv B) → Calls Try.prog 46 #[.agg #[.int .i64 (C : Int), .int .i64 (R : Int), .slice (some ⟨b, 0, none⟩) M M], .int .i64 (i : Int)] W0 fun e w' => e = .returned (.bool (B i)) ∧ Below W0.heap.size W0 w' := fun W0 h => dmHas_is (dmHas_nat hiM) h
      replace hhas := Lib.hid hhas; replace hnext := Lib.hid hnext
      cases hWv : W
      · subst hWv
        cases hFi : F i
        · rw [hFi] at c0
          replace hFi := Lib.hid hFi
          go_wp2_with fail
          exact ⟨⟨i + 1, false, by omega, by go_num, rfl, hnext.out false (by rw [hFi.out]; simp), HM, H1, V1, V2, HW⟩, by simp [intOf]; omega⟩
        · rw [hFi] at c0
          replace hFi := Lib.hid hFi
          go_wp2_with (refine wpList_load_ob_g H1 rfl 58 _ rfl rfl Try.underlying58 (by kernel_rfl) ?_)
          clear c0
          refine (hhas.out _ V1).mono ?_
          rintro e w8 ⟨rfl, hb⟩
          replace HM := HM.later hb; replace H1 := H1.later hb; replace V1 := V1.later hb; replace V2 := V2.later hb; replace HW := below_step HW hb
          clear hb
          cases hBi : B i
          · replace hBi := Lib.hid hBi
            go_wp2_with fail
            exact ⟨⟨i + 1, false, by omega, by go_num, rfl, hnext.out false (by rw [hBi.out]; simp), HM, H1, V1, V2, HW⟩, by simp [intOf]; omega⟩
          · replace hBi := Lib.hid hBi
            go_wp2_with (refine wpList_load_blkM_g HM rfl M106 _ rfl rfl Try.underlying106 (by kernel_rfl) ?_)
            refine (hal.out _).mono ?_
            rintro e w9 ⟨rfl, hb⟩
            replace HM := HM.later hb; replace H1 := H1.later hb; replace V1 := V1.later hb; replace V2 := V2.later hb; replace HW := below_step HW hb
            clear hb
            cases al
            · go_wp2_with fail
              exact ⟨⟨i + 1, true, by omega, by go_num, rfl, hnext.out true (by rw [hBi.out, hFi.out]; simp), HM, H1, V1, V2, HW⟩, by simp [intOf]; omega⟩
            · go_wp2_with fail
              exact ⟨⟨i + 1, false, by omega, by go_num, rfl, hnext.out false (by simp), HM, H1, V1, V2, HW⟩, by simp [intOf]; omega⟩
      · subst hWv
        go_wp2_with fail
        exact ⟨⟨i + 1, true, by omega, by go_num, rfl, hnext.out true (by simp), HM, H1, V1, V2, HW⟩, by simp [intOf]; omega⟩
    · obtain rfl : i = M := by omega
      have hd : decide ((i : Int) < (i : Int)) = false := by simp
      have hres : W = true ↔ (al = false ∧ ∃ z, touched C R N X Y z ∧ B z = true) := by
        rw [hW.out]
        constructor
        · rintro ⟨e1, z, e2, e3, e4⟩; exact ⟨e1, z, (hF.out z).1 e3, e4⟩
        · rintro ⟨e1, z, e2, e3⟩; exact ⟨e1, z, by have := touched_lt (by omega) (by omega) e2; rwa [hMe.out] at this, (hF.out z).2 e2, e3⟩
      have hfw := fun W0 h => hfr.out W W0 h hres
      replace hfw := Lib.hid hfw
      clear hres
      go_wp2_with (first | (refine wpList_load_ob_g H1 rfl 58 _ rfl rfl Try.underlying58 (by kernel_rfl) ?_) | (refine wpList_load_partX (m := 391) (q := 0) HM rfl M106 _ rfl rfl _ Try.underlying106 rfl (by kernel_rfl) (by omega) _ (fcells_from _ _) ?_))
      refine (hfw.out _ V1).mono ?_
      rintro e w10 ⟨rfl, hb⟩
      replace H1 := H1.later hb; replace HW := below_step HW hb
      clear hb
      cases W
      · go_wp2_with fail
        go_ret
        exact ⟨rfl, HW⟩
      · go_wp2_with fail
        go_ret
        exact ⟨rfl, HW⟩
end Go.Proofs.Ytbldgpemocnboaa

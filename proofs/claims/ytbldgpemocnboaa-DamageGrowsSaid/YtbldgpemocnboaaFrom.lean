/- damage.Map.From, walked: is any macroblock that it is made of damaged? -/
import Derived.Test.YtbldgpemocnboaaLawRef
import Derived.Test.YtbldgpemocnboaaRefTo
import Derived.Test.YtbldgpemocnboaaTou
import Derived.Test.YtbldgpemocnboaaConM
namespace Go.Proofs.Ytbldgpemocnboaa
open Go.RowKit Go.Sort
attribute [local go_sem ↓] run_imax run_imin

theorem getD_is {L : List Int} {i : Nat} (h : i < L.length) : L.getD i 0 = L[i] := by simp [List.getD, h]
theorem getD_memF {L : List Int} {i : Nat} (h : i < L.length) : L.getD i 0 ∈ L := by rw [getD_is h]; exact List.getElem_mem h
theorem dmHas_nat {M : Nat} {B : Nat → Bool} {z : Nat} (h : z < M) : dmHas M B (z : Int) = B z := by
  unfold dmHas; simp [h]
set_option maxRecDepth 100000 in
set_option maxHeartbeats 8000000 in
theorem from_anyC (C R b M cc N : Nat) (B : Nat → Bool) (kd qp : Int) (X Y : Nat → Int) (ed : Bool) (Lv : Nat → Int) (res : Bool) (w : World) (hC : 1 ≤ C ∧ C ≤ 8) (hR : 1 ≤ R ∧ R ≤ 8) (hMe : C * R = M) (hN : N ≤ 1000000) (hV : V4b X Y) (V1 : VB w b 4 M (blv B))
    (hres : res = true ↔ (aloneB kd = false ∧ ∃ z, touched C R N X Y z ∧ B z = true)) :
    Calls Try.prog 78 #[dmV C R b M cc, .int .i64 (N : Int), .agg (fcells 391 (mmC kd qp X Y ed Lv))] w fun e w' => e = .returned (.bool res) ∧ Below w.heap.size w w' := by
  replace hV := Lib.hid hV; replace hres := Lib.hid hres; replace hMe := Lib.hid hMe
  have hal := fun W => alone_any kd qp X Y ed Lv W
  obtain ⟨al, hA⟩ : ∃ al, aloneB kd = al := ⟨_, rfl⟩
  rw [hA] at hal
  replace hal := Lib.hid hal; replace hA := Lib.hid hA
  unfold dmV dmC
  go_enter Try.func78, Try.ntmps78
  go_upto_region 1 with fail
  generalize hw1 : (w.alloc (.cells #[.int .i64 (C : Int), .int .i64 (R : Int), .slice (some ⟨b, 0, none⟩) M cc] DMT)).alloc (.cells (fcells 391 (mmC kd qp X Y ed Lv)) M106) = w1
  have H1 : Ob w1 w.heap.size DMT #[.int .i64 (C : Int), .int .i64 (R : Int), .slice (some ⟨b, 0, none⟩) M cc] := by rw [← hw1]; exact (Ob.new_at _ _ rfl).alloc _
  have HI : Blk w1 (w.heap.size + 1) M106 391 (mmC kd qp X Y ed Lv) := by rw [← hw1]; exact Blk.new_at _ _ _ (by simp)
  have HW : Below w.heap.size w w1 := by rw [← hw1]; ((repeat (first | exact Below.refl _ _ | assumption | refine Below.setCell ?_ (by first | omega | (simp; done) | (simp; omega)) _ | refine Below.alloc ?_ (by first | omega | (simp; done) | (simp; omega)) _ | refine below_drewN ?_ _ | refine Below.drew ?_ | refine below_setRow ?_ (by first | omega | (simp; done) | (simp; omega)) _)))
  replace V1 := V1.later HW
  clear hw1
  go_wp2_with (refine wpList_load_partX (m := 391) (q := 0) HI rfl M106 _ rfl rfl _ Try.underlying106 rfl (by kernel_rfl) (by omega) _ (fcells_from _ _) ?_)
  refine (hal.out _).mono ?_
  rintro e w2 ⟨rfl, hb⟩
  replace H1 := H1.later hb; replace HI := HI.later hb; replace V1 := V1.later hb; replace HW := below_step HW hb
  clear hb
  cases al
  case true =>
    have hr0 : res = false := by
      cases res
      · rfl
      · have := (hres.out.1 rfl).1; rw [hA.out] at this; cases this
    subst hr0
    go_wp2_with fail
    go_ret
    exact ⟨rfl, HW⟩
  have g0 := H1.mC; have g1 := H1.mR
  go_wp2_with (refine wpList_load_partX (m := 4) (q := 2) HI rfl V63T _ rfl rfl _ und63 rfl (by kernel_rfl) (by omega) _ (mmC_vec _ _ _ _ _ _) ?_)
  clear g0 g1
  refine (touches_any C R N X Y _ (by omega) (by omega) (by omega) (by omega) (by omega) hV.out).mono ?_
  rintro e w3 ⟨gl, cap, L, rfl, hgl, hL0, hL1, hLp, hLm, V2, hb⟩
  replace H1 := H1.later hb; replace V1 := V1.later hb; replace HW := below_step HW hb
  clear hb
  clear hgl hLp HI
  replace hLm := Lib.hid hLm
  go_wp2_with fail
  go_loopw [20] (fun t wr => ∃ (i : Nat), i ≤ L.length ∧ t = .int .i64 (i : Int) ∧ Hid (∀ q, q < i → B (L.getD q 0).toNat = false) ∧ Ob wr w.heap.size DMT #[.int .i64 (C : Int), .int .i64 (R : Int), .slice (some ⟨b, 0, none⟩) M cc] ∧ VB wr b 4 M (blv B) ∧ VB wr gl 3 L.length (fun k => .int .i64 (L.getD k 0)) ∧ Below w.heap.size w wr) (fun t _ => L.length - (intOf t).toNat)
  case atStart => exact ⟨0, by omega, rfl, Lib.hid (fun q h => by omega), H1, V1, V2, HW⟩
  case round =>
    clear H1 V1 V2 HW
    obtain ⟨i, hi, rfl, hF, H1, V1, V2, HW⟩ := hrel
    by_cases hiL : i < L.length
    · have hd : decide ((i : Int) < (L.length : Int)) = true := by simp; omega
      obtain ⟨z, hz, hzt⟩ := (hLm.out _).1 (getD_memF hiL)
      have hzM : z < M := by rw [← hMe.out]; exact touched_lt (by omega) (by omega) hzt
      have c0 := V2.cell hiL
      rw [hz] at c0
      have hzB : B (L.getD i 0).toNat = B z := by rw [hz]; rfl
      have hM8 : M ≤ 64 := by rw [← hMe.out]; exact Nat.mul_le_mul hC.2 hR.2
      have hhas : ∀ W, VB W b 4 M (blv B) → Calls Try.prog 46 #[.agg #[.int .i64 (C : Int), .int .i64 (R : Int), .slice (some ⟨b, 0, none⟩) M cc], .int .i64 (z : Int)] W fun e w' => e = .returned (.bool (B z)) ∧ Below W.heap.size W w' := fun W h => dmHas_is (dmHas_nat hzM) h
      replace hhas := Lib.hid hhas; replace hz := Lib.hid hz; replace hzt := Lib.hid hzt
      go_wp2_with (refine wpList_load_ob_g H1 rfl 58 _ rfl rfl Try.underlying58 (by kernel_rfl) ?_)
      refine (hhas.out _ V1).mono ?_
      rintro e w4 ⟨rfl, hb⟩
      replace H1 := H1.later hb; replace V1 := V1.later hb; replace V2 := V2.later hb; replace HW := below_step HW hb
      clear hb
      clear c0
      cases hB : B z
      · rw [hB] at hzB
        replace hB := Lib.hid hB; replace hzB := Lib.hid hzB
        go_wp2_with fail
        exact ⟨⟨i + 1, by omega, by go_num, Lib.hid (fun q h => by
          by_cases e : q = i
          · subst e; exact hzB.out
          · exact hF.out q (by omega)), H1, V1, V2, HW⟩, by simp [intOf]; omega⟩
      · have hr1 : res = true := hres.out.2 ⟨hA.out, z, hzt.out, hB⟩
        subst hr1
        replace hB := Lib.hid hB
        go_wp2_with fail
        go_ret
        exact ⟨rfl, HW⟩
    · have hd : decide ((i : Int) < (L.length : Int)) = false := by simp; omega
      have hr0 : res = false := by
        cases res
        · rfl
        · obtain ⟨-, z, hz, hBz⟩ := hres.out.1 rfl
          have hm := (hLm.out (z : Int)).2 ⟨z, rfl, hz⟩
          obtain ⟨q, hq, hqe⟩ := List.mem_iff_getElem.1 hm
          have h9 := hF.out q (by omega)
          rw [getD_is hq, hqe] at h9
          rw [show ((z : Int)).toNat = z from rfl, hBz] at h9
          cases h9
      subst hr0
      go_wp2_with fail
      go_ret
      exact ⟨rfl, HW⟩
theorem from_any (C R b M N : Nat) (B : Nat → Bool) (kd qp : Int) (X Y : Nat → Int) (ed : Bool) (Lv : Nat → Int) (res : Bool) (w : World) (hC : 1 ≤ C ∧ C ≤ 8) (hR : 1 ≤ R ∧ R ≤ 8) (hMe : C * R = M) (hN : N ≤ 1000000) (hV : V4b X Y) (V1 : VB w b 4 M (blv B))
    (hres : res = true ↔ (aloneB kd = false ∧ ∃ z, touched C R N X Y z ∧ B z = true)) :
    Calls Try.prog 78 #[dmV C R b M M, .int .i64 (N : Int), .agg (fcells 391 (mmC kd qp X Y ed Lv))] w fun e w' => e = .returned (.bool res) ∧ Below w.heap.size w w' :=
  from_anyC C R b M M N B kd qp X Y ed Lv res w hC hR hMe hN hV V1 hres
end Go.Proofs.Ytbldgpemocnboaa

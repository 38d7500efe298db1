/- The nearest vector of the column: plain laws; conceal.Vector, walked. -/
import Derived.Test.YtbldgpemocnboaaMapI
import Derived.Test.YtbldgpemocnboaaVec
import Derived.Test.YtbldgpemocnboaaDm
import Derived.Test.YtbldgpemocnboaaCell
import Derived.Deep.DeepCutAuto
import Derived.Deep.CutBlock
namespace Go.Proofs.Ytbldgpemocnboaa
open Go.RowKit

abbrev V63 : TypeId := 63
theorem undMV : Try.prog.underlying 60 = some (.map 3 V63) := by kernel_rfl
/-- A macroblock's vectors, as a value. -/
def vV (p : (Nat → Int) × (Nat → Int)) : Value := .agg (fcells 4 (vc4 p.1 p.2))
def zV : (Nat → Int) × (Nat → Int) := (fun _ => 0, fun _ => 0)
theorem zeroV (w : World) : (zeroValue V63).run Try.prog w = .ok (vV zV) w := by kernel_rfl
def mapV (K : Int → Option ((Nat → Int) × (Nat → Int))) (k : Int) : Option Value := (K k).map vV
section
variable (K : Int → Option ((Nat → Int) × (Nat → Int))) (B : Nat → Bool) (M C N : Nat)
/-- The a-th place that is asked: above by 1, below by 1, above by 2, .. (from a = 2 on). -/
def cand (a : Nat) : Int := if a % 2 = 0 then (N : Int) - ((a / 2 : Nat) : Int) * (C : Int) else (N : Int) + ((a / 2 : Nat) : Int) * (C : Int)
/-- What a macroblock has to give. -/
def goodV (n : Int) : Option (Int × Int) := match K n with
  | some p => if 0 ≤ n ∧ n < M ∧ B n.toNat = false then some (p.1 3, p.2 3) else none
  | none => none
/-- The first that has anything, from a on, so many. -/
def seekV : Nat → Nat → Int × Int
  | 0, _ => (0, 0)
  | f + 1, a => match goodV K B M (cand C N a) with
    | some v => v
    | none => seekV f (a + 1)
end
section
variable {K : Int → Option ((Nat → Int) × (Nat → Int))} {B : Nat → Bool} {M C N : Nat}
theorem seekV_some {f a : Nat} {v : Int × Int} (h : goodV K B M (cand C N a) = some v) : seekV K B M C N (f + 1) a = v := by
  unfold seekV; rw [h]
theorem seekV_none {f a : Nat} (h : goodV K B M (cand C N a) = none) : seekV K B M C N (f + 1) a = seekV K B M C N f (a + 1) := by
  show (match goodV K B M (cand C N a) with | some v => v | none => seekV K B M C N f (a + 1)) = _
  rw [h]
theorem seekV_all : ∀ (f a : Nat), (∀ x, a ≤ x → x < a + f → goodV K B M (cand C N x) = none) → seekV K B M C N f a = (0, 0)
  | 0, _, _ => rfl
  | f + 1, a, h => by rw [seekV_none (h a (by omega) (by omega))]; exact seekV_all f (a + 1) fun x h1 h2 => h x (by omega) (by omega)
theorem seekV_at : ∀ (f a b : Nat) (v : Int × Int), a ≤ b → b < a + f → goodV K B M (cand C N b) = some v → (∀ x, a ≤ x → x < b → goodV K B M (cand C N x) = none) → seekV K B M C N f a = v
  | 0, a, b, v, h1, h2, _, _ => by omega
  | f + 1, a, b, v, h1, h2, hv, h => by
    by_cases e : a = b
    · subst e; exact seekV_some hv
    · rw [seekV_none (h a (by omega) (by omega))]
      exact seekV_at f (a + 1) b v (by omega) (by omega) hv fun x h3 h4 => h x (by omega) h4
end
theorem has_at (C R b M cc : Nat) (B : Nat → Bool) (I : Int) (h0 : 0 ≤ I) (h1 : I < M) (w : World) (hV : VB w b 4 M (blv B)) :
    Calls Try.prog 46 #[.agg #[.int .i64 (C : Int), .int .i64 (R : Int), .slice (some ⟨b, 0, none⟩) M cc], .int .i64 I] w fun e w' => e = .returned (.bool (B I.toNat)) ∧ Below w.heap.size w w' := by
  have h := dmHas_any C R b M cc B I w hV
  have e : dmHas M B I = B I.toNat := by unfold dmHas; simp [h0, h1]
  rw [e] at h
  exact h
set_option maxRecDepth 1000000 in
set_option maxHeartbeats 8000000 in
theorem vector_any (C R b M cc N : Nat) (B : Nat → Bool) (K : Int → Option ((Nat → Int) × (Nat → Int))) (q n : Nat) (w : World) (hC : 1 ≤ C ∧ C ≤ 8) (hR : 1 ≤ R ∧ R ≤ 8) (hMe : C * R = M) (hN : N < M) (hV : VB w b 4 M (blv B)) (hK : MapI w q n (mapV K)) :
    Calls Try.prog 47 #[dmV C R b M cc, .int .i64 (N : Int), .map (some q)] w fun e w' => e = .returned (vcV (seekV K B M C N (2 * R - 2) 2).1 (seekV K B M C N (2 * R - 2) 2).2) ∧ Below w.heap.size w w' := by
  have hM64 : M ≤ 64 := by rw [← hMe]; exact Nat.mul_le_mul hC.2 hR.2
  obtain ⟨⟨x, y⟩, hres⟩ : ∃ v, seekV K B M C N (2 * R - 2) 2 = v := ⟨_, rfl⟩
  rw [hres]
  replace hres := Lib.hid hres; replace hMe := Lib.hid hMe
  obtain ⟨hC1, hC2⟩ := hC; obtain ⟨hR1, hR2⟩ := hR
  unfold dmV dmC
  go_enter Try.func47, Try.ntmps47
  go_upto_region 1 with fail
  generalize hw1 : w.alloc (.cells #[.int .i64 (C : Int), .int .i64 (R : Int), .slice (some ⟨b, 0, none⟩) M cc] DMT) = w1
  have H1 : Ob w1 w.heap.size DMT #[.int .i64 (C : Int), .int .i64 (R : Int), .slice (some ⟨b, 0, none⟩) M cc] := by rw [← hw1]; exact Ob.new_at _ _ rfl
  have HW : Below w.heap.size w w1 := by rw [← hw1]; ((repeat (first | exact Below.refl _ _ | assumption | refine Below.setCell ?_ (by first | omega | (simp; done) | (simp; omega)) _ | refine Below.alloc ?_ (by first | omega | (simp; done) | (simp; omega)) _ | refine below_drewN ?_ _ | refine Below.drew ?_ | refine below_setRow ?_ (by first | omega | (simp; done) | (simp; omega)) _)))
  replace hV := hV.later HW; replace hK := hK.later HW
  clear hw1
  have g0 := H1.mC
  go_wp2_with fail
  clear g0
  go_loopw [7] (fun t wr => ∃ s : Nat, 1 ≤ s ∧ s ≤ R ∧ t = .int .i64 (s : Int) ∧ Hid (seekV K B M C N (2 * R - 2 * s) (2 * s) = (x, y)) ∧ Ob wr w.heap.size DMT #[.int .i64 (C : Int), .int .i64 (R : Int), .slice (some ⟨b, 0, none⟩) M cc] ∧ VB wr b 4 M (blv B) ∧ MapI wr q n (mapV K) ∧ Below w.heap.size w wr) (fun t _ => R - (intOf t).toNat)
  case atStart => exact ⟨1, by omega, by omega, rfl, hres, H1, hV, hK, HW⟩
  case round =>
    clear H1 hV hK HW hres
    obtain ⟨s, hs1, hsR, rfl, hres, H1, hV, hK, HW⟩ := hrel
    have g1 := H1.mR; have g0 := H1.mC
    by_cases hlt : s < R
    · have hd : decide ((s : Int) < (R : Int)) = true := by simp; omega
      have p0 : 0 ≤ (s : Int) * (C : Int) := Int.mul_nonneg (by omega) (by omega)
      have p1 : (s : Int) * (C : Int) ≤ 64 := by
        have : s * C ≤ 8 * 8 := Nat.mul_le_mul (by omega) hC2
        rw [← Int.natCast_mul]; omega
      obtain ⟨I0, hI0⟩ : ∃ I, (N : Int) - (s : Int) * (C : Int) = I := ⟨_, rfl⟩
      obtain ⟨I1, hI1⟩ : ∃ I, (N : Int) + (s : Int) * (C : Int) = I := ⟨_, rfl⟩
      have b0 : -64 ≤ I0 ∧ I0 ≤ 128 := by omega
      have b1 : -64 ≤ I1 ∧ I1 ≤ 128 := by omega
      have hc0 : cand C N (2 * s) = I0 := by unfold cand; rw [if_pos (by omega), show 2 * s / 2 = s by omega]; exact hI0
      have hc1 : cand C N (2 * s + 1) = I1 := by unfold cand; rw [if_neg (by omega), show (2 * s + 1) / 2 = s by omega]; exact hI1
      replace hI0 := Lib.hid hI0; replace hI1 := Lib.hid hI1
      replace hc0 := Lib.hid hc0; replace hc1 := Lib.hid hc1
      go_wp2_with fail
      rw [hI0.out, hI1.out]
      clear g0 g1
      go_loopw [34] (fun t wr => ∃ k : Nat, k ≤ 2 ∧ t = .int .i64 (k : Int) ∧ Hid (seekV K B M C N (2 * R - 2 * s - k) (2 * s + k) = (x, y)) ∧ Ob wr w.heap.size DMT #[.int .i64 (C : Int), .int .i64 (R : Int), .slice (some ⟨b, 0, none⟩) M cc] ∧ VB wr b 4 M (blv B) ∧ MapI wr q n (mapV K) ∧ Below w.heap.size w wr) (fun t _ => 2 - (intOf t).toNat)
      case atStart => exact ⟨0, by omega, rfl, hres, H1, hV, hK, HW⟩
      case round =>
        clear H1 hV hK HW hres
        obtain ⟨k, hk2, rfl, hres, H1, hV, hK, HW⟩ := hrel
        by_cases hk : k < 2
        · have hd : decide ((k : Int) < 2) = true := by simp; omega
          have hix : ∃ I, (∀ W, (Instr.index 149 (.agg #[.int .i64 I0, .int .i64 I1]) (.int .i64 (k : Int))).run Try.prog W = .ok (.int .i64 I) W) ∧ cand C N (2 * s + k) = I ∧ (-64 ≤ I ∧ I ≤ 128) := by
            rcases (by omega : k = 0 ∨ k = 1) with rfl | rfl
            · exact ⟨I0, fun W => by kernel_rfl, hc0.out, b0⟩
            · exact ⟨I1, fun W => by kernel_rfl, hc1.out, b1⟩
          obtain ⟨I, hix, hcI, hI1, hI2⟩ := hix
          have hI64 : I64 I := ⟨by omega, by omega⟩
          obtain ⟨f, hf⟩ : ∃ f, 2 * R - 2 * s - k = f + 1 := ⟨2 * R - 2 * s - k - 1, by omega⟩
          rw [hf] at hres
          have hskip : goodV K B M I = none → Hid (seekV K B M C N (2 * R - 2 * s - (k + 1)) (2 * s + (k + 1)) = (x, y)) := fun hg => Lib.hid (by
            rw [← hres.out, seekV_none (by rw [hcI]; exact hg), show 2 * R - 2 * s - (k + 1) = f by omega]; rfl)
          have htake : ∀ u v, goodV K B M I = some (u, v) → u = x ∧ v = y := fun u v hg => by
            have := hres.out
            rw [seekV_some (v := (u, v)) (by rw [hcI]; exact hg)] at this
            exact Prod.mk.inj this
          replace hskip := Lib.hid hskip; replace htake := Lib.hid htake; replace hcI := Lib.hid hcI; replace hf := Lib.hid hf
          cases hKI : K I with
          | none =>
            have hlk := hK.look_none undMV (zeroV _) hI64 (by unfold mapV; rw [hKI]; rfl)
            have hs2 := hskip.out (by unfold goodV; rw [hKI])
            unfold vV zV at hlk
            replace hKI := Lib.hid hKI
            go_wp2_with (first | (refine wpList_alloc_blk rfl V63 rfl _ _ alloc63 ?_) | (refine wpList_store_blk_stop (Blk.new_at _ _ _ rfl) rfl _ _ _ rfl rfl rfl (by kernel_rfl) (fun j _ => rfl) ?_))
            intro w5 hw5
            replace hw5 := hw5.out
            clear hlk
            replace H1 := mk_keepO hw5 H1; replace hV := mk_keepV hw5 hV; replace hK := hK.keep (w' := w5) (by rw [← hw5, setRow_other _ _ _ _ (by have := hK.lt; omega), Below.heap_alloc _ _ _ hK.lt]); replace HW := mk_below hw5 HW HW.size
            clear hw5
            go_wp2_with fail
            exact ⟨⟨k + 1, by omega, by go_num, hs2, H1, hV, hK, HW⟩, by simp [intOf]; omega⟩
          | some p =>
            obtain ⟨X, Y⟩ := p
            have hlk := hK.look_some undMV (zeroV _) hI64 (v := vV (X, Y)) (by unfold mapV; rw [hKI]; rfl)
            have hg : goodV K B M I = if 0 ≤ I ∧ I < M ∧ B I.toNat = false then some (X 3, Y 3) else none := by unfold goodV; rw [hKI]
            unfold vV at hlk
            replace hKI := Lib.hid hKI
            simp only at hlk
            go_wp2_with (first | (refine wpList_alloc_blk rfl V63 rfl _ _ alloc63 ?_) | (refine wpList_store_blk_stop (Blk.new_at _ _ _ rfl) rfl _ _ _ rfl rfl rfl (by kernel_rfl) (fun j _ => rfl) ?_))
            intro w5 hw5
            replace hw5 := hw5.out
            clear hlk
            have HB := mk_blk hw5
            replace H1 := mk_keepO hw5 H1; replace hV := mk_keepV hw5 hV; replace hK := hK.keep (w' := w5) (by rw [← hw5, setRow_other _ _ _ _ (by have := hK.lt; omega), Below.heap_alloc _ _ _ hK.lt]); replace HW := mk_below hw5 HW HW.size
            clear hw5
            generalize wr.heap.size = vq at *
            have m2 := H1.mS
            by_cases hn0 : 0 ≤ I
            · have d0 : decide (0 ≤ I) = true := by simpa using hn0
              by_cases hn1 : I < M
              · have d1 : decide (I < (M : Int)) = true := by simpa using hn1
                have hha := has_at C R b M cc B I hn0 hn1 w5 hV
                cases hBI : B I.toNat
                · rw [hBI] at hha
                  rw [if_pos ⟨hn0, hn1, hBI⟩] at hg
                  obtain ⟨e1, e2⟩ := htake.out _ _ hg
                  replace hBI := Lib.hid hBI
                  go_wp2_with (refine wpList_load_ob_g H1 rfl 58 _ rfl rfl Try.underlying58 (by kernel_rfl) ?_)
                  refine hha.mono ?_
                  rintro e w6 ⟨rfl, hb⟩
                  clear m2 hha
                  replace HB := HB.later hb; replace HW := below_step HW hb
                  clear hb
                  have c3 : w6.cell? ⟨vq, 3, none⟩ = some (vcV (X 3) (Y 3)) := HB.cell (k := 3) (by omega)
                  rw [e1, e2] at c3
                  clear e1 e2 hg
                  go_wp2_with fail
                  go_ret
                  exact ⟨rfl, HW⟩
                · rw [hBI] at hha
                  rw [if_neg (by rw [hBI]; simp)] at hg
                  have hs2 := hskip.out hg
                  replace hBI := Lib.hid hBI
                  clear hg
                  go_wp2_with (refine wpList_load_ob_g H1 rfl 58 _ rfl rfl Try.underlying58 (by kernel_rfl) ?_)
                  refine hha.mono ?_
                  rintro e w6 ⟨rfl, hb⟩
                  clear m2 hha
                  replace hK := hK.later hb
                  replace H1 := H1.later hb; replace hV := hV.later hb; replace HW := below_step HW hb
                  clear hb
                  go_wp2_with fail
                  exact ⟨⟨k + 1, by omega, by go_num, hs2, H1, hV, hK, HW⟩, by simp [intOf]; omega⟩
              · have d1 : decide (I < (M : Int)) = false := by simp; omega
                rw [if_neg (by omega)] at hg
                have hs2 := hskip.out hg
                clear hg
                go_wp2_with fail
                exact ⟨⟨k + 1, by omega, by go_num, hs2, H1, hV, hK, HW⟩, by simp [intOf]; omega⟩
            · have d0 : decide (0 ≤ I) = false := by simp; omega
              rw [if_neg (by omega)] at hg
              have hs2 := hskip.out hg
              clear hg m2
              go_wp2_with fail
              exact ⟨⟨k + 1, by omega, by go_num, hs2, H1, hV, hK, HW⟩, by simp [intOf]; omega⟩
        · obtain rfl : k = 2 := by omega
          have hd : decide (((2 : Nat) : Int) < 2) = false := by simp
          go_wp2_with fail
          exact ⟨⟨s + 1, by omega, by omega, by go_num, Lib.hid (by rw [← hres.out]; congr 1), H1, hV, hK, HW⟩, by simp [intOf]; omega⟩
    · obtain rfl : s = R := by omega
      have hd : decide ((s : Int) < (s : Int)) = false := by simp
      have h0 : x = 0 ∧ y = 0 := by
        have := hres.out
        rw [show 2 * s - 2 * s = 0 by omega] at this
        injection this with e1 e2
        exact ⟨e1.symm, e2.symm⟩
      obtain ⟨rfl, rfl⟩ := h0
      go_wp2_with fail
      go_ret
      exact ⟨rfl, HW⟩
end Go.Proofs.Ytbldgpemocnboaa

/- search.Searcher.Whole, walked; kinescopelaw28.Awake. -/
import Derived.Test.YtbldgpemocnboaaSeaW
namespace Go.Proofs.Ytbldgpemocnboaa
open Go.RowKit Go.Sort
attribute [local go_sem ↓] run_imax run_imin

def B31 (v : Int × Int) : Prop := (-31 ≤ v.1 ∧ v.1 ≤ 31) ∧ (-31 ≤ v.2 ∧ v.2 ≤ 31)
theorem rightB_b {x y : Int} (h : rightB x y = true) : B31 (x, y) := by
  unfold rightB at h; unfold B31
  have := of_decide_eq_true h
  exact ⟨⟨this.1, this.2.1⟩, this.2.2.1, this.2.2.2⟩
theorem stepsTo_b {X Y n by_ : Int} {m : Nat} : ∀ q, ∀ v ∈ stepsTo X Y n by_ m q, B31 v
  | 0, v, h => by cases h
  | q + 1, v, h => by
    unfold stepsTo at h
    rcases List.mem_append.1 h with h | h
    · exact stepsTo_b q v h
    · unfold stF at h
      split at h
      · rename_i hr
        rw [Option.toList_some, List.mem_singleton] at h
        rw [h]; exact rightB_b hr
      · cases h
theorem tryL_b {A : Int → Int → Bool} {F : Int → Int → Int} : ∀ (L : List (Int × Int)) (s : St), B31 (s.x, s.y) → (∀ v ∈ L, B31 v) → B31 ((tryL A F s L).x, (tryL A F s L).y)
  | [], s, h, _ => h
  | v :: L, s, h, hL => by
    refine tryL_b (A := A) (F := F) L (tryS A F s v) ?_ (fun u hu => hL u (by simp [hu]))
    unfold tryS
    split
    · split
      · exact hL v (by simp)
      · exact h
    · exact h
section
variable (A : Int → Int → Bool) (F : Int → Int → Int)
/-- The three rounds of tries. -/
def who1 : St := tryL A F ⟨0, 0, 0, false⟩ [(0, 0)]
def who2 (far : Nat) : St := tryL A F (who1 A F) (stepsTo 0 0 (2 * (far : Int)) 2 (2 * far + 1) ((2 * far + 1) * (2 * far + 1)))
def who3 (far : Nat) : St := if (who2 A F far).ok = true then tryL A F (who2 A F far) (stepsTo (who2 A F far).x (who2 A F far).y 1 1 3 (3 * 3)) else who2 A F far
end
theorem who2_b (A : Int → Int → Bool) (F : Int → Int → Int) (far : Nat) : B31 ((who2 A F far).x, (who2 A F far).y) :=
  tryL_b _ _ (tryL_b _ _ ⟨⟨by simp, by simp⟩, by simp, by simp⟩ (fun v hv => by simp at hv; subst hv; exact ⟨⟨by simp, by simp⟩, by simp, by simp⟩)) (stepsTo_b _)
theorem who3_b (A : Int → Int → Bool) (F : Int → Int → Int) (far : Nat) : B31 ((who3 A F far).x, (who3 A F far).y) := by
  unfold who3
  split
  · exact tryL_b _ _ (who2_b A F far) (stepsTo_b _)
  · exact who2_b A F far
set_option maxRecDepth 1000000 in
set_option maxHeartbeats 8000000 in
theorem wholeS_any (fr lm : Int) (far : Nat) (f g : Fr) (mb : Nat) (d : Bool) (w : World) (hfar : imin (imax fr 0) 15 = (far : Int)) (hf : f.Mem w) (hg : g.Mem w) (h1 : 0 < f.c) (hgc : 0 < g.c) (hm : mb ≤ 1000000) :
    Calls Try.prog 59 #[.agg #[.int .i64 fr, .int .i64 lm], f.val, g.val, .int .i64 (mb : Int), .bool d] w fun e w' => e = .returned (.tuple #[vcV (who3 (alwA lm f mb) (whoA f g mb d) far).x (who3 (alwA lm f mb) (whoA f g mb d) far).y, .int .i64 (who3 (alwA lm f mb) (whoA f g mb d) far).n, .bool (who3 (alwA lm f mb) (whoA f g mb d) far).ok]) ∧ Below w.heap.size w w' := by
  have hfar15 : far ≤ 15 := by rw [imin_eq, imax_eq] at hfar; omega
  obtain ⟨A, hA⟩ : ∃ A, alwA lm f mb = A := ⟨_, rfl⟩
  obtain ⟨F, hF⟩ : ∃ F, whoA f g mb d = F := ⟨_, rfl⟩
  rw [hA, hF]
  have htry := fun bs bf bg bm bd bk bl bb s p c L W => try_any bs bf bg bm bd bk bl bb fr lm f g mb d s p c L W
  rw [hA, hF] at htry
  obtain ⟨S3, hS3⟩ : ∃ S, who3 A F far = S := ⟨_, rfl⟩
  rw [hS3]
  replace htry := Lib.hid htry; replace hA := Lib.hid hA; replace hF := Lib.hid hF; replace hfar := Lib.hid hfar; replace hS3 := Lib.hid hS3
  unfold Fr.val
  go_enter Try.func59, Try.ntmps59
  go_upto_region 2 with fail
  generalize hw1 : (((((((w.alloc (.cells #[.int .i64 fr, .int .i64 lm] SRT)).alloc (.cells f.cells FRT)).alloc (.cells g.cells FRT)).alloc (.cells #[.int .i64 (mb : Int)] 3)).alloc (.cells #[.bool d] 4)).alloc (.cells #[.complex .f64 0 0] CXT)).alloc (.cells #[.int .i64 0] 3)).alloc (.cells #[.bool false] 4) = w1
  have HW : Below w.heap.size w w1 := by rw [← hw1]; ((repeat (first | exact Below.refl _ _ | assumption | refine Below.setCell ?_ (by first | omega | (simp; done) | (simp; omega)) _ | refine Below.alloc ?_ (by first | omega | (simp; done) | (simp; omega)) _ | refine below_drewN ?_ _ | refine Below.drew ?_ | refine below_setRow ?_ (by first | omega | (simp; done) | (simp; omega)) _)))
  have hC : CapM w.heap.size (w.heap.size + 1) (w.heap.size + 1 + 1) (w.heap.size + 1 + 1 + 1) (w.heap.size + 1 + 1 + 1 + 1) fr lm f g mb d w1 := by
    refine ⟨?_, ?_, ?_, ?_, ?_, hf.later HW, hg.later HW⟩
    · rw [← hw1]; exact (((((((Ob.new_at _ _ rfl).alloc _).alloc _).alloc _).alloc _).alloc _).alloc _).alloc _
    · rw [← hw1]; exact ((((((Ob.new_at _ _ (by simp)).alloc _).alloc _).alloc _).alloc _).alloc _).alloc _
    · rw [← hw1]; exact (((((Ob.new_at _ _ (by simp)).alloc _).alloc _).alloc _).alloc _).alloc _
    · rw [← hw1]; exact ((((Ob.new_at _ _ (by simp)).alloc _).alloc _).alloc _).alloc _
    · rw [← hw1]; exact (((Ob.new_at _ _ (by simp)).alloc _).alloc _).alloc _
  have hS : StM (w.heap.size + 1 + 1 + 1 + 1 + 1 + 1 + 1) (w.heap.size + 1 + 1 + 1 + 1 + 1 + 1) (w.heap.size + 1 + 1 + 1 + 1 + 1) ⟨0, 0, 0, false⟩ w1 := by
    refine ⟨?_, ?_, ?_⟩
    · rw [← hw1]; exact Ob.new_at _ _ (by simp)
    · rw [← hw1]; exact (Ob.new_at _ _ (by simp)).alloc _
    · rw [← hw1]; exact ((Ob.new_at _ _ (by simp)).alloc _).alloc _
  clear hw1 hf hg
  have n1 : w.heap.size + 1 + 1 + 1 + 1 ≠ w.heap.size + 1 + 1 + 1 + 1 + 1 + 1 + 1 := by omega
  have n2 : w.heap.size + 1 + 1 + 1 ≠ w.heap.size + 1 + 1 + 1 + 1 + 1 + 1 := by omega
  have g1 : w.heap.size ≤ w.heap.size + 1 + 1 + 1 + 1 + 1 + 1 + 1 := by omega
  have g2 : w.heap.size ≤ w.heap.size + 1 + 1 + 1 + 1 + 1 + 1 := by omega
  have g3 : w.heap.size ≤ w.heap.size + 1 + 1 + 1 + 1 + 1 := by omega
  generalize w.heap.size + 1 + 1 + 1 + 1 + 1 + 1 + 1 = bk at *
  generalize w.heap.size + 1 + 1 + 1 + 1 + 1 + 1 = bl at *
  generalize w.heap.size + 1 + 1 + 1 + 1 + 1 = bb at *
  generalize w.heap.size + 1 + 1 + 1 + 1 = bd at *
  generalize w.heap.size + 1 + 1 + 1 = bm at *
  generalize w.heap.size + 1 + 1 = bg at *
  generalize w.heap.size + 1 = bf at *
  have hsr := HW.size
  generalize hbs : w.heap.size = bs at hC
  replace hbs := Lib.hid hbs
  have c0 := hC.s.cell 0 (v := .int .i64 fr) rfl
  go_wp2_with fail
  rw [hfar.out]
  clear c0
  generalize hw2 : w1.alloc (.cells #[.complex .f64 0 0] CXT) = w2
  have hb0 : Below w1.heap.size w1 w2 := by rw [← hw2]; exact (Below.refl _ _).alloc (Nat.le_refl _) _
  have hN : Ob w2 w1.heap.size CXT #[.complex .f64 0 0] := by rw [← hw2]; exact Ob.new_at _ _ rfl
  clear hw2
  have k1 := hS.k.lt; have k2 := hS.l.lt; have k3 := hS.b.lt
  replace hC := hC.later hb0; replace hS := hS.later hb0; replace HW := below_step HW hb0
  have hw2s := HW.size
  unfold ptr at htry
  refine (htry.out bs bf bg bm bd bk bl bb ⟨0, 0, 0, false⟩ (some ⟨w1.heap.size, 0, none⟩) 1 [(0, 0)] w2 hC hS n1 n2 (Or.inr ⟨_, 0, rfl, hN.lt, fun k hk => by
      obtain rfl : k = 0 := by simp at hk; omega
      exact hN.cell 0 rfl⟩) (fun b o hb => by cases hb; omega) (fun v hv => by simp at hv; subst hv; exact ⟨⟨by simp, by simp⟩, by simp, by simp⟩) (by simp) h1 hgc hm).mono ?_
  rintro e w3 ⟨rfl, hS2, hwf⟩
  replace hC := hC.wrf hS n1 n2 hwf
  replace HW := hwf.below HW hw2s g1 g2 g3
  obtain ⟨S1, hS1⟩ : ∃ S, who1 A F = S := ⟨_, rfl⟩
  replace hS : StM bk bl bb S1 w3 := by rw [← hS1]; exact hS2
  clear hS2 hwf hN k1 k2 k3 hb0 hw2s hsr
  have HSs := hC.s
  go_wp2_with (refine wpList_load_ob_g HSs rfl SRT _ rfl rfl Try.underlying89 (by kernel_rfl) ?_)
  refine (steps_any fr lm 0 0 (2 * (far : Int)) 2 (2 * far + 1) w3 (by omega) (by omega) (by omega) (Or.inr rfl) (by omega)).mono ?_
  rintro e w4 ⟨p, c, rfl, hSL, hb, hB⟩
  have k1 := hS.k.lt; have k2 := hS.l.lt; have k3 := hS.b.lt
  have hw3s := HW.size
  have hlb : ∀ v ∈ stepsTo 0 0 (2 * (far : Int)) 2 (2 * far + 1) ((2 * far + 1) * (2 * far + 1)), B31 v := stepsTo_b _
  have hll := stepsTo_len 0 0 (2 * (far : Int)) 2 (2 * far + 1) ((2 * far + 1) * (2 * far + 1))
  have hmm : (2 * far + 1) * (2 * far + 1) ≤ 31 * 31 := Nat.mul_le_mul (by omega) (by omega)
  obtain ⟨L1, hL1⟩ : ∃ L, stepsTo 0 0 (2 * (far : Int)) 2 (2 * far + 1) ((2 * far + 1) * (2 * far + 1)) = L := ⟨_, rfl⟩
  rw [hL1] at hlb hll hSL ⊢
  have hll : L1.length ≤ 5000 := by omega
  clear hmm
  replace hC := hC.later hB; replace hS := hS.later hB; replace HW := below_step HW hB
  go_wp2_with fail
  have hw4s := HW.size
  refine (htry.out bs bf bg bm bd bk bl bb S1 p c L1 w4 hC hS n1 n2 hSL (fun b o h => by have := hb b o h; omega) hlb hll h1 hgc hm).mono ?_
  rintro e w5 ⟨rfl, hS2, hwf⟩
  replace hC := hC.wrf hS n1 n2 hwf
  replace HW := hwf.below HW hw4s g1 g2 g3
  obtain ⟨S2, hS4⟩ : ∃ S, who2 A F far = S := ⟨_, rfl⟩
  replace hS : StM bk bl bb S2 w5 := by rw [← hS4, who2, hS1, hL1]; exact hS2
  have hb2 := who2_b A F far
  rw [hS4] at hb2
  obtain ⟨x2, y2⟩ := hb2
  clear hS2 hwf k1 k2 k3 hw3s hw4s hSL hb hB hlb hL1 hll
  have ck := hS.k.cell 0 rfl
  cases hok : S2.ok
  · rw [hok] at ck
    replace hS : StM bk bl bb S3 w5 := by rw [← hS3.out, who3, hS4, hok]; exact hS
    go_wp2_with fail
    have e0 := fun p => (hS.b.re p).cell 0 rfl; have e1 := fun p => (hS.l.re p).cell 0 rfl; have e2 := fun p => (hS.k.re p).cell 0 rfl
    unfold vcV at e0
    go_wp2_with fail
    refine wp_region_quiet_below (by kernel_rfl) (by kernel_rfl) ?_
    repeat (go_big_quiet_step (fail))
    refine wpQuiet_nil ?_
    intro wq hwq
    replace hwq := Cls.below hwq
    replace HW := below_step HW hwq
    go_wp2_with fail
    go_ret3
    exact ⟨rfl, HW⟩
  · rw [hok] at ck
    have cb := hS.b.cell 0 rfl
    have HSs := hC.s
    go_wp2_with (refine wpList_load_ob_g HSs rfl SRT _ rfl rfl Try.underlying89 (by kernel_rfl) ?_)
    refine (steps_any fr lm S2.x S2.y 1 1 3 w5 x2 y2 (by omega) (Or.inl rfl) (by omega)).mono ?_
    rintro e w6 ⟨p, c, rfl, hSL, hb, hB⟩
    have k1 := hS.k.lt; have k2 := hS.l.lt; have k3 := hS.b.lt
    have hw5s := HW.size
    have hlb : ∀ v ∈ stepsTo S2.x S2.y 1 1 3 (3 * 3), B31 v := stepsTo_b _
    have hll := stepsTo_len S2.x S2.y 1 1 3 (3 * 3)
    obtain ⟨L1, hL1⟩ : ∃ L, stepsTo S2.x S2.y 1 1 3 (3 * 3) = L := ⟨_, rfl⟩
    rw [hL1] at hlb hll hSL ⊢
    have hll : L1.length ≤ 5000 := by omega
    replace hC := hC.later hB; replace hS := hS.later hB; replace HW := below_step HW hB
    go_wp2_with fail
    have hw6s := HW.size
    refine (htry.out bs bf bg bm bd bk bl bb S2 p c L1 w6 hC hS n1 n2 hSL (fun b o h => by have := hb b o h; omega) hlb hll h1 hgc hm).mono ?_
    rintro e w7 ⟨rfl, hS2, hwf⟩
    replace hC := hC.wrf hS n1 n2 hwf
    replace HW := hwf.below HW hw6s g1 g2 g3
    replace hS : StM bk bl bb S3 w7 := by rw [← hS3.out, who3, hS4, hok, if_pos rfl, hL1]; exact hS2
    clear hS2 hwf k1 k2 k3 hw5s hw6s hSL hb hB hlb hL1 hll ck cb
    go_wp2_with fail
    have e0 := fun p => (hS.b.re p).cell 0 rfl; have e1 := fun p => (hS.l.re p).cell 0 rfl; have e2 := fun p => (hS.k.re p).cell 0 rfl
    unfold vcV at e0
    go_wp2_with fail
    refine wp_region_quiet_below (by kernel_rfl) (by kernel_rfl) ?_
    repeat (go_big_quiet_step (fail))
    refine wpQuiet_nil ?_
    intro wq hwq
    replace hwq := Cls.below hwq
    replace HW := below_step HW hwq
    go_wp2_with fail
    go_ret3
    exact ⟨rfl, HW⟩
end Go.Proofs.Ytbldgpemocnboaa

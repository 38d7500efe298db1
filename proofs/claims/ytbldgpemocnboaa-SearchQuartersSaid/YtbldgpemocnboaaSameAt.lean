/- plane.SameAt, walked. -/
import Derived.Test.YtbldgpemocnboaaMb
import Derived.Test.YtbldgpemocnboaaArr
import Derived.Test.YtbldgpemocnboaaSm
namespace Go.Proofs.Ytbldgpemocnboaa
open Go.RowKit Go.Sort
attribute [local go_sem ↓] run_imax run_imin

/-- Two macroblocks are the same. -/
def sameAtB (f g : Fr) (mb : Nat) : Bool := (List.range 6).all fun k => (List.range 64).all fun i => mbF f mb k i == mbF g mb k i
/-- So far. -/
def sameTo (f g : Fr) (mb k : Nat) : Prop := ∀ j, j < k → (List.range 64).all (fun i => mbF f mb j i == mbF g mb j i) = true
theorem sameTo_all {f g : Fr} {mb : Nat} (h : sameTo f g mb 6) : sameAtB f g mb = true := by
  unfold sameAtB; rw [List.all_eq_true]; intro k hk; exact h k (by simpa using hk)
theorem sameAt_not {f g : Fr} {mb k : Nat} (hk : k < 6) (h : (List.range 64).all (fun i => mbF f mb k i == mbF g mb k i) = false) : sameAtB f g mb = false := by
  unfold sameAtB
  rw [Bool.eq_false_iff]; intro h2
  rw [List.all_eq_true] at h2
  have := h2 k (by simpa using hk)
  rw [h] at this; cases this
theorem neq28 (f g : Nat → Int) (b : Bool) (h : ((List.range 64).all fun i => f i == g i) = b) (W : World) : (Op.equalIn 10000 27 (.agg (fcells 64 (ival f))) (.agg (fcells 64 (ival g)))).run Try.prog W = .ok b W := by
  have := run_eq_ints (P := Try.prog) W 27 3 64 .i64 f g und28 (by kernel_rfl) (by kernel_rfl) (by kernel_rfl)
  rw [h] at this; exact this

set_option maxRecDepth 1000000 in
set_option maxHeartbeats 4000000 in
theorem sameAt_any (f g : Fr) (mb : Nat) (w : World) (hM : f.Mem w) (hG : g.Mem w) (h1 : 0 < f.c) (h2 : 0 < g.c) (hm : mb ≤ 1000000) :
    Calls Try.prog 51 #[f.val, g.val, .int .i64 (mb : Int)] w fun e w' => e = .returned (.bool (sameAtB f g mb)) ∧ Below w.heap.size w w' := by
  have h3 := hM.hc; have h4 := hG.hc
  unfold Fr.val
  go_enter Try.func51, Try.ntmps51
  go_wp2_with fail
  have HF : Ob ((w.alloc (.cells f.cells FRT)).alloc (.cells g.cells FRT)) w.heap.size FRT f.cells := (Ob.new_at _ _ rfl).alloc _
  have HG : Ob ((w.alloc (.cells f.cells FRT)).alloc (.cells g.cells FRT)) (w.heap.size + 1) FRT g.cells := Ob.new_at _ _ (by simp)
  have HW : Below w.heap.size w ((w.alloc (.cells f.cells FRT)).alloc (.cells g.cells FRT)) := by ((repeat (first | exact Below.refl _ _ | assumption | refine Below.setCell ?_ (by first | omega | (simp; done) | (simp; omega)) _ | refine Below.alloc ?_ (by first | omega | (simp; done) | (simp; omega)) _ | refine below_drewN ?_ _ | refine Below.drew ?_ | refine below_setRow ?_ (by first | omega | (simp; done) | (simp; omega)) _)))
  replace hM := (hM.alloc (.cells f.cells FRT)).alloc (.cells g.cells FRT)
  replace hG := (hG.alloc (.cells f.cells FRT)).alloc (.cells g.cells FRT)
  generalize (w.alloc (.cells f.cells FRT)).alloc (.cells g.cells FRT) = w2 at *
  go_loopw [14] (fun i wr => ∃ k : Nat, k ≤ 6 ∧ i = .int .i64 k ∧ sameTo f g mb k ∧ Ob wr w.heap.size FRT f.cells ∧ Ob wr (w.heap.size + 1) FRT g.cells ∧ f.Mem wr ∧ g.Mem wr ∧ Below w.heap.size w wr) (fun i _ => 6 - (intOf i).toNat)
  case atStart => exact ⟨0, by omega, rfl, fun j hj => absurd hj (by omega), HF, HG, hM, hG, HW⟩
  case round =>
    clear HF HG hM hG HW
    obtain ⟨k, hk, rfl, hS, HF, HG, hM, hG, HW⟩ := hrel
    replace hS := Lib.hid hS
    by_cases hk6 : k < 6
    · have hd : decide ((k : Int) < 6) = true := by simp; omega
      have i1 : (0 : Int) ≤ k := by omega
      go_wp2_with (refine wpList_load_ob HF rfl _ _ rfl rfl Try.underlying43 (by kernel_rfl) ?_)
      refine (frBlock_any f mb k _ h1 h3 hm hk6).mono ?_
      rintro e w3 ⟨rfl, hb⟩
      replace HF := HF.later hb; replace HG := HG.later hb; replace hM := hM.later hb; replace hG := hG.later hb; replace HW := below_step HW hb
      clear hb
      unfold Fr.blkV
      go_wp2_with (refine wpList_load_ob (HG.alloc _) rfl _ _ rfl rfl Try.underlying43 (by kernel_rfl) ?_)
      have HP : Ob (w3.alloc (.cells #[.int .i64 (f.pw k : Int), .int .i64 (f.ph k : Int), .slice (some ⟨f.pb k, 0, none⟩) (f.pw k * f.ph k) (f.pc k)] PLT)) w3.heap.size PLT #[.int .i64 (f.pw k : Int), .int .i64 (f.ph k : Int), .slice (some ⟨f.pb k, 0, none⟩) (f.pw k * f.ph k) (f.pc k)] := Ob.new_at _ _ rfl
      replace HF := HF.alloc (.cells #[.int .i64 (f.pw k : Int), .int .i64 (f.ph k : Int), .slice (some ⟨f.pb k, 0, none⟩) (f.pw k * f.ph k) (f.pc k)] PLT)
      replace HG := HG.alloc (.cells #[.int .i64 (f.pw k : Int), .int .i64 (f.ph k : Int), .slice (some ⟨f.pb k, 0, none⟩) (f.pw k * f.ph k) (f.pc k)] PLT)
      replace hM := hM.alloc (.cells #[.int .i64 (f.pw k : Int), .int .i64 (f.ph k : Int), .slice (some ⟨f.pb k, 0, none⟩) (f.pw k * f.ph k) (f.pc k)] PLT)
      replace hG := hG.alloc (.cells #[.int .i64 (f.pw k : Int), .int .i64 (f.ph k : Int), .slice (some ⟨f.pb k, 0, none⟩) (f.pw k * f.ph k) (f.pc k)] PLT)
      replace HW := HW.alloc HW.size (.cells #[.int .i64 (f.pw k : Int), .int .i64 (f.ph k : Int), .slice (some ⟨f.pb k, 0, none⟩) (f.pw k * f.ph k) (f.pc k)] PLT)
      generalize w3.alloc (.cells #[.int .i64 (f.pw k : Int), .int .i64 (f.ph k : Int), .slice (some ⟨f.pb k, 0, none⟩) (f.pw k * f.ph k) (f.pc k)] PLT) = w4 at *
      generalize w3.heap.size = p1 at *
      refine (frBlock_any g mb k _ h2 h4 hm hk6).mono ?_
      rintro e w5 ⟨rfl, hb⟩
      replace HP := HP.later hb; replace HF := HF.later hb; replace HG := HG.later hb; replace hM := hM.later hb; replace hG := hG.later hb; replace HW := below_step HW hb
      clear hb
      unfold Fr.blkV
      go_wp2_with fail
      have HQ : Ob (w5.alloc (.cells #[.int .i64 (g.pw k : Int), .int .i64 (g.ph k : Int), .slice (some ⟨g.pb k, 0, none⟩) (g.pw k * g.ph k) (g.pc k)] PLT)) w5.heap.size PLT #[.int .i64 (g.pw k : Int), .int .i64 (g.ph k : Int), .slice (some ⟨g.pb k, 0, none⟩) (g.pw k * g.ph k) (g.pc k)] := Ob.new_at _ _ rfl
      replace HP := HP.alloc (.cells #[.int .i64 (g.pw k : Int), .int .i64 (g.ph k : Int), .slice (some ⟨g.pb k, 0, none⟩) (g.pw k * g.ph k) (g.pc k)] PLT)
      replace HF := HF.alloc (.cells #[.int .i64 (g.pw k : Int), .int .i64 (g.ph k : Int), .slice (some ⟨g.pb k, 0, none⟩) (g.pw k * g.ph k) (g.pc k)] PLT)
      replace HG := HG.alloc (.cells #[.int .i64 (g.pw k : Int), .int .i64 (g.ph k : Int), .slice (some ⟨g.pb k, 0, none⟩) (g.pw k * g.ph k) (g.pc k)] PLT)
      replace hM := hM.alloc (.cells #[.int .i64 (g.pw k : Int), .int .i64 (g.ph k : Int), .slice (some ⟨g.pb k, 0, none⟩) (g.pw k * g.ph k) (g.pc k)] PLT)
      replace hG := hG.alloc (.cells #[.int .i64 (g.pw k : Int), .int .i64 (g.ph k : Int), .slice (some ⟨g.pb k, 0, none⟩) (g.pw k * g.ph k) (g.pc k)] PLT)
      replace HW := HW.alloc HW.size (.cells #[.int .i64 (g.pw k : Int), .int .i64 (g.ph k : Int), .slice (some ⟨g.pb k, 0, none⟩) (g.pw k * g.ph k) (g.pc k)] PLT)
      generalize w5.alloc (.cells #[.int .i64 (g.pw k : Int), .int .i64 (g.ph k : Int), .slice (some ⟨g.pb k, 0, none⟩) (g.pw k * g.ph k) (g.pc k)] PLT) = w6 at *
      generalize w5.heap.size = p2 at *
      have c0 : ∀ p : Regrown, (Sort.grow (redrawn w6 p.d) p.os).cell? ⟨p1, 0, none⟩ = some (.int .i64 (f.pw k : Int)) := fun p => (HP.re p).plW
      have c1 : ∀ p : Regrown, (Sort.grow (redrawn w6 p.d) p.os).cell? ⟨p1, 1, none⟩ = some (.int .i64 (f.ph k : Int)) := fun p => (HP.re p).plH
      have c2 : ∀ p : Regrown, (Sort.grow (redrawn w6 p.d) p.os).cell? ⟨p1, 2, none⟩ = some (.slice (some ⟨f.pb k, 0, none⟩) (f.pw k * f.ph k) (f.pc k)) := fun p => (HP.re p).plS
      have c3 : ∀ p : Regrown, (Sort.grow (redrawn w6 p.d) p.os).cell? ⟨p2, 0, none⟩ = some (.int .i64 (g.pw k : Int)) := fun p => (HQ.re p).plW
      have c4 : ∀ p : Regrown, (Sort.grow (redrawn w6 p.d) p.os).cell? ⟨p2, 1, none⟩ = some (.int .i64 (g.ph k : Int)) := fun p => (HQ.re p).plH
      have c5 : ∀ p : Regrown, (Sort.grow (redrawn w6 p.d) p.os).cell? ⟨p2, 2, none⟩ = some (.slice (some ⟨g.pb k, 0, none⟩) (g.pw k * g.ph k) (g.pc k)) := fun p => (HQ.re p).plS
      cases hq : (List.range 64).all (fun i => mbF f mb k i == mbF g mb k i)
      all_goals
        have hne := neq28 (mbF f mb k) (mbF g mb k) _ hq
        replace hq := Lib.hid hq
        refine wp_region_quiet_below (by kernel_rfl) (by kernel_rfl) ?_
        repeat (go_big_quiet_step (first | (go_at_call 67; with_reducible exact Calls.regrown_of (plBlock_any f mb k _ (hM.later (below_regrown _ _ _)) hm hk6)) | (go_at_call 67; with_reducible exact Calls.regrown_of (plBlock_any g mb k _ (hG.later (below_regrown _ _ _)) hm hk6))))
        refine wpQuiet_nil ?_
        intro wq hwq
        replace hwq := Cls.below hwq
        replace HF := HF.later hwq; replace HG := HG.later hwq; replace hM := hM.later hwq; replace hG := hG.later hwq; replace HW := below_step HW hwq
        clear hwq c0 c1 c2 c3 c4 c5 hne
        go_wp2_with fail
      · go_ret
        exact ⟨ret_bool (sameAt_not hk6 hq.out).symm, HW⟩
      · exact ⟨⟨k + 1, by omega, by go_num, fun j hj => by
          by_cases e : j = k
          · subst e; exact hq.out
          · exact hS.out j (by omega), HF, HG, hM, hG, HW⟩, by simp [intOf]; omega⟩
    · obtain rfl : k = 6 := by omega
      go_wp2_with fail
      go_ret
      exact ⟨ret_bool (sameTo_all hS.out).symm, HW⟩
end Go.Proofs.Ytbldgpemocnboaa

/- The walk of the law DamageMaps: true at every input. No condition but that the arguments read as their types say. -/
import Derived.Test.YtggdaefgaakijaaDm4
import Derived.Test.YtggdaefgaakijaaRel
import Derived.Test.YtggdaefgaakijaaDamageSizesW
namespace Go.Proofs.Ytggdaefgaakijaa
open Go.RowKit Go.Sort
attribute [local go_sem ↓] run_imax run_imin
attribute [local go_sem] yldUpon

theorem dmHas_of (C R b n c : Nat) (f : Nat → Bool) (mb : Int) (w : World) (hB : VB w b 4 n (blv f)) (r : Bool) (hr : dmHas n f mb = r) :
    Calls Try.prog 20 #[dmV C R b n c, .int .i64 mb] w fun e w' => e = .returned (.bool r) ∧ Below w.heap.size w w' := by
  rw [← hr]; exact dmHas_any C R b n c f mb w hB
theorem dmSame_of (C R b n c C' R' b' n' c' : Nat) (f g : Nat → Bool) (w : World) (hn : n ≤ 64) (hB : VB w b 4 n (blv f)) (hB' : VB w b' 4 n' (blv g)) (r : Bool) (hr : dmSame C R n f C' R' n' g = r) :
    Calls Try.prog 21 #[dmV C R b n c, dmV C' R' b' n' c'] w fun e w' => e = .returned (.bool r) ∧ Below w.heap.size w w' := by
  rw [← hr]; exact dmSame_any C R b n c C' R' b' n' c' f g w hn hB hB'
theorem has_at {n k : Nat} {f : Nat → Bool} (hk : k < n) : dmHas n f k = f k := by
  unfold dmHas; simp [hk]
theorem has_neg {n : Nat} {f : Nat → Bool} : dmHas n f (-1) = false := by unfold dmHas; simp
theorem has_end {C R : Nat} {f : Nat → Bool} : dmHas (C * R) f ((C : Int) * (R : Int)) = false := by unfold dmHas; simp
theorem same_refl {C R n : Nat} {f : Nat → Bool} : dmSame C R n f C R n f = true := by
  unfold dmSame; simp [eqTo_iff]
theorem same_out {C R n : Nat} {f : Nat → Bool} {mb : Int} {x : Bool} (h : ¬ (0 ≤ mb ∧ mb < n)) : dmSame C R n f C R n (updB n f mb x) = true := by
  have : updB n f mb x = f := by funext j; unfold updB; rw [if_neg (by intro h2; exact h ⟨h2.1, h2.2.1⟩)]
  rw [this]; exact same_refl
theorem same_in {C R n k : Nat} {f : Nat → Bool} {x : Bool} (h : k < n) : dmSame C R n f C R n (updB n f k x) = (f k == x) := by
  unfold dmSame
  simp only [decide_true, Bool.true_and]
  rw [Bool.eq_iff_iff, eqTo_iff, beq_iff_eq]
  constructor
  · intro h2
    have := h2 k h
    unfold updB at this
    simpa [h] using this
  · intro h2 j hj
    unfold updB
    by_cases e : j = k
    · subst e; simp [h, h2]
    · simp [e]

theorem has_upd {n k : Nat} {f : Nat → Bool} {x : Bool} (hk : k < n) : dmHas n (updB n f k x) k = x := by
  rw [has_at hk]; unfold updB; simp [hk]
/-- The list, in a world. -/
def LsL (w : World) (n : Nat) (f : Nat → Bool) (p : Option Addr) : Prop := ∀ k, k < n → f k = true → ∃ g, p = some ⟨g, 0, none⟩ ∧ VB w g 3 (cntTo f n) (fun j => (lsv (lsTo f n)).getD j undef)
theorem LsL.later {w w' : World} {n : Nat} {f : Nat → Bool} {p : Option Addr} (h : LsL w n f p) (hb : Below w.heap.size w w') : LsL w' n f p := fun k hk hf => by
  obtain ⟨g, h1, h2⟩ := h k hk hf
  exact ⟨g, h1, h2.later hb⟩
theorem LsL.cell {w : World} {n k : Nat} {f : Nat → Bool} {p : Option Addr} (h : LsL w n f p) (hk : k < n) (hf : f k = true) : ∃ g, p = some ⟨g, 0, none⟩ ∧ g < w.heap.size ∧ w.cell? ⟨g, cntTo f k, none⟩ = some (.int .i64 k) := by
  obtain ⟨g, h1, h2⟩ := h k hk hf
  refine ⟨g, h1, h2.lt, ?_⟩
  rw [h2.cell (cntTo_lt hf hk)]
  have h3 := lsTo_at hf n hk
  unfold lsv
  rw [List.getD_eq_getElem?_getD, List.getElem?_map, h3]; rfl

set_option maxRecDepth 1000000 in
set_option maxHeartbeats 4000000 in
theorem damageMaps_walk (a0 a1 : Int) (p : Option Addr) (ls lc : Nat) (bad : Nat → Bool) (a3 : Int) (x : Bool) (w : World) (h0 : 0 ≤ a0 ∧ a0 ≤ 255) (h1 : 0 ≤ a1 ∧ a1 ≤ 255)
    (hls : ls ≤ maxLen) (hS : SL w p ls (blv bad)) :
    Calls Try.prog 5 #[.int .u8 a0, .int .u8 a1, .slice p ls lc, .int .i64 a3, .bool x] w
      fun e w' => e = .returned (.bool true) ∧ Below w.heap.size w w' := by
  obtain ⟨C, hA, hC0, hC⟩ : ∃ C : Nat, 1 + a0 % 4 = (C : Int) ∧ 0 < C ∧ C ≤ 4 := ⟨(1 + a0 % 4).toNat, by omega, by omega, by omega⟩
  obtain ⟨R, hB, hR0, hR⟩ : ∃ R : Nat, 1 + a1 % 4 = (R : Int) ∧ 0 < R ∧ R ≤ 4 := ⟨(1 + a1 % 4).toNat, by omega, by omega, by omega⟩
  have hm : C * R ≤ 64 := dm_size (by omega) (by omega)
  have hm0 : 0 < C * R := Nat.mul_pos hC0 hR0
  replace hS := Lib.hid hS
  have hls : ls ≤ 9223372036854775807 := by unfold maxLen at hls; omega
  by_cases hbig : 100 < ls
  · go_enter Try.func5, Try.ntmps5
    go_wp2_with fail
    refine (awake25 _).mono ?_
    rintro e w1 ⟨rfl, HW⟩
    go_wp2_with fail
    go_ret
    exact ⟨rfl, HW⟩
  go_enter Try.func5, Try.ntmps5
  go_wp2_with fail
  refine (awake25 _).mono ?_
  rintro e w1 ⟨rfl, HW⟩
  go_wp2_with fail
  have hS1 : SL w1 p ls (blv bad) := by
    rcases hS.out with h | ⟨b, o, h2, h3, h4⟩
    · exact Or.inl h
    · exact Or.inr ⟨b, o, h2, Nat.lt_of_lt_of_le h3 HW.size, fun k hk => by rw [HW.cell (p := ⟨b, o + k, none⟩) h3]; exact h4 k hk⟩
  refine (mapOf_any a0 a1 C R p ls _ bad _ h0 h1 hA hB (by omega) hS1).mono ?_
  clear hS1
  rintro e w2 ⟨b, rfl, hbf, HV, hb⟩
  have HW1 := HW
  replace HW := below_step HW hb
  clear hb
  unfold dmV dmC
  go_wp2_with fail
  generalize hw3 : w2.alloc (.cells #[.int .i64 (C : Int), .int .i64 (R : Int), .slice (some ⟨b, 0, none⟩) (C * R) (C * R)] DMT) = w3
  have HO : Ob w3 w2.heap.size DMT (dmC C R b (C * R) (C * R)) := by rw [← hw3]; exact Ob.new_at _ _ rfl
  have hbq := HV.lt
  replace HV : VB w3 b 4 (C * R) (blv (flF ls bad)) := by rw [← hw3]; exact HV.alloc _
  have hb1 := HW1.size
  have hbw : w.heap.size ≤ b := by omega
  replace HW : Below w.heap.size w w3 := by rw [← hw3]; exact HW.alloc HW.size _
  clear hw3 hbf hb1 HW1
  generalize w2.heap.size = q at *
  clear w2 w1
  refine (dmList_any C R b (C * R) _ _ _ hm HV).mono ?_
  rintro e w4 ⟨pl, cl, rfl, HL, hb⟩
  replace HL : LsL w4 (C * R) (flF ls bad) pl := HL
  replace HO := HO.later hb; replace HV := HV.later hb; replace HW := below_step HW hb
  clear hb
  have htot := cntTo_le (flF ls bad) (C * R)
  go_wp2_with fail
  go_loopw [14, 15, 43] (fun t n i wr => ∃ k : Nat, k ≤ C * R ∧ i = .int .i64 k ∧ n = .int .i64 (cntTo (flF ls bad) k : Nat) ∧ t = .string (txtB C (flF ls bad) k) ∧ Below w4.heap.size w4 wr) (fun _ _ i _ => C * R - (intOf i).toNat)
  case atStart => exact ⟨0, by omega, rfl, rfl, rfl, Below.refl _ _⟩
  case round =>
    obtain ⟨k, hk, rfl, rfl, rfl, HB⟩ := hrel
    replace HO := HO.later HB; replace HV := HV.later HB; replace HL := HL.later HB; replace HW := below_step HW HB
    by_cases hlt : k < C * R
    · have hd : decide ((k : Int) < (C : Int) * (R : Int)) = true := by
        have : ((k : Nat) : Int) < ((C * R : Nat) : Int) := by omega
        simpa using this
      have hsz := txtB_size C (flF ls bad) k
      have hcl := cntTo_le (flF ls bad) k
      have hst := Lib.hid (show txtB C (flF ls bad) (k + 1) = if 0 < C ∧ (k + 1) % C = 0 then (txtB C (flF ls bad) k ++ (if flF ls bad k = true then ⟨#[35]⟩ else ⟨#[46]⟩)) ++ ⟨#[10]⟩ else txtB C (flF ls bad) k ++ (if flF ls bad k = true then ⟨#[35]⟩ else ⟨#[46]⟩) from rfl)
      have hs1 := Lib.hid (show cntTo (flF ls bad) (k + 1) = cntTo (flF ls bad) k + if flF ls bad k = true then 1 else 0 from rfl)
      generalize hT : txtB C (flF ls bad) k = T at *
      replace hT := Lib.hid hT
      have hrow : (k % C = C - 1 ∧ (k + 1) % C = 0) ∨ (¬ k % C = C - 1 ∧ ¬ (k + 1) % C = 0) := by
        by_cases e : k % C = C - 1
        · exact Or.inl ⟨e, by rw [Nat.add_mod, e]; by_cases e1 : C = 1
                              · subst e1; rfl
                              · rw [Nat.mod_eq_of_lt (show 1 < C by omega), show C - 1 + 1 = C by omega, Nat.mod_self]⟩
        · refine Or.inr ⟨e, fun h => e ?_⟩
          have h2 := Nat.mod_lt k hC0
          rw [Nat.add_mod] at h
          by_cases e1 : C = 1
          · omega
          · rw [Nat.mod_eq_of_lt (show 1 < C by omega)] at h
            rcases Nat.lt_or_ge (k % C + 1) C with h3 | h3
            · rw [Nat.mod_eq_of_lt h3] at h; omega
            · omega
      cases hfk : flF ls bad k
      · replace hfk := Lib.hid hfk
        generalize hc : cntTo (flF ls bad) k = cn at *
        replace hc := Lib.hid hc
        by_cases hks : k < ls
        · have hbk : bad k = false := by simpa [flF, hks] using hfk.out
          obtain ⟨bs, os, rfl, hbs, hcs⟩ : ∃ bs os, p = some ⟨bs, os, none⟩ ∧ bs < w.heap.size ∧ ∀ k, k < ls → w.cell? ⟨bs, os + k, none⟩ = some (blv bad k) := by
            rcases hS.out with h | h
            · omega
            · exact h
          have c4 : wr.cell? ⟨bs, os + k, none⟩ = some (.bool false) := by rw [HW.cell (p := ⟨bs, os + k, none⟩) hbs]; rw [hcs k hks]; unfold blv; rw [hbk]
          clear hcs hbk
          go_wp2_with (refine wpList_load_ob HO rfl _ _ rfl rfl Try.underlying30 (by kernel_rfl) ?_)
          refine (dmHas_of C R b (C * R) _ _ k _ HV false (by rw [has_at hlt]; exact hfk.out)).mono ?_
          rintro e w5 ⟨rfl, hb⟩
          replace HB := below_step HB hb
          clear hb HO HV HL HW
          rcases hrow with ⟨r1, r2⟩ | ⟨r1, r2⟩
          · have r3 : (k : Int) % (C : Int) = (C : Int) - 1 := by
              have : ((k % C : Nat) : Int) = ((C - 1 : Nat) : Int) := by rw [r1]
              omega
            have h9 := Lib.hid (And.intro hC0 r2)
            clear r1 r2
            go_wp2_with fail
            exact ⟨⟨k + 1, by omega, by go_num, by rw [hs1.out, hfk.out]; simp, by rw [hst.out, hfk.out]; simp [h9.out], HB⟩, by simp [intOf]; omega⟩
          · have r3 : ¬ (k : Int) % (C : Int) = (C : Int) - 1 := by
              intro h
              have : ((k % C : Nat) : Int) = ((C - 1 : Nat) : Int) := by omega
              exact r1 (by omega)
            have h9 := Lib.hid r2
            clear r1 r2
            go_wp2_with fail
            exact ⟨⟨k + 1, by omega, by go_num, by rw [hs1.out, hfk.out]; simp, by rw [hst.out, hfk.out]; simp [h9.out], HB⟩, by simp [intOf]; omega⟩
        · have d1 : decide ((k : Int) < (ls : Int)) = false := by simp; omega
          go_wp2_with (refine wpList_load_ob HO rfl _ _ rfl rfl Try.underlying30 (by kernel_rfl) ?_)
          refine (dmHas_of C R b (C * R) _ _ k _ HV false (by rw [has_at hlt]; exact hfk.out)).mono ?_
          rintro e w5 ⟨rfl, hb⟩
          replace HB := below_step HB hb
          clear hb HO HV HL HW
          rcases hrow with ⟨r1, r2⟩ | ⟨r1, r2⟩
          · have r3 : (k : Int) % (C : Int) = (C : Int) - 1 := by
              have : ((k % C : Nat) : Int) = ((C - 1 : Nat) : Int) := by rw [r1]
              omega
            have h9 := Lib.hid (And.intro hC0 r2)
            clear r1 r2
            go_wp2_with fail
            exact ⟨⟨k + 1, by omega, by go_num, by rw [hs1.out, hfk.out]; simp, by rw [hst.out, hfk.out]; simp [h9.out], HB⟩, by simp [intOf]; omega⟩
          · have r3 : ¬ (k : Int) % (C : Int) = (C : Int) - 1 := by
              intro h
              have : ((k % C : Nat) : Int) = ((C - 1 : Nat) : Int) := by omega
              exact r1 (by omega)
            have h9 := Lib.hid r2
            clear r1 r2
            go_wp2_with fail
            exact ⟨⟨k + 1, by omega, by go_num, by rw [hs1.out, hfk.out]; simp, by rw [hst.out, hfk.out]; simp [h9.out], HB⟩, by simp [intOf]; omega⟩
      · have hm1 := cntTo_lt hfk hlt
        obtain ⟨g, rfl, hg, hcell⟩ := HL.cell hlt hfk
        have hks : k < ls := by
          by_cases e : k < ls
          · exact e
          · simp [flF, e] at hfk
        have hbk : bad k = true := by simpa [flF, hks] using hfk
        replace hfk := Lib.hid hfk
        generalize hM : cntTo (flF ls bad) (C * R) = M at *
        generalize hc : cntTo (flF ls bad) k = cn at *
        replace hM := Lib.hid hM; replace hc := Lib.hid hc
        obtain ⟨bs, os, rfl, hbs, hcs⟩ : ∃ bs os, p = some ⟨bs, os, none⟩ ∧ bs < w.heap.size ∧ ∀ k, k < ls → w.cell? ⟨bs, os + k, none⟩ = some (blv bad k) := by
          rcases hS.out with h | h
          · omega
          · exact h
        have c4 : wr.cell? ⟨bs, os + k, none⟩ = some (.bool true) := by rw [HW.cell (p := ⟨bs, os + k, none⟩) hbs]; rw [hcs k hks]; unfold blv; rw [hbk]
        clear hcs hbk
        go_wp2_with (refine wpList_load_ob HO rfl _ _ rfl rfl Try.underlying30 (by kernel_rfl) ?_)
        refine (dmHas_of C R b (C * R) _ _ k _ HV true (by rw [has_at hlt]; exact hfk.out)).mono ?_
        rintro e w5 ⟨rfl, hb⟩
        have c5 : w5.cell? ⟨g, cn, none⟩ = some (.int .i64 k) := by rw [hb.cell (p := ⟨g, cn, none⟩) hg]; exact hcell
        have d5 : ¬ M ≤ cn := by omega
        replace HB := below_step HB hb
        clear hb HO HV HL HW
        rcases hrow with ⟨r1, r2⟩ | ⟨r1, r2⟩
        · have r3 : (k : Int) % (C : Int) = (C : Int) - 1 := by
            have : ((k % C : Nat) : Int) = ((C - 1 : Nat) : Int) := by rw [r1]
            omega
          have h9 := Lib.hid (And.intro hC0 r2)
          clear r1 r2
          go_wp2_with fail
          exact ⟨⟨k + 1, by omega, by go_num, by rw [hs1.out, hfk.out]; simp, by rw [hst.out, hfk.out]; simp [h9.out], HB⟩, by simp [intOf]; omega⟩
        · have r3 : ¬ (k : Int) % (C : Int) = (C : Int) - 1 := by
            intro h
            have : ((k % C : Nat) : Int) = ((C - 1 : Nat) : Int) := by omega
            exact r1 (by omega)
          have h9 := Lib.hid r2
          clear r1 r2
          go_wp2_with fail
          exact ⟨⟨k + 1, by omega, by go_num, by rw [hs1.out, hfk.out]; simp, by rw [hst.out, hfk.out]; simp [h9.out], HB⟩, by simp [intOf]; omega⟩
    · obtain rfl : k = C * R := by omega
      clear HB HL
      generalize hF : flF ls bad = F at *
      clear hF htot
      go_wp2_with (refine wpList_load_ob HO rfl _ _ rfl rfl Try.underlying30 (by kernel_rfl) ?_)
      refine (dmClone_any C R b (C * R) _ _ _ ⟨hm0, hm⟩ HV).mono ?_
      rintro e w5 ⟨b2, c2, rfl, hb2f, HV2, hb⟩
      have z1 := HO.lt; have z2 := HV.lt; have z3 := HW.size; have z4 := HV2.lt
      replace HO := HO.later hb; replace HV := HV.later hb; replace HW := below_step HW hb
      clear hb
      unfold dmV dmC
      go_wp2_with fail
      generalize hw6 : w5.alloc (.cells #[.int .i64 (C : Int), .int .i64 (R : Int), .slice (some ⟨b2, 0, none⟩) (C * R) c2] DMT) = w6
      have HO2 : Ob w6 w5.heap.size DMT (dmC C R b2 (C * R) c2) := by rw [← hw6]; exact Ob.new_at _ _ rfl
      replace HO : Ob w6 q DMT (dmC C R b (C * R) (C * R)) := by rw [← hw6]; exact HO.alloc _
      replace HV : VB w6 b 4 (C * R) (blv F) := by rw [← hw6]; exact HV.alloc _
      replace HV2 : VB w6 b2 4 (C * R) (blv F) := by rw [← hw6]; exact HV2.alloc _
      replace HW : Below w.heap.size w w6 := by rw [← hw6]; exact HW.alloc HW.size _
      have m1 : q ≠ b2 := by omega
      have m2 : b ≠ b2 := by omega
      have m3 : w5.heap.size ≠ b2 := by omega
      have m4 : w.heap.size ≤ b2 := by omega
      clear hw6 z1 z2 z3 z4 hb2f
      generalize w5.heap.size = q2 at *
      clear w5
      refine (dmSet_any C R b2 (C * R) c2 _ a3 x _ HV2).mono ?_
      rintro e w7 ⟨rfl, HV3, hWr⟩
      replace HO := HO.wr hWr m1; replace HV := HV.wr hWr m2; replace HO2 := HO2.wr hWr m3; replace HW := hWr.below HW m4
      clear HV2 hWr m1 m2 m3 m4
      have HV2 := HV3
      clear HV3
      by_cases hi1 : 0 ≤ a3
      · by_cases hi2 : a3 < (C : Int) * (R : Int)
        · obtain ⟨k, rfl⟩ : ∃ k : Nat, a3 = k := ⟨a3.toNat, by omega⟩
          have hk2 : k < C * R := by
            have : ((k : Nat) : Int) < ((C * R : Nat) : Int) := by simpa using hi2
            omega
          have d1 : decide ((C : Int) * (R : Int) ≤ (k : Int)) = false := by simpa using hi2
          have d2 : decide ((k : Int) < (C : Int) * (R : Int)) = true := by simpa using hi2
          cases hy : F k
          all_goals
            replace hy := Lib.hid hy
            cases x
            all_goals
              go_wp2_with (refine wpList_load_ob_g HO rfl _ _ rfl rfl Try.underlying30 (by kernel_rfl) ?_)
              refine (dmHas_of C R b (C * R) _ _ k _ HV _ ((has_at hk2).trans hy.out)).mono ?_
              rintro e w8 ⟨rfl, hb⟩
              replace HO := HO.later hb; replace HV := HV.later hb; replace HO2 := HO2.later hb; replace HV2 := HV2.later hb; replace HW := below_step HW hb
              clear hb
              go_wp2_with (first | (refine wpList_load_ob_g HO rfl _ _ rfl rfl Try.underlying30 (by kernel_rfl) ?_) | (refine wpList_load_ob_g HO2 rfl _ _ rfl rfl Try.underlying30 (by kernel_rfl) ?_))
              refine (dmCount_any C R b (C * R) (C * R) F _ hm HV).mono ?_
              rintro e w9 ⟨rfl, hb⟩
              replace HO := HO.later hb; replace HV := HV.later hb; replace HO2 := HO2.later hb; replace HV2 := HV2.later hb; replace HW := below_step HW hb
              clear hb
              go_wp2_with (first | (refine wpList_load_ob_g HO rfl _ _ rfl rfl Try.underlying30 (by kernel_rfl) ?_) | (refine wpList_load_ob_g HO2 rfl _ _ rfl rfl Try.underlying30 (by kernel_rfl) ?_))
              refine (dmText_any C R b (C * R) (C * R) F _ hm (by omega) HV).mono ?_
              rintro e w9 ⟨rfl, hb⟩
              replace HO := HO.later hb; replace HV := HV.later hb; replace HO2 := HO2.later hb; replace HV2 := HV2.later hb; replace HW := below_step HW hb
              clear hb
              go_wp2_with (first | (refine wpList_load_ob_g HO rfl _ _ rfl rfl Try.underlying30 (by kernel_rfl) ?_) | (refine wpList_load_ob_g HO2 rfl _ _ rfl rfl Try.underlying30 (by kernel_rfl) ?_))
              refine (dmHas_of C R b (C * R) (C * R) F (-1) _ HV false has_neg).mono ?_
              rintro e w9 ⟨rfl, hb⟩
              replace HO := HO.later hb; replace HV := HV.later hb; replace HO2 := HO2.later hb; replace HV2 := HV2.later hb; replace HW := below_step HW hb
              clear hb
              go_wp2_with (first | (refine wpList_load_ob_g HO rfl _ _ rfl rfl Try.underlying30 (by kernel_rfl) ?_) | (refine wpList_load_ob_g HO2 rfl _ _ rfl rfl Try.underlying30 (by kernel_rfl) ?_))
              refine (dmHas_of C R b (C * R) (C * R) F ((C : Int) * (R : Int)) _ HV false has_end).mono ?_
              rintro e w9 ⟨rfl, hb⟩
              replace HO := HO.later hb; replace HV := HV.later hb; replace HO2 := HO2.later hb; replace HV2 := HV2.later hb; replace HW := below_step HW hb
              clear hb
              go_wp2_with (first | (refine wpList_load_ob_g HO rfl _ _ rfl rfl Try.underlying30 (by kernel_rfl) ?_) | (refine wpList_load_ob_g HO2 rfl _ _ rfl rfl Try.underlying30 (by kernel_rfl) ?_))
              refine (dmSame_of C R b (C * R) (C * R) C R b2 (C * R) c2 F (updB (C * R) F k _) _ hm HV HV2 _ ((same_in hk2).trans (by rw [hy.out]))).mono ?_
              rintro e w9 ⟨rfl, hb⟩
              replace HO := HO.later hb; replace HV := HV.later hb; replace HO2 := HO2.later hb; replace HV2 := HV2.later hb; replace HW := below_step HW hb
              clear hb
              go_wp2_with (first | (refine wpList_load_ob_g HO rfl _ _ rfl rfl Try.underlying30 (by kernel_rfl) ?_) | (refine wpList_load_ob_g HO2 rfl _ _ rfl rfl Try.underlying30 (by kernel_rfl) ?_))
              refine (dmSame_of C R b (C * R) (C * R) C R b (C * R) (C * R) F F _ hm HV HV true same_refl).mono ?_
              rintro e w9 ⟨rfl, hb⟩
              replace HO := HO.later hb; replace HV := HV.later hb; replace HO2 := HO2.later hb; replace HV2 := HV2.later hb; replace HW := below_step HW hb
              clear hb
              go_wp2_with (first | (refine wpList_load_ob_g HO rfl _ _ rfl rfl Try.underlying30 (by kernel_rfl) ?_) | (refine wpList_load_ob_g HO2 rfl _ _ rfl rfl Try.underlying30 (by kernel_rfl) ?_))
              refine (dmHas_of C R b2 (C * R) c2 (updB (C * R) F k _) k _ HV2 _ (has_upd hk2)).mono ?_
              rintro e w9 ⟨rfl, hb⟩
              replace HO := HO.later hb; replace HV := HV.later hb; replace HO2 := HO2.later hb; replace HV2 := HV2.later hb; replace HW := below_step HW hb
              clear hb
              go_wp2_with fail
              go_ret
              exact ⟨rfl, HW⟩
        · have d1 : decide ((C : Int) * (R : Int) ≤ a3) = true := by simpa using hi2
          have d2 : decide (a3 < (C : Int) * (R : Int)) = false := by simpa using hi2
          have hno : ¬ (0 ≤ a3 ∧ a3 < ((C * R : Nat) : Int)) := fun h => hi2 (by simpa using h.2)
          replace hno := Lib.hid hno
          go_wp2_with (first | (refine wpList_load_ob_g HO rfl _ _ rfl rfl Try.underlying30 (by kernel_rfl) ?_) | (refine wpList_load_ob_g HO2 rfl _ _ rfl rfl Try.underlying30 (by kernel_rfl) ?_))
          refine (dmCount_any C R b (C * R) (C * R) F _ hm HV).mono ?_
          rintro e w9 ⟨rfl, hb⟩
          replace HO := HO.later hb; replace HV := HV.later hb; replace HO2 := HO2.later hb; replace HV2 := HV2.later hb; replace HW := below_step HW hb
          clear hb
          go_wp2_with (first | (refine wpList_load_ob_g HO rfl _ _ rfl rfl Try.underlying30 (by kernel_rfl) ?_) | (refine wpList_load_ob_g HO2 rfl _ _ rfl rfl Try.underlying30 (by kernel_rfl) ?_))
          refine (dmText_any C R b (C * R) (C * R) F _ hm (by omega) HV).mono ?_
          rintro e w9 ⟨rfl, hb⟩
          replace HO := HO.later hb; replace HV := HV.later hb; replace HO2 := HO2.later hb; replace HV2 := HV2.later hb; replace HW := below_step HW hb
          clear hb
          go_wp2_with (first | (refine wpList_load_ob_g HO rfl _ _ rfl rfl Try.underlying30 (by kernel_rfl) ?_) | (refine wpList_load_ob_g HO2 rfl _ _ rfl rfl Try.underlying30 (by kernel_rfl) ?_))
          refine (dmHas_of C R b (C * R) (C * R) F (-1) _ HV false has_neg).mono ?_
          rintro e w9 ⟨rfl, hb⟩
          replace HO := HO.later hb; replace HV := HV.later hb; replace HO2 := HO2.later hb; replace HV2 := HV2.later hb; replace HW := below_step HW hb
          clear hb
          go_wp2_with (first | (refine wpList_load_ob_g HO rfl _ _ rfl rfl Try.underlying30 (by kernel_rfl) ?_) | (refine wpList_load_ob_g HO2 rfl _ _ rfl rfl Try.underlying30 (by kernel_rfl) ?_))
          refine (dmHas_of C R b (C * R) (C * R) F ((C : Int) * (R : Int)) _ HV false has_end).mono ?_
          rintro e w9 ⟨rfl, hb⟩
          replace HO := HO.later hb; replace HV := HV.later hb; replace HO2 := HO2.later hb; replace HV2 := HV2.later hb; replace HW := below_step HW hb
          clear hb
          go_wp2_with (first | (refine wpList_load_ob_g HO rfl _ _ rfl rfl Try.underlying30 (by kernel_rfl) ?_) | (refine wpList_load_ob_g HO2 rfl _ _ rfl rfl Try.underlying30 (by kernel_rfl) ?_))
          refine (dmSame_of C R b (C * R) (C * R) C R b2 (C * R) c2 F (updB (C * R) F a3 _) _ hm HV HV2 true (same_out hno.out)).mono ?_
          rintro e w9 ⟨rfl, hb⟩
          replace HO := HO.later hb; replace HV := HV.later hb; replace HO2 := HO2.later hb; replace HV2 := HV2.later hb; replace HW := below_step HW hb
          clear hb
          go_wp2_with (first | (refine wpList_load_ob_g HO rfl _ _ rfl rfl Try.underlying30 (by kernel_rfl) ?_) | (refine wpList_load_ob_g HO2 rfl _ _ rfl rfl Try.underlying30 (by kernel_rfl) ?_))
          refine (dmSame_of C R b (C * R) (C * R) C R b (C * R) (C * R) F F _ hm HV HV true same_refl).mono ?_
          rintro e w9 ⟨rfl, hb⟩
          replace HO := HO.later hb; replace HV := HV.later hb; replace HO2 := HO2.later hb; replace HV2 := HV2.later hb; replace HW := below_step HW hb
          clear hb
          go_wp2_with fail
          go_ret
          exact ⟨rfl, HW⟩
      · have d1 : decide (0 ≤ a3) = false := by simpa using hi1
        have hno : ¬ (0 ≤ a3 ∧ a3 < ((C * R : Nat) : Int)) := fun h => hi1 h.1
        replace hno := Lib.hid hno
        go_wp2_with (first | (refine wpList_load_ob_g HO rfl _ _ rfl rfl Try.underlying30 (by kernel_rfl) ?_) | (refine wpList_load_ob_g HO2 rfl _ _ rfl rfl Try.underlying30 (by kernel_rfl) ?_))
        refine (dmCount_any C R b (C * R) (C * R) F _ hm HV).mono ?_
        rintro e w9 ⟨rfl, hb⟩
        replace HO := HO.later hb; replace HV := HV.later hb; replace HO2 := HO2.later hb; replace HV2 := HV2.later hb; replace HW := below_step HW hb
        clear hb
        go_wp2_with (first | (refine wpList_load_ob_g HO rfl _ _ rfl rfl Try.underlying30 (by kernel_rfl) ?_) | (refine wpList_load_ob_g HO2 rfl _ _ rfl rfl Try.underlying30 (by kernel_rfl) ?_))
        refine (dmText_any C R b (C * R) (C * R) F _ hm (by omega) HV).mono ?_
        rintro e w9 ⟨rfl, hb⟩
        replace HO := HO.later hb; replace HV := HV.later hb; replace HO2 := HO2.later hb; replace HV2 := HV2.later hb; replace HW := below_step HW hb
        clear hb
        go_wp2_with (first | (refine wpList_load_ob_g HO rfl _ _ rfl rfl Try.underlying30 (by kernel_rfl) ?_) | (refine wpList_load_ob_g HO2 rfl _ _ rfl rfl Try.underlying30 (by kernel_rfl) ?_))
        refine (dmHas_of C R b (C * R) (C * R) F (-1) _ HV false has_neg).mono ?_
        rintro e w9 ⟨rfl, hb⟩
        replace HO := HO.later hb; replace HV := HV.later hb; replace HO2 := HO2.later hb; replace HV2 := HV2.later hb; replace HW := below_step HW hb
        clear hb
        go_wp2_with (first | (refine wpList_load_ob_g HO rfl _ _ rfl rfl Try.underlying30 (by kernel_rfl) ?_) | (refine wpList_load_ob_g HO2 rfl _ _ rfl rfl Try.underlying30 (by kernel_rfl) ?_))
        refine (dmHas_of C R b (C * R) (C * R) F ((C : Int) * (R : Int)) _ HV false has_end).mono ?_
        rintro e w9 ⟨rfl, hb⟩
        replace HO := HO.later hb; replace HV := HV.later hb; replace HO2 := HO2.later hb; replace HV2 := HV2.later hb; replace HW := below_step HW hb
        clear hb
        go_wp2_with (first | (refine wpList_load_ob_g HO rfl _ _ rfl rfl Try.underlying30 (by kernel_rfl) ?_) | (refine wpList_load_ob_g HO2 rfl _ _ rfl rfl Try.underlying30 (by kernel_rfl) ?_))
        refine (dmSame_of C R b (C * R) (C * R) C R b2 (C * R) c2 F (updB (C * R) F a3 _) _ hm HV HV2 true (same_out hno.out)).mono ?_
        rintro e w9 ⟨rfl, hb⟩
        replace HO := HO.later hb; replace HV := HV.later hb; replace HO2 := HO2.later hb; replace HV2 := HV2.later hb; replace HW := below_step HW hb
        clear hb
        go_wp2_with (first | (refine wpList_load_ob_g HO rfl _ _ rfl rfl Try.underlying30 (by kernel_rfl) ?_) | (refine wpList_load_ob_g HO2 rfl _ _ rfl rfl Try.underlying30 (by kernel_rfl) ?_))
        refine (dmSame_of C R b (C * R) (C * R) C R b (C * R) (C * R) F F _ hm HV HV true same_refl).mono ?_
        rintro e w9 ⟨rfl, hb⟩
        replace HO := HO.later hb; replace HV := HV.later hb; replace HO2 := HO2.later hb; replace HV2 := HV2.later hb; replace HW := below_step HW hb
        clear hb
        go_wp2_with fail
        go_ret
        exact ⟨rfl, HW⟩
end Go.Proofs.Ytggdaefgaakijaa

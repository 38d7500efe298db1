/- Walk of the law HadSigns: true at every input. -/
import Derived.Test.YtdgdpicfloekeaaSign
import Derived.Test.YtdgdpicfloekeaaHad5
namespace Go.Proofs.Ytdgdpicfloekeaa
open Go.RowKit
attribute [local go_sem ↓] run_imax run_imin

theorem hsign_r (r x : Int) (R X : Nat) (hR : r % 8 = R) (hX : x % 8 = X) (w : World) :
    Calls Try.prog 28 #[.int .i64 r, .int .i64 x] w fun e w' => e = .returned (.int .i64 (sg R X)) ∧ Below w.heap.size w w' := by
  refine (hsign_any r x w).mono ?_
  rintro e w' ⟨rfl, h⟩
  rw [show (r % 8).toNat = R by omega, show (x % 8).toNat = X by omega]
  exact ⟨rfl, h⟩

/-- How often the signs of row r change ahead of place m. -/
def chg (r : Nat) : Nat → Nat
  | 0 => 0
  | m + 1 => chg r m + if m = 0 ∨ sg r m = sg r (m - 1) then 0 else 1
theorem chg_8 : ∀ r, r < 8 → chg r 8 = r := by decide
theorem chg_le (r m : Nat) : chg r m ≤ m := by
  induction m with
  | zero => exact Nat.le_refl _
  | succ m ih => unfold chg; split <;> omega
def dot (a b : Nat) : Nat → Int
  | 0 => 0
  | m + 1 => dot a b m + sg a m * sg b m
theorem dot_bd (a b : Nat) (ha : a < 8) (hb : b < 8) : ∀ m, m ≤ 8 → -m ≤ dot a b m ∧ dot a b m ≤ m := by
  intro m
  induction m with
  | zero => intro _; simp [dot]
  | succ m ih =>
    intro hm
    have h1 := ih (by omega)
    unfold dot
    rcases sg_or a ha m (by omega) with e | e <;> rcases sg_or b hb m (by omega) with f | f <;> rw [e, f] <;> omega
theorem dot_8 : ∀ a, a < 8 → ∀ b, b < 8 → (dot a b 8 == 0) = (a != b) := by decide

set_option maxRecDepth 100000 in
set_option maxHeartbeats 1000000 in
theorem hadSigns_walk (U V : Nat) (x : Int) (w : World) (hU : U < 256) (hV : V < 256) :
    Calls Try.prog 9 #[.int .u8 (U : Int), .int .u8 (V : Int), .int .i64 x] w fun e w' => e = .returned (.bool true) ∧ Below w.heap.size w w' := by
  go_enter Try.func9, Try.ntmps9
  go_wp2_with fail
  refine (awake7 _).mono ?_
  rintro e w1 ⟨rfl, hb1⟩
  go_wp2_with fail
  go_loopw [16] (fun i wr => ∃ r : Nat, r ≤ 8 ∧ i = .int .i64 r ∧ Below w.heap.size w wr) (fun i _ => 8 - (intOf i).toNat)
  case atStart => exact ⟨0, by omega, rfl, hb1⟩
  case round =>
    clear hb1
    obtain ⟨r, hr, rfl, HW⟩ := hrel
    by_cases hr8 : r < 8
    · have hd : decide ((r : Int) < 8) = true := by simp; omega
      go_wp2_with fail
      go_loopw [8, 9] (fun c i wi => ∃ m : Nat, 1 ≤ m ∧ m ≤ 8 ∧ i = .int .i64 m ∧ c = .int .i64 (chg r m) ∧ Below w.heap.size w wi) (fun _ i _ => 8 - (intOf i).toNat)
      case atStart => exact ⟨1, by omega, by omega, rfl, rfl, HW⟩
      case round =>
        clear HW
        obtain ⟨m, hm1, hm, rfl, rfl, HW⟩ := hrel
        by_cases hm8 : m < 8
        · have hc := chg_le r m
          have hstep : chg r (m + 1) = chg r m + if m = 0 ∨ sg r m = sg r (m - 1) then 0 else 1 := rfl
          by_cases e : sg r m = sg r (m - 1)
          · rw [if_pos (Or.inr e)] at hstep
            have e' : (sg r m != sg r (m - 1)) = false := by rw [e]; simp
            have HS := Lib.hid hstep; clear hstep e
            go_wp2_with fail
            refine (hsign_r _ _ r m (by omega) (by omega) _).mono ?_
            rintro e w2 ⟨rfl, hb2⟩
            have HW := HW.trans (hb2.mono HW.size)
            go_wp2_with fail
            refine (hsign_r _ _ r (m - 1) (by omega) (by omega) _).mono ?_
            rintro e w3 ⟨rfl, hb3⟩
            have HW := HW.trans (hb3.mono HW.size)
            go_wp2_with fail
            refine ⟨⟨m + 1, by omega, by omega, by go_num, by rw [HS.out]; rfl, HW⟩, by simp [intOf]; omega⟩
          · rw [if_neg (by omega)] at hstep
            have e' : (sg r m != sg r (m - 1)) = true := by simpa using e
            have HS := Lib.hid hstep; clear hstep e
            go_wp2_with fail
            refine (hsign_r _ _ r m (by omega) (by omega) _).mono ?_
            rintro e w2 ⟨rfl, hb2⟩
            have HW := HW.trans (hb2.mono HW.size)
            go_wp2_with fail
            refine (hsign_r _ _ r (m - 1) (by omega) (by omega) _).mono ?_
            rintro e w3 ⟨rfl, hb3⟩
            have HW := HW.trans (hb3.mono HW.size)
            go_wp2_with fail
            refine ⟨⟨m + 1, by omega, by omega, by go_num, by rw [HS.out]; go_num, HW⟩, by simp [intOf]; omega⟩
        · obtain rfl : m = 8 := by omega
          rw [chg_8 r hr8]
          go_wp2_with fail
          refine ⟨⟨r + 1, by omega, by go_num, HW⟩, by simp [intOf]; omega⟩
    · obtain rfl : r = 8 := by omega
      clear hr8 hr
      go_wp2_with fail
      have hA : U % 8 < 8 := by omega
      have hB : V % 8 < 8 := by omega
      go_loopw [12, 43] (fun c i wi => ∃ m : Nat, m ≤ 8 ∧ i = .int .i64 m ∧ c = .int .i64 (dot (U % 8) (V % 8) m) ∧ Below w.heap.size w wi) (fun _ i _ => 8 - (intOf i).toNat)
      case atStart => exact ⟨0, by omega, rfl, rfl, HW⟩
      case round =>
        clear HW
        obtain ⟨m, hm, rfl, rfl, HW⟩ := hrel
        by_cases hm8 : m < 8
        · have hd1 := dot_bd (U % 8) (V % 8) hA hB m (by omega)
          have hp : -1 ≤ sg (U % 8) m * sg (V % 8) m ∧ sg (U % 8) m * sg (V % 8) m ≤ 1 := by
            rcases sg_or (U % 8) hA m hm8 with e | e <;> rcases sg_or (V % 8) hB m hm8 with f | f <;> rw [e, f] <;> omega
          have hstep := Lib.hid (show dot (U % 8) (V % 8) (m + 1) = dot (U % 8) (V % 8) m + sg (U % 8) m * sg (V % 8) m from rfl)
          go_wp2_with fail
          refine (hsign_r _ _ (U % 8) m (by omega) (by omega) _).mono ?_
          rintro e w2 ⟨rfl, hb2⟩
          have HW := HW.trans (hb2.mono HW.size)
          go_wp2_with fail
          rw [show ((U : Int) % 8) = ((U % 8 : Nat) : Int) by omega]
          refine (rsign_any (U % 8) m _ hA hm8).mono ?_
          rintro e w3 ⟨rfl, hb3⟩
          have HW := HW.trans (hb3.mono HW.size)
          go_wp2_with fail
          refine (hsign_r _ _ (U % 8) m (by omega) (by omega) _).mono ?_
          rintro e w4 ⟨rfl, hb4⟩
          have HW := HW.trans (hb4.mono HW.size)
          go_wp2_with fail
          refine (hsign_r _ _ (V % 8) m (by omega) (by omega) _).mono ?_
          rintro e w5 ⟨rfl, hb5⟩
          have HW := HW.trans (hb5.mono HW.size)
          go_wp2_with fail
          refine ⟨?_, by simp [intOf]; omega⟩
          repeat apply Exists.intro
          exact ⟨⟨m + 1, by omega, by go_num, by rw [hstep.out], HW⟩, rfl⟩
        · obtain rfl : m = 8 := by omega
          have hdot := dot_8 (U % 8) hA (V % 8) hB
          have hxx : bits .and .i64 x 7 = x % 8 := and7_i64 x
          have hX : ∃ X : Nat, x % 8 = (X : Int) := ⟨(x % 8).toNat, by omega⟩
          obtain ⟨X, hX⟩ := hX
          have HX := Lib.hid hX; clear hX
          by_cases hab : U % 8 = V % 8
          · have h1 : (dot (U % 8) (V % 8) 8 == 0) = false := by rw [hdot, hab]; simp
            have h2 : (((U : Int) % 8) != ((V : Int) % 8)) = false := by simp; omega
            have HAB := Lib.hid hab; clear hab hdot
            go_wp2_with fail
            refine (hsign_r _ _ (U % 8) X (by omega) HX.out _).mono ?_
            rintro e w2 ⟨rfl, hb2⟩
            have HW := HW.trans (hb2.mono HW.size)
            go_wp2_with fail
            refine (hsign_r _ _ (U % 8) X (by omega) (by have := HX.out; omega) _).mono ?_
            rintro e w3 ⟨rfl, hb3⟩
            have HW := HW.trans (hb3.mono HW.size)
            go_wp2_with fail
            refine (hsign_r _ _ (U % 8) X (by omega) (by have := HX.out; omega) _).mono ?_
            rintro e w4 ⟨rfl, hb4⟩
            have HW := HW.trans (hb4.mono HW.size)
            go_wp2_with fail
            refine (hsign_r _ _ (U % 8) X (by omega) HX.out _).mono ?_
            rintro e w5 ⟨rfl, hb5⟩
            have HW := HW.trans (hb5.mono HW.size)
            go_wp2_with fail
            go_ret
            exact ⟨rfl, HW⟩
          · have h1 : (dot (U % 8) (V % 8) 8 == 0) = true := by rw [hdot]; simpa using hab
            have h2 : (((U : Int) % 8) != ((V : Int) % 8)) = true := by simp; omega
            have HAB := Lib.hid hab; clear hab hdot
            go_wp2_with fail
            refine (hsign_r _ _ (U % 8) X (by omega) HX.out _).mono ?_
            rintro e w2 ⟨rfl, hb2⟩
            have HW := HW.trans (hb2.mono HW.size)
            go_wp2_with fail
            refine (hsign_r _ _ (U % 8) X (by omega) (by have := HX.out; omega) _).mono ?_
            rintro e w3 ⟨rfl, hb3⟩
            have HW := HW.trans (hb3.mono HW.size)
            go_wp2_with fail
            refine (hsign_r _ _ (U % 8) X (by omega) (by have := HX.out; omega) _).mono ?_
            rintro e w4 ⟨rfl, hb4⟩
            have HW := HW.trans (hb4.mono HW.size)
            go_wp2_with fail
            refine (hsign_r _ _ (U % 8) X (by omega) HX.out _).mono ?_
            rintro e w5 ⟨rfl, hb5⟩
            have HW := HW.trans (hb5.mono HW.size)
            go_wp2_with fail
            go_ret
            exact ⟨rfl, HW⟩
end Go.Proofs.Ytdgdpicfloekeaa

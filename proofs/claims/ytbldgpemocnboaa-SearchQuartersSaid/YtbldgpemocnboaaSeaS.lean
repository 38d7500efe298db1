/- search's steps, allowed, whole, walked. -/
import Derived.Test.YtbldgpemocnboaaSeaB
import Derived.Test.YtbldgpemocnboaaRea
import Derived.Test.YtbldgpemocnboaaWay
import Derived.Laws.AppendOwn
import Derived.OwnWalk
namespace Go.Proofs.Ytbldgpemocnboaa
open Go.RowKit Go.Sort
attribute [local go_sem ↓] run_imax run_imin

def pV (p : Int × Int) : Value := vcV p.1 p.2
/-- The q-th place around one, if it may be. -/
def stF (X Y n by_ : Int) (m q : Nat) : Option (Int × Int) :=
  if rightB (X + (-n + by_ * ((q % m : Nat) : Int))) (Y + (-n + by_ * ((q / m : Nat) : Int))) = true then some (X + (-n + by_ * ((q % m : Nat) : Int)), Y + (-n + by_ * ((q / m : Nat) : Int))) else none
def stepsTo (X Y n by_ : Int) (m : Nat) : Nat → List (Int × Int)
  | 0 => []
  | q + 1 => stepsTo X Y n by_ m q ++ (stF X Y n by_ m q).toList
theorem stepsTo_len (X Y n by_ : Int) (m : Nat) : ∀ q, (stepsTo X Y n by_ m q).length ≤ q
  | 0 => Nat.le_refl _
  | q + 1 => by
    have := stepsTo_len X Y n by_ m q
    unfold stepsTo
    rw [List.length_append]
    have : (stF X Y n by_ m q).toList.length ≤ 1 := by cases stF X Y n by_ m q <;> simp
    omega
theorem infoCx : (Try.prog.info? 61).map (fun i => (i.zero, i.size, i.bytes)) = some (some (.complex .f64 0 0), 1, 16) := by kernel_rfl
def listF (L : List (Int × Int)) (j : Nat) : Value := pV (L.getD j (0, 0))
/-- A slice of vectors. -/
def StepsP (L : List (Int × Int)) (w : World) (e : Ending) (w' : World) : Prop := ∃ p c, e = .returned (.slice p L.length c) ∧ SL w' p L.length (listF L) ∧ (∀ b o, p = some ⟨b, o, none⟩ → w.heap.size ≤ b) ∧ Below w.heap.size w w'
theorem sl_of_owns {w : World} {B : Nat} {L : List (Int × Int)} {v : Value} (h : w.ownsRow B 61 1 v L.length (L.map pV)) : ∃ p c, v = .slice p L.length c ∧ SL w p L.length (listF L) ∧ ∀ b o, p = some ⟨b, o, none⟩ → B ≤ b := by
  rcases h.2 with ⟨rfl, hx⟩ | ⟨g, cap, cur, rfl, hg, _⟩
  · exact ⟨none, 0, by rw [hx], Or.inl hx, fun b o h => by cases h⟩
  · refine ⟨_, cap, rfl, Or.inr ⟨g, 0, rfl, ?_, fun k hk => ?_⟩, fun b o h => by cases h; exact hg⟩
    · have hV := (VB.of_owns (f := listF L) h (fun j hj => by simp [listF, hj])).1
      exact hV.lt
    · have hV := (VB.of_owns (f := listF L) h (fun j hj => by simp [listF, hj])).1
      have := hV.cell hk
      rwa [Nat.zero_add]
set_option maxRecDepth 1000000 in
set_option maxHeartbeats 8000000 in
theorem steps_any (fr lm X Y n by_ : Int) (m : Nat) (w : World) (hX : -31 ≤ X ∧ X ≤ 31) (hY : -31 ≤ Y ∧ Y ≤ 31) (hn : 0 ≤ n ∧ n ≤ 30) (hby : by_ = 1 ∨ by_ = 2) (hm : by_ * (m : Int) = 2 * n + by_) :
    Calls Try.prog 107 #[.agg #[.int .i64 fr, .int .i64 lm], vcV X Y, .int .i64 by_, .int .i64 n] w (StepsP (stepsTo X Y n by_ m (m * m)) w) := by
  have hpa := fun W => parts_any X Y W (by omega) (by omega)
  have hm61 : m ≤ 61 := by rcases hby with rfl | rfl <;> omega
  have hm0 : 1 ≤ m := by rcases hby with rfl | rfl <;> omega
  have hmm : m * m ≤ 3721 := Nat.mul_le_mul hm61 hm61
  have hD : ∀ j : Nat, (j < m → -30 ≤ -n + by_ * (j : Int) ∧ -n + by_ * (j : Int) ≤ n) ∧ (j = m → n < -n + by_ * (j : Int)) ∧ (j ≤ m → -30 ≤ -n + by_ * (j : Int) ∧ -n + by_ * (j : Int) ≤ 40) := fun j => by
    rcases hby with rfl | rfl <;> omega
  have hb1 : 1 ≤ by_ ∧ by_ ≤ 2 := by omega
  obtain ⟨hb1, hb2⟩ := hb1
  obtain ⟨x1, x2⟩ := hX; obtain ⟨y1, y2⟩ := hY; obtain ⟨n1, n2⟩ := hn
  obtain ⟨i0, hi, hz0, hz1, hz2⟩ := info_parts infoCx
  replace hm := Lib.hid hm; replace hby := Lib.hid hby; replace hD := Lib.hid hD; replace hmm := Lib.hid hmm
  obtain ⟨LF, hLF⟩ : ∃ LF : Nat → List (Int × Int), stepsTo X Y n by_ m = LF := ⟨_, rfl⟩
  rw [hLF]
  have hL0 : LF 0 = [] := by rw [← hLF]; rfl
  have hLs : ∀ j i : Nat, i < m → LF (j * m + (i + 1)) = LF (j * m + i) ++ (if rightB (X + (-n + by_ * (i : Int))) (Y + (-n + by_ * (j : Int))) = true then [(X + (-n + by_ * (i : Int)), Y + (-n + by_ * (j : Int)))] else []) := fun j i him => by
    rw [← hLF]
    show stepsTo X Y n by_ m (j * m + i) ++ (stF X Y n by_ m (j * m + i)).toList = _
    unfold stF
    rw [show (j * m + i) % m = i by rw [Nat.mul_comm, Nat.mul_add_mod, Nat.mod_eq_of_lt him], show (j * m + i) / m = j by rw [Nat.mul_comm, Nat.mul_add_div (by omega), Nat.div_eq_of_lt him, Nat.add_zero]]
    split <;> rfl
  have hLl : ∀ q, (LF q).length ≤ q := fun q => by rw [← hLF]; exact stepsTo_len _ _ _ _ _ q
  replace hLF := Lib.hid hLF; replace hLs := Lib.hid hLs; replace hLl := Lib.hid hLl; replace hL0 := Lib.hid hL0
  unfold vcV at hpa ⊢
  replace hpa := Lib.hid hpa
  go_enter Try.func107, Try.ntmps107
  go_upto_region 2 with fail
  generalize hw1 : w.alloc (.cells #[.int .i64 fr, .int .i64 lm] 89) = w1
  have HW : Below w.heap.size w w1 := by rw [← hw1]; ((repeat (first | exact Below.refl _ _ | assumption | refine Below.setCell ?_ (by first | omega | (simp; done) | (simp; omega)) _ | refine Below.alloc ?_ (by first | omega | (simp; done) | (simp; omega)) _ | refine below_drewN ?_ _ | refine Below.drew ?_ | refine below_setRow ?_ (by first | omega | (simp; done) | (simp; omega)) _)))
  clear hw1
  go_wp2_with fail
  refine (hpa.out _).mono ?_
  rintro e w2 ⟨rfl, rfl⟩
  go_wp2_with fail
  have h00 : (LF 0).length = 0 := by rw [hL0.out]; rfl
  go_loopw [9, 12] (fun v t wr => ∃ (j : Nat) (DY : Int), j ≤ m ∧ t = .int .i64 DY ∧ Hid (DY = -n + by_ * (j : Int)) ∧ wr.ownsRow w.heap.size 61 1 v (LF (j * m)).length ((LF (j * m)).map pV) ∧ Below w.heap.size w wr) (fun _ t _ => (n + 1 - intOf t).toNat)
  case atStart => exact ⟨0, -n, by omega, rfl, Lib.hid (by omega), by rw [Nat.zero_mul, h00, hL0.out]; exact World.ownsRow_nil _ _ _ _, HW⟩
  case round =>
    clear HW
    obtain ⟨j, DY, hj, rfl, hDY, hown, HW⟩ := hrel
    by_cases hjm : j < m
    · have hb := (hD.out j).1 hjm
      rw [← hDY.out] at hb
      obtain ⟨dy1, dy2⟩ := hb
      go_wp2_with fail
      go_loopw [9, 13] (fun v t wr => ∃ (i : Nat) (DX : Int), i ≤ m ∧ t = .int .i64 DX ∧ Hid (DX = -n + by_ * (i : Int)) ∧ wr.ownsRow w.heap.size 61 1 v (LF (j * m + i)).length ((LF (j * m + i)).map pV) ∧ Below w.heap.size w wr) (fun _ t _ => (n + 1 - intOf t).toNat)
      case atStart => exact ⟨0, -n, by omega, rfl, Lib.hid (by omega), hown, HW⟩
      case round =>
        clear hown HW
        obtain ⟨i, DX, hi2, rfl, hDX, hown, HW⟩ := hrel
        by_cases him : i < m
        · have hb := (hD.out i).1 him
          rw [← hDX.out] at hb
          obtain ⟨dx1, dx2⟩ := hb
          have hls := hLs.out j i him
          rw [← hDX.out, ← hDY.out] at hls
          have hlen := hLl.out (j * m + i)
          have hq : j * m + i ≤ 3721 := by
            have : j * m + i < m * m := by
              have h5 : (j + 1) * m ≤ m * m := Nat.mul_le_mul_right m hjm
              rw [Nat.add_mul, Nat.one_mul] at h5; omega
            have := hmm.out; omega
          have hlen2 : (LF (j * m + i)).length ≤ 3721 := Nat.le_trans hlen hq
          clear hlen hq
          have hof := fun W => of_any (X + DX) (Y + DY) W
          have hri := fun W => right_any (X + DX) (Y + DY) W (by omega) (by omega)
          have hnx : Hid (DX + by_ = -n + by_ * ((i + 1 : Nat) : Int)) := Lib.hid (by rw [hDX.out]; push_cast; rw [Int.mul_add, Int.mul_one]; omega)
          unfold vcV at hof hri
          replace hof := Lib.hid hof; replace hri := Lib.hid hri; replace hls := Lib.hid hls
          go_wp2_with (go_at_call 57; (with_reducible refine (hof.out _).mono ?_); rintro e w' ⟨rfl, rfl⟩)
          refine (hri.out _).mono ?_
          rintro e w5 ⟨rfl, rfl⟩
          cases hrv : rightB (X + DX) (Y + DY)
          · have hl2 := hls.out
            rw [hrv, if_neg (by simp), List.append_nil] at hl2
            replace hl2 := Lib.hid hl2; replace hrv := Lib.hid hrv
            go_wp2_with fail
            exact ⟨⟨i + 1, DX + by_, by omega, rfl, hnx, by rw [hl2.out]; exact hown, HW⟩, by simp [intOf]; omega⟩
          · have hl2 := hls.out
            rw [hrv, if_pos rfl] at hl2
            replace hl2 := Lib.hid hl2; replace hrv := Lib.hid hrv
            have hwz := HW.size
            go_wp2_with (at_builtin; refine wpList_append_own _ rfl _ _ 154 rfl w.heap.size 61 i0 (.complex .f64 0 0) 1 16 (by kernel_rfl) hi hz0 hz1 hz2 rfl (by decide) _ _ _ rfl (hown.alloc _) ⟨w5.heap.size, 0, none⟩ 1 1 [.complex .f64 (fbits (X + DX)) (fbits (Y + DY))] rfl rfl ?c1 ?c2 ?c3 ?c4 ?c5 ?_)
            case c1 =>
              intro z u hz
              match z, hz with
              | 0, hz => simp at hz; subst hz; simp [Addr.add]
            case c2 => intro u hu; simp at hu; subst hu; rfl
            case c3 => unfold maxLen; omega
            case c4 => omega
            case c5 => simp; omega
            intro v' w6 hown' hgrow _
            have HW1 : Below w.heap.size w w6 := (HW.alloc HW.size _).grown hgrow (by simp; omega) (fun z hz => (hown.lt z hz).1)
            have hown2 : w6.ownsRow w.heap.size 61 1 v' (LF (j * m + (i + 1))).length ((LF (j * m + (i + 1))).map pV) := by
              rw [hl2.out, List.length_append, List.map_append]
              simpa [pV, vcV] using hown'
            clear hown' hgrow hown HW
            go_wp2_with fail
            exact ⟨⟨i + 1, DX + by_, by omega, rfl, hnx, hown2, HW1⟩, by simp [intOf]; omega⟩
        · obtain rfl : i = m := by omega
          have hb := (hD.out i).2.1 rfl
          have hb2 := (hD.out i).2.2 (Nat.le_refl _)
          rw [← hDX.out] at hb hb2
          obtain ⟨dx1, dx2⟩ := hb2
          have hnx : Hid (DY + by_ = -n + by_ * ((j + 1 : Nat) : Int)) := Lib.hid (by rw [hDY.out]; push_cast; rw [Int.mul_add, Int.mul_one]; omega)
          have hjm1 : Hid ((j + 1) * i = j * i + i) := Lib.hid (by rw [Nat.add_mul, Nat.one_mul])
          go_wp2_with fail
          exact ⟨⟨j + 1, DY + by_, by omega, rfl, hnx, by rw [hjm1.out]; exact hown, HW⟩, by simp [intOf]; omega⟩
    · obtain rfl : j = m := by omega
      have hb := (hD.out j).2.1 rfl
      have hb2 := (hD.out j).2.2 (Nat.le_refl _)
      rw [← hDY.out] at hb hb2
      obtain ⟨dy1, dy2⟩ := hb2
      go_wp2_with fail
      go_ret
      obtain ⟨p, c, rfl, hS, hB⟩ := sl_of_owns hown
      exact ⟨p, c, rfl, hS, hB, HW⟩

abbrev SRT : TypeId := 89
/-- May a macroblock be made by vectors? -/
def alwB (lm : Int) (c mb : Nat) (X : Nat → Int) : Bool := decide (lm ≤ 0) || decide (reachTo c 9 mb X 5 < lm)
set_option maxRecDepth 1000000 in
set_option maxHeartbeats 8000000 in
theorem allowed_any (fr lm : Int) (c mb : Nat) (X Y : Nat → Int) (w : World) (h1 : 0 < c) (h2 : c ≤ 8) (hm : mb ≤ 1000000) (hV : V4b X Y) :
    Calls Try.prog 105 #[.agg #[.int .i64 fr, .int .i64 lm], .int .i64 (c : Int), .int .i64 (mb : Int), .agg (fcells 4 (vc4 X Y))] w fun e w' => e = .returned (.bool (alwB lm c mb X)) ∧ Below w.heap.size w w' := by
  have hre := fun W => reach_any c 9 mb X Y W h1 h2 hm hV
  unfold alwB
  obtain ⟨r, hr⟩ : ∃ r, reachTo c 9 mb X 5 = r := ⟨_, rfl⟩
  rw [hr] at hre ⊢
  obtain ⟨bb, hbb⟩ : ∃ bb, (decide (lm ≤ 0) || decide (r < lm)) = bb := ⟨_, rfl⟩
  rw [hbb]
  replace hre := Lib.hid hre; replace hr := Lib.hid hr; replace hbb := Lib.hid hbb
  go_enter Try.func105, Try.ntmps105
  go_upto_region 1 with fail
  generalize hw1 : (w.alloc (.cells #[.int .i64 fr, .int .i64 lm] SRT)).alloc (.cells (fcells 4 (vc4 X Y)) V63T) = w1
  have HS : Ob w1 w.heap.size SRT #[.int .i64 fr, .int .i64 lm] := by rw [← hw1]; exact (Ob.new_at _ _ rfl).alloc _
  have HV : Blk w1 (w.heap.size + 1) V63T 4 (vc4 X Y) := by rw [← hw1]; exact Blk.new_at _ _ _ (by simp)
  have HW : Below w.heap.size w w1 := by rw [← hw1]; ((repeat (first | exact Below.refl _ _ | assumption | refine Below.setCell ?_ (by first | omega | (simp; done) | (simp; omega)) _ | refine Below.alloc ?_ (by first | omega | (simp; done) | (simp; omega)) _ | refine below_drewN ?_ _ | refine Below.drew ?_ | refine below_setRow ?_ (by first | omega | (simp; done) | (simp; omega)) _)))
  clear hw1
  have e0 := fun p => (HS.re p).cell 1 (v := .int .i64 lm) rfl
  by_cases hlm : lm ≤ 0
  · have hd : decide (lm ≤ 0) = true := by simpa using hlm
    have hb2 := hbb.out
    rw [hd, Bool.true_or] at hb2
    subst hb2
    refine wp_region_quiet_below (by kernel_rfl) (by kernel_rfl) ?_
    repeat (go_big_quiet_step (fail))
    refine wpQuiet_nil ?_
    intro wq hwq
    replace hwq := Cls.below hwq
    replace HW := below_step HW hwq
    go_wp2_with fail
    go_ret
    exact ⟨rfl, HW⟩
  · have hd : decide (lm ≤ 0) = false := by simpa using hlm
    have hb2 := hbb.out
    rw [hd, Bool.false_or] at hb2
    subst hb2
    refine wp_region_quiet_below (by kernel_rfl) (by kernel_rfl) ?_
    repeat (first | (go_big_quiet_want; refine quiet_load_row (m := 4) HV V63T _ rfl rfl _ und63 rfl (by kernel_rfl) (by omega) _ (fcells_from _ _) ?_; go_big_quiet_on; simp only [Act.put, List.setIfInBounds_toArray, List.set_cons_succ, List.set_cons_zero]) | (go_big_quiet_step ((go_at_call 73; with_reducible exact Calls.regrown_of (hre.out _)))))
    refine wpQuiet_nil ?_
    intro wq hwq
    replace hwq := Cls.below hwq
    replace HW := below_step HW hwq
    go_wp2_with fail
    go_ret
    exact ⟨rfl, HW⟩
end Go.Proofs.Ytbldgpemocnboaa

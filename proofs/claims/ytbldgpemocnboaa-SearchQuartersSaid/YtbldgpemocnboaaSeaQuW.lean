/- The walk of the law SearchQuarters: true at every input. -/
import Derived.Test.YtbldgpemocnboaaSeaQ
import Derived.Test.YtbldgpemocnboaaSeaL
import Derived.Test.YtbldgpemocnboaaFrRe
import Derived.Test.YtbldgpemocnboaaCompWholeW
import Derived.Test.YtbldgpemocnboaaConM
import Derived.Deep.DeepCutAuto
namespace Go.Proofs.Ytbldgpemocnboaa
open Go.RowKit Go.Sort
attribute [local go_sem ↓] run_imax run_imin

theorem may_upd {lm : Int} {c mb k : Nat} {X Y : Nat → Int} {x y : Int} (h : ∀ j, B31 (X j, Y j)) (hk : k < 4) : mayB lm c mb (updN X k x) (updN Y k y) = (rightB x y && alwB lm c mb (updN X k x)) := by
  have e : ∀ j, rightB (updN X k x j) (updN Y k y j) = if j = k then rightB x y else true := fun j => by
    unfold updN
    by_cases hj : j = k
    · rw [if_pos hj, if_pos hj, if_pos hj]
    · rw [if_neg hj, if_neg hj, if_neg hj]
      obtain ⟨⟨a, b⟩, c, d⟩ := h j
      unfold rightB
      exact decide_eq_true ⟨a, b, c, d⟩
  have e2 : rightAll (updN X k x) (updN Y k y) 4 = rightB x y := by
    unfold rightAll rightAll rightAll rightAll rightAll
    rw [e 0, e 1, e 2, e 3]
    obtain rfl | rfl | rfl | rfl : k = 0 ∨ k = 1 ∨ k = 2 ∨ k = 3 := by omega
    all_goals (cases rightB x y <;> decide)
  unfold mayB
  rw [e2]
theorem may_all {lm : Int} {c mb : Nat} {x y : Int} (h : B31 (x, y)) : mayB lm c mb (fun _ => x) (fun _ => y) = alwB lm c mb (fun _ => x) := by
  have e : rightB x y = true := by obtain ⟨⟨a, b⟩, c, d⟩ := h; unfold rightB; exact decide_eq_true ⟨a, b, c, d⟩
  have e2 : rightAll (fun _ => x) (fun _ => y) 4 = true := by
    unfold rightAll rightAll rightAll rightAll rightAll
    rw [e]; rfl
  unfold mayB
  rw [e2, Bool.true_and]
/-- One of the law's tries. -/
def lawQ (M : (Nat → Int) → (Nat → Int) → Bool) (F : Int → Int → Int) (k : Nat) (s : Qs) (x y : Int) : Qs :=
  if M (updN s.X k x) (updN s.Y k y) = true ∧ F x y < s.n then ⟨updN s.X k x, updN s.Y k y, F x y⟩ else s
theorem lawQ_try {lm : Int} {c mb k : Nat} {F : Int → Int → Int} {s : Qs} {x y : Int} (h : ∀ j, B31 (s.X j, s.Y j)) (hk : k < 4) : lawQ (mayB lm c mb) F k s x y = tryQL (alwB lm c mb) F k s (rightL x y).toList := by
  unfold lawQ
  rw [may_upd h hk]
  unfold rightL
  cases hr : rightB x y
  · rw [if_neg (by simp), if_neg (by simp)]; rfl
  · rw [if_pos rfl]
    show _ = tryQ (alwB lm c mb) F k s (x, y)
    unfold tryQ
    by_cases h1 : F x y < s.n
    · cases h2 : alwB lm c mb (updN s.X k x)
      · rw [if_neg (by simp), if_neg (by simp)]
      · rw [if_pos ⟨rfl, h1⟩, if_pos ⟨h1, rfl⟩]
    · rw [if_neg (by simp [h1]), if_neg (by simp [h1])]
theorem tryQL_app {A : (Nat → Int) → Bool} {F : Int → Int → Int} {k : Nat} {s : Qs} (L M : List (Int × Int)) : tryQL A F k s (L ++ M) = tryQL A F k (tryQL A F k s L) M := by
  unfold tryQL; rw [List.foldl_append]
theorem gridQ_step {A : (Nat → Int) → Bool} {F : Int → Int → Int} {k : Nat} {s0 : Qs} (X Y n by_ : Int) (m j i : Nat) (hi : i < m) :
    tryQL A F k s0 (stepsTo X Y n by_ m (j * m + (i + 1))) = tryQL A F k (tryQL A F k s0 (stepsTo X Y n by_ m (j * m + i))) (rightL (X + (-n + by_ * (i : Int))) (Y + (-n + by_ * (j : Int)))).toList := by
  have e1 : (j * m + i) % m = i := by rw [Nat.mul_comm, Nat.mul_add_mod, Nat.mod_eq_of_lt hi]
  have e2 : (j * m + i) / m = j := by rw [Nat.mul_comm, Nat.mul_add_div (by omega), Nat.div_eq_of_lt hi, Nat.add_zero]
  have e : stF X Y n by_ m (j * m + i) = rightL (X + (-n + by_ * (i : Int))) (Y + (-n + by_ * (j : Int))) := by
    unfold stF rightL; rw [e1, e2]
  show tryQL A F k s0 (stepsTo X Y n by_ m (j * m + i) ++ (stF X Y n by_ m (j * m + i)).toList) = _
  rw [tryQL_app, e]
theorem run_equalIn_cx (W : World) (d : Nat) (a a' b b' : Nat) (h1 : FloatKind.f64.format.order a a' = some .eq) (h2 : FloatKind.f64.format.order b b' = some .eq) :
    (Op.equalIn (d + 1) 61 (.complex .f64 a b) (.complex .f64 a' b')).run Try.prog W = .ok true W := by
  have hu : Try.prog.underlying 61 = some (.complex .f64) := by kernel_rfl
  unfold Op.equalIn
  simp only [Sem.run_bind, run_underlying hu W, Result.andThen_ok]
  simp [Op.floatEq, h1, h2]
/-- == of four vectors that are the same. -/
theorem eqs63 (X Y : Nat → Int) (hb : ∀ j, B31 (X j, Y j)) (W : World) : (Op.equalIn 10000 V63T (.agg (fcells 4 (vc4 X Y))) (.agg (fcells 4 (vc4 X Y)))).run Try.prog W = .ok true W := by
  have h := run_equalIn_arr (P := Try.prog) W 9999 V63T 61 4 (vc4 X Y) (vc4 X Y) (fun _ => true) und63 (by kernel_rfl) (by kernel_rfl) (fun i _ => by
    obtain ⟨⟨a, b⟩, c, d⟩ := hb i
    have o1 := ord_self (n := X i) ⟨by omega, by omega⟩
    have o2 := ord_self (n := Y i) ⟨by omega, by omega⟩
    exact run_equalIn_cx W 9998 (fbits (X i)) (fbits (X i)) (fbits (Y i)) (fbits (Y i)) o1 o2)
  rw [h]; simp
theorem eqz63 (W : World) : (Op.equalIn 10000 V63T (.agg (fcells 4 fun _ => .complex .f64 0 0)) (.agg #[.complex .f64 0 0, .complex .f64 0 0, .complex .f64 0 0, .complex .f64 0 0])).run Try.prog W = .ok true W := by
  have h := eqs63 (fun _ => 0) (fun _ => 0) (fun _ => ⟨⟨by decide, by decide⟩, by decide, by decide⟩) W
  have e : vc4 (fun _ => (0 : Int)) (fun _ => 0) = fun _ => .complex .f64 0 0 := by funext j; show Value.complex .f64 (fbits 0) (fbits 0) = _; rw [fbits_zero]
  rw [e] at h
  exact h
set_option maxRecDepth 1000000 in
set_option maxHeartbeats 16000000 in
theorem searchQuarters_walk (co ro ki a b c sd : Int) (p : Option Addr) (n m : Nat) (sl : Nat → Int) (co' ro' ki' a' b' c' sd' : Int) (p' : Option Addr) (n' m' : Nat) (sl' : Nat → Int) (mb x y limit : Int) (bad : Bool) (w : World)
    (hw : SmallW co ro ki a b c sd n sl) (hn : n ≤ maxLen) (hS : SL w p n (u8v sl)) (hw' : SmallW co' ro' ki' a' b' c' sd' n' sl') (hn' : n' ≤ maxLen) (hS' : SL w p' n' (u8v sl'))
    (hmb : 0 ≤ mb ∧ mb ≤ 255) (hx : -128 ≤ x ∧ x ≤ 127) (hy : -128 ≤ y ∧ y ≤ 127) (hlim : 0 ≤ limit ∧ limit ≤ 255) :
    Calls Try.prog 10 #[smV co ro ki a b c sd p n m, smV co' ro' ki' a' b' c' sd' p' n' m', .int .u8 mb, .int .i8 x, .int .i8 y, .int .u8 limit, .bool bad] w fun e w' => e = .returned (.bool true) ∧ Below w.heap.size w w' := by
  replace hw := Lib.hid hw; replace hS := Lib.hid hS; replace hw' := Lib.hid hw'; replace hS' := Lib.hid hS'
  obtain ⟨hmb0, hmb1⟩ := hmb
  replace hx := Lib.hid hx; replace hy := Lib.hid hy; obtain ⟨hl0, hl1⟩ := hlim
  unfold smV
  go_enter Try.func10, Try.ntmps10
  go_wp2_with fail
  have HB : Ob ((w.alloc (.cells (smC co ro ki a b c sd p n m) SMT)).alloc (.cells (smC co' ro' ki' a' b' c' sd' p' n' m') SMT)) w.heap.size SMT (smC co ro ki a b c sd p n m) := (Ob.new_at _ _ rfl).alloc _
  have HT : Ob ((w.alloc (.cells (smC co ro ki a b c sd p n m) SMT)).alloc (.cells (smC co' ro' ki' a' b' c' sd' p' n' m') SMT)) (w.heap.size + 1) SMT (smC co' ro' ki' a' b' c' sd' p' n' m') := Ob.new_at _ _ (by simp)
  have HW : Below w.heap.size w ((w.alloc (.cells (smC co ro ki a b c sd p n m) SMT)).alloc (.cells (smC co' ro' ki' a' b' c' sd' p' n' m') SMT)) := by ((repeat (first | exact Below.refl _ _ | assumption | refine Below.setCell ?_ (by first | omega | (simp; done) | (simp; omega)) _ | refine Below.alloc ?_ (by first | omega | (simp; done) | (simp; omega)) _ | refine below_drewN ?_ _ | refine Below.drew ?_ | refine below_setRow ?_ (by first | omega | (simp; done) | (simp; omega)) _)))
  unfold smC at *
  generalize (w.alloc (.cells #[.int .u8 co, .int .u8 ro, .int .u8 ki, .int .u8 a, .int .u8 b, .int .u8 c, .int .u32 sd, .slice p n m] SMT)).alloc (.cells #[.int .u8 co', .int .u8 ro', .int .u8 ki', .int .u8 a', .int .u8 b', .int .u8 c', .int .u32 sd', .slice p' n' m'] SMT) = w0 at *
  refine (awake28 _).mono ?_
  rintro e w1 ⟨rfl, hb⟩
  replace HB := HB.later hb; replace HT := HT.later hb; replace HW := below_step HW hb
  clear hb
  go_wp2_with (refine wpList_load_ob_g HB rfl 38 _ rfl rfl Try.underlying38 (by kernel_rfl) ?_)
  refine (light_any co ro ki a b c sd p n m _ hn).mono ?_
  rintro e w2 ⟨rfl, hb⟩
  replace HB := HB.later hb; replace HT := HT.later hb; replace HW := below_step HW hb
  clear hb
  by_cases hn2 : n ≤ 2000
  case neg =>
    have hd : decide (n ≤ 2000) = false := by simpa using hn2
    go_wp2_with fail
    go_ret
    exact ⟨rfl, HW⟩
  have hd : decide (n ≤ 2000) = true := by simpa using hn2
  go_wp2_with (refine wpList_load_ob_g HT rfl 38 _ rfl rfl Try.underlying38 (by kernel_rfl) ?_)
  refine (light_any co' ro' ki' a' b' c' sd' p' n' m' _ hn').mono ?_
  rintro e w3 ⟨rfl, hb⟩
  replace HB := HB.later hb; replace HT := HT.later hb; replace HW := below_step HW hb
  clear hb
  by_cases hn3 : n' ≤ 2000
  case neg =>
    have hd2 : decide (n' ≤ 2000) = false := by simpa using hn3
    go_wp2_with fail
    go_ret
    exact ⟨rfl, HW⟩
  have hd2 : decide (n' ≤ 2000) = true := by simpa using hn3
  go_wp2_with (refine wpList_load_ob_g HB rfl 38 _ rfl rfl Try.underlying38 (by kernel_rfl) ?_)
  clear hd hd2
  refine (smallW_any hw.out hn2 (sl_later hS.out HW)).mono ?_
  rintro e w4 ⟨f, rfl, f1, f2, f3, f4, hM, -, hb⟩
  replace HT := HT.later hb; replace HW := below_step HW hb
  clear hb
  clear HB
  have hc8 := hM.hc; have hr8 := hM.hr
  unfold Fr.val
  go_wp2_with (refine wpList_store_stop (Ob.new_at (w := w4) FRT frZ rfl) rfl _ _ _ rfl rfl f.cells rfl (by kernel_rfl) rfl rfl ?_)
  intro w5 hw5
  have HF := cell_ob hw5.out
  replace HT := cell_keep hw5.out HT
  replace hM := cell_mem hw5.out hM
  replace HW := cell_below hw5.out HW HW.size
  clear hw5
  generalize w4.heap.size = q at *
  have g0 := HF.fC; have g1 := HF.fR
  go_wp2_with (refine wpList_load_ob_g HT rfl 38 _ rfl rfl Try.underlying38 (by kernel_rfl) ?_)
  clear g0 g1
  refine (sized_any co' ro' ki' a' b' c' sd' p' n' m' sl' f.c f.r _ hw'.out.ki hw'.out.a hw'.out.b hw'.out.c hw'.out.sd hn3 (sl_later hS'.out HW) hw'.out.sl (by omega) (by omega)).mono ?_
  rintro e w6 ⟨g, rfl, hgc, hgr, hG, gF, hb⟩
  clear gF
  replace HF := HF.later hb; replace hM := hM.later hb; replace HW := below_step HW hb
  clear hb
  clear HT
  unfold Fr.val
  go_wp2_with (refine wpList_store_stop (Ob.new_at (w := w6) FRT frZ rfl) rfl _ _ _ rfl rfl g.cells rfl (by kernel_rfl) rfl rfl ?_)
  intro w7 hw7
  have HG := cell_ob hw7.out
  replace HF := cell_keep hw7.out HF
  replace hM := cell_mem hw7.out hM; replace hG := cell_mem hw7.out hG
  replace HW := cell_below hw7.out HW HW.size
  clear hw7
  generalize w6.heap.size = z at *
  obtain ⟨M, hMe⟩ : ∃ M, f.c * f.r = M := ⟨_, rfl⟩
  have hM0 : 0 < M := by rw [← hMe]; exact Nat.mul_pos (by omega) (by omega)
  have hM9 : M ≤ 9 := by rw [← hMe]; exact Nat.mul_le_mul f2 f4
  obtain ⟨N, hN1, hN2⟩ := fmb_of mb hM0 hmb0
  have hMi : (f.c : Int) * (f.r : Int) = (M : Int) := by rw [← Int.natCast_mul, hMe]
  have hN3 : mb.tmod ((f.c : Int) * (f.r : Int)) = (N : Int) := by rw [hMi]; exact hN1
  have hz0 : ((f.c : Int) * (f.r : Int) == 0) = false := by rw [hMi]; simp; omega
  have hp0 : 0 < (f.c : Int) * (f.r : Int) := by rw [hMi]; omega
  have hp1 : (f.c : Int) * (f.r : Int) ≤ 9 := by rw [hMi]; omega
  replace hMe := Lib.hid hMe; replace hMi := Lib.hid hMi; replace hN1 := Lib.hid hN1
  have g0 := HF.fC; have g1 := HF.fR
  go_wp2_with fail
  clear g0 g1 hN3 hz0
  clear hp0 hp1
  refine (vsmall_any x y _ hx.out hy.out).mono ?_
  rintro e w10 ⟨rfl, rfl⟩
  obtain ⟨bx, bx2⟩ := sm32_bd x; obtain ⟨by_, by2⟩ := sm32_bd y
  obtain ⟨X, hX⟩ : ∃ X, sm32 x = X := ⟨_, rfl⟩
  obtain ⟨Y, hY⟩ : ∃ Y, sm32 y = Y := ⟨_, rfl⟩
  rw [hX] at bx bx2 ⊢; rw [hY] at by_ by2 ⊢
  replace hX := Lib.hid hX; replace hY := Lib.hid hY
  have hm : N ≤ 1000000 := by omega
  have h1 : 0 < f.c := by omega
  have gc0 : 0 < g.c := by omega
  have gr0 : 0 < g.r := by omega
  replace hgc := Lib.hid hgc; replace hgr := Lib.hid hgr
  obtain ⟨l, hl⟩ : ∃ l, limit % 5 * 12 = l := ⟨_, rfl⟩
  have hl5 : 0 ≤ limit % 5 * 12 ∧ limit % 5 * 12 ≤ 48 := by omega
  obtain ⟨l0, l1⟩ := hl5
  rw [hl] at l0 l1
  have hB : B31 (X, Y) := ⟨⟨bx, bx2⟩, by_, by2⟩
  replace hB := Lib.hid hB
  have hqu := fun W h2 h3 => quarters_any 0 l f g N X Y bad W h2 h3 h1 gc0 hm hB.out
  obtain ⟨V, hV⟩ : ∃ V, quaV (alwB l f.c N) (fun k x y => awayF f g N k x y bad) (stepsTo X Y 2 1 5 (5 * 5)) X Y = V := ⟨_, rfl⟩
  rw [hV] at hqu
  have hal := fun W => all_any X Y W
  have hma := fun W => may_any f.c N l (fun _ => X) (fun _ => Y) W h1 hc8 hm (fun _ _ => ⟨⟨by omega, by omega⟩, by omega, by omega⟩)
  rw [may_all hB.out] at hma
  have hmu : ∀ (k : Nat) (Z W2 : Nat → Int) (u v : Int) (W : World), k < 4 → (∀ j, B31 (Z j, W2 j)) → V64 u v → Calls Try.prog 55 #[.int .i64 (f.c : Int), .int .i64 l, .int .i64 (N : Int), .agg (fcells 4 (vc4 (updN Z k u) (updN W2 k v)))] W fun e w' => e = .returned (.bool (mayB l f.c N (updN Z k u) (updN W2 k v))) ∧ Below W.heap.size W w' := fun k Z W2 u v W hk hb hv => may_any f.c N l (updN Z k u) (updN W2 k v) W h1 hc8 hm (fun j _ => by
    obtain ⟨⟨b0, b1⟩, b2, b3⟩ := hb j
    replace b0 : -31 ≤ Z j := b0; replace b1 : Z j ≤ 31 := b1; replace b2 : -31 ≤ W2 j := b2; replace b3 : W2 j ≤ 31 := b3
    unfold updN
    by_cases e : j = k
    · rw [if_pos e, if_pos e]; exact hv
    · rw [if_neg e, if_neg e]; exact ⟨⟨by omega, by omega⟩, by omega, by omega⟩)
  have haw := fun (k : Nat) (hk : k < 4) x y W h2 h3 hV => lawAway_any f g N k x y bad W h1 h2 h3 gc0 gr0 hk hm hV
  have hbA : ∀ k x y, 0 ≤ awayF f g N k x y bad ∧ awayF f g N k x y bad ≤ 16320 := fun k x y => awayF_bd hM hG
  obtain ⟨F, hF⟩ : ∃ F : Nat → Int → Int → Int, (fun k x y => awayF f g N k x y bad) = F := ⟨_, rfl⟩
  have hF2 : ∀ k x y, awayF f g N k x y bad = F k x y := fun k x y => by rw [← hF]
  simp only [hF2] at haw hbA
  rw [hF] at hV
  have hst : ∀ (k : Nat) (s : Qs) (x y : Int), k < 4 → (∀ j, B31 (s.X j, s.Y j)) → lawQ (mayB l f.c N) (F k) k s x y = tryQL (alwB l f.c N) (F k) k s (rightL x y).toList := fun k s x y hk hb => lawQ_try hb hk
  obtain ⟨A, hA⟩ : ∃ A, alwB l f.c N = A := ⟨_, rfl⟩
  obtain ⟨M2, hM2⟩ : ∃ A, mayB l f.c N = A := ⟨_, rfl⟩
  rw [hA] at hV hst hma
  rw [hM2] at hst hmu
  have hz63 : ∀ W, (Instr.build V63T #[]).run Try.prog W = .ok (.agg (fcells 4 fun _ => .complex .f64 0 0)) W := fun W => by kernel_rfl
  have heq0 := fun W => eqz63 W
  replace hqu := Lib.hid hqu; replace hV := Lib.hid hV; replace hal := Lib.hid hal; replace hma := Lib.hid hma; replace hmu := Lib.hid hmu; replace haw := Lib.hid haw; replace hbA := Lib.hid hbA; replace hF := Lib.hid hF; replace hF2 := Lib.hid hF2; replace hst := Lib.hid hst; replace hA := Lib.hid hA; replace hM2 := Lib.hid hM2
  go_upto_region 10 with fail
  replace hl := Lib.hid hl
  go_wp2_with (first | (refine wpList_load_ob_g HF rfl 43 _ rfl rfl Try.underlying43 (by kernel_rfl) ?_) | (refine wpList_load_ob_g HG rfl 43 _ rfl rfl Try.underlying43 (by kernel_rfl) ?_))
  refine (hqu.out _ hM hG).mono ?_
  rintro e w11 ⟨rfl, hb⟩
  replace HF := HF.later hb; replace HG := HG.later hb; replace hM := hM.later hb; replace hG := hG.later hb; replace HW := below_step HW hb
  clear hb
  cases hr : A (fun _ => X)
  · have hVf := hV.out
    unfold quaV at hVf
    rw [if_neg (by rw [hr]; simp)] at hVf
    subst hVf
    replace hr := Lib.hid hr
    have us := HW.size
    go_wp2_with (first | (refine wpList_alloc_blk rfl V63T rfl _ _ alloc63 ?_) | (refine wpList_store_blk_stop (g := fun _ => .complex .f64 0 0) (Blk.new_at _ _ _ rfl) rfl _ _ _ rfl rfl rfl (by kernel_rfl) (fun j _ => rfl) ?_))
    intro w12 hw12
    have HK := mk_blk hw12.out
    have hb8 := mk_below hw12.out (Below.refl _ _) (Nat.le_refl _)
    clear hw12
    replace HF := HF.later hb8; replace HG := HG.later hb8; replace hM := hM.later hb8; replace hG := hG.later hb8; replace HW := below_step HW hb8
    clear hb8
    generalize w11.heap.size = bk at *
    go_wp2_with fail
    refine (hal.out _).mono ?_
    rintro e w13 ⟨rfl, hb⟩
    replace HK := HK.later hb
    replace HF := HF.later hb; replace HG := HG.later hb; replace hM := hM.later hb; replace hG := hG.later hb; replace HW := below_step HW hb
    clear hb
    have us2 := HW.size
    go_wp2_with (first | (refine wpList_alloc_blk rfl V63T rfl _ _ alloc63 ?_) | (refine wpList_store_blk_stop (Blk.new_at _ _ _ rfl) rfl _ _ _ rfl rfl rfl (by kernel_rfl) (fun j _ => rfl) ?_))
    intro w14 hw14
    have HT := mk_blk hw14.out
    have hb8 := mk_below hw14.out (Below.refl _ _) (Nat.le_refl _)
    clear hw14
    replace HK := HK.later hb8
    replace HF := HF.later hb8; replace HG := HG.later hb8; replace hM := hM.later hb8; replace hG := hG.later hb8; replace HW := below_step HW hb8
    clear hb8
    generalize w13.heap.size = bt at *
    have g0 := HF.fC
    go_wp2_with (refine wpList_load_blk HT rfl V63T _ rfl rfl und63 (by kernel_rfl) ?_)
    clear g0
    refine (hma.out _).mono ?_
    rintro e w15 ⟨rfl, hb⟩
    replace HK := HK.later hb; replace HT := HT.later hb
    replace HF := HF.later hb; replace HG := HG.later hb; replace hM := hM.later hb; replace hG := hG.later hb; replace HW := below_step HW hb
    clear hb
    rw [hr.out]
    go_wp2_with (refine wpList_load_blk_g HK rfl V63T _ rfl rfl und63 (by kernel_rfl) ?_)
    go_ret
    exact ⟨rfl, HW⟩
  · have hVf := hV.out
    unfold quaV at hVf
    rw [if_pos hr] at hVf
    subst hVf
    obtain ⟨P, hP⟩ : ∃ P, quaK A F (stepsTo X Y 2 1 5 (5 * 5)) X Y = P := ⟨_, rfl⟩
    have hPb : ∀ k j, B31 ((P k).X j, (P k).Y j) := by rw [← hP]; exact fun k j => quaK_b (A := A) (F := F) hB.out (fun v hv => stepsTo_b _ v hv) k j
    have hPn : ∀ k, 0 ≤ (P k).n ∧ (P k).n ≤ 16320 * (k : Int) := by rw [← hP]; exact fun k => quaK_n (A := A) (F := F) (K := 16320) hbA.out k
    have hPs : ∀ k, P (k + 1) = ⟨(tryQL A (F k) k ⟨(P k).X, (P k).Y, F k X Y⟩ (stepsTo X Y 2 1 5 (5 * 5))).X, (tryQL A (F k) k ⟨(P k).X, (P k).Y, F k X Y⟩ (stepsTo X Y 2 1 5 (5 * 5))).Y, (P k).n + (tryQL A (F k) k ⟨(P k).X, (P k).Y, F k X Y⟩ (stepsTo X Y 2 1 5 (5 * 5))).n⟩ := by rw [← hP]; exact fun k => rfl
    have hP0 : P 0 = ⟨fun _ => X, fun _ => Y, 0⟩ := by rw [← hP]; rfl
    rw [hP]
    have heqP := fun W => eqs63 (P 4).X (P 4).Y (hPb 4) W
    obtain ⟨pn0, pn1⟩ := hPn 4
    replace hr := Lib.hid hr; replace hP := Lib.hid hP; replace hPb := Lib.hid hPb; replace hPn := Lib.hid hPn; replace hPs := Lib.hid hPs; replace hP0 := Lib.hid hP0
    have us := HW.size
    go_wp2_with (first | (refine wpList_alloc_blk rfl V63T rfl _ _ alloc63 ?_) | (refine wpList_store_blk_stop (Blk.new_at _ _ _ rfl) rfl _ _ _ rfl rfl rfl (by kernel_rfl) (fun j _ => rfl) ?_))
    intro w12 hw12
    have HK := mk_blk hw12.out
    have hb8 := mk_below hw12.out (Below.refl _ _) (Nat.le_refl _)
    clear hw12
    replace HF := HF.later hb8; replace HG := HG.later hb8; replace hM := hM.later hb8; replace hG := hG.later hb8; replace HW := below_step HW hb8
    clear hb8
    generalize w11.heap.size = bk at *
    go_wp2_with fail
    refine (hal.out _).mono ?_
    rintro e w13 ⟨rfl, hb⟩
    replace HK := HK.later hb
    replace HF := HF.later hb; replace HG := HG.later hb; replace hM := hM.later hb; replace hG := hG.later hb; replace HW := below_step HW hb
    clear hb
    have us2 := HW.size
    go_wp2_with (first | (refine wpList_alloc_blk rfl V63T rfl _ _ alloc63 ?_) | (refine wpList_store_blk_stop (Blk.new_at _ _ _ rfl) rfl _ _ _ rfl rfl rfl (by kernel_rfl) (fun j _ => rfl) ?_))
    intro w14 hw14
    have HT := mk_blk hw14.out
    have hb8 := mk_below hw14.out (Below.refl _ _) (Nat.le_refl _)
    clear hw14
    have nkt : bk ≠ w13.heap.size := by have := HK.lt; omega
    replace HK := HK.later hb8
    replace HF := HF.later hb8; replace HG := HG.later hb8; replace hM := hM.later hb8; replace hG := hG.later hb8; replace HW := below_step HW hb8
    clear hb8
    generalize w13.heap.size = bt at *
    have g0 := HF.fC
    go_wp2_with (refine wpList_load_blk HT rfl V63T _ rfl rfl und63 (by kernel_rfl) ?_)
    clear g0
    refine (hma.out _).mono ?_
    rintro e w15 ⟨rfl, hb⟩
    replace HK := HK.later hb; replace HT := HT.later hb
    replace HF := HF.later hb; replace HG := HG.later hb; replace hM := hM.later hb; replace hG := hG.later hb; replace HW := below_step HW hb
    clear hb
    rw [hr.out]
    have hpa := fun W1 => parts_any X Y W1 ⟨by omega, by omega⟩ ⟨by omega, by omega⟩
    replace hpa := Lib.hid hpa
    go_wp2_with fail
    refine (hpa.out _).mono ?_
    rintro e w16 ⟨rfl, rfl⟩
    have HT0 : Blk w16 bt V63T 4 (vc4 (P 0).X (P 0).Y) := by rw [hP0.out]; exact HT
    have hP00 : (0 : Int) = (P 0).n := by rw [hP0.out]
    clear HT
    go_upto_region 16 with fail
    replace hP00 := Lib.hid hP00; replace heqP := Lib.hid heqP
    go_wp2_with fail
    go_loopw [24, 103] (fun t i wr => ∃ k : Nat, k ≤ 4 ∧ i = .int .i64 (k : Int) ∧ t = .int .i64 (P k).n ∧ Blk wr bt V63T 4 (vc4 (P k).X (P k).Y) ∧ Blk wr bk V63T 4 (vc4 (P 4).X (P 4).Y) ∧ Ob wr q FRT f.cells ∧ Ob wr z FRT g.cells ∧ f.Mem wr ∧ g.Mem wr ∧ Below w.heap.size w wr) (fun _ i _ => 4 - (intOf i).toNat)
    case atStart => exact ⟨0, by omega, rfl, rfl, HT0, HK, HF, HG, hM, hG, HW⟩
    case round =>
      clear HT0 HK HF HG hM hG HW
      obtain ⟨k, hk, rfl, rfl, HT, HK, HF, HG, hM, hG, HW⟩ := hrel
      by_cases hk4 : k < 4
      · have hd : decide ((k : Int) < 4) = true := by simp; omega
        obtain ⟨pk0, pk1⟩ := hPn.out k
        have pk2 : (P k).n ≤ 100000 := by omega
        clear pk1
        have hkB := hPb.out k
        have hks := hPs.out k
        obtain ⟨PX, hPX⟩ : ∃ X, (P k).X = X := ⟨_, rfl⟩
        obtain ⟨PY, hPY⟩ : ∃ Y, (P k).Y = Y := ⟨_, rfl⟩
        obtain ⟨Z, hZ⟩ : ∃ Z, (P k).n = Z := ⟨_, rfl⟩
        rw [hPX, hPY] at HT; rw [hZ] at pk0 pk2 ⊢
        simp only [hPX, hPY, hZ] at hkB hks
        obtain ⟨T, hT⟩ : ∃ T : Nat → Qs, (fun q => tryQL A (F k) k ⟨PX, PY, F k X Y⟩ (stepsTo X Y 2 1 5 q)) = T := ⟨_, rfl⟩
        have hT0 : T 0 = ⟨PX, PY, F k X Y⟩ := by rw [← hT]; rfl
        have hTe : P (k + 1) = ⟨(T (5 * 5)).X, (T (5 * 5)).Y, Z + (T (5 * 5)).n⟩ := by rw [hks, ← hT]
        have hTb : ∀ q i, B31 ((T q).X i, (T q).Y i) := fun q => by rw [← hT]; exact tryQL_b _ _ hkB (fun v hv => stepsTo_b _ v hv)
        have hTn : ∀ q, 0 ≤ (T q).n ∧ (T q).n ≤ 16320 := fun q => by rw [← hT]; exact tryQL_n (hbA.out k) _ _ (hbA.out k X Y)
        have hTs : ∀ j i : Nat, i < 5 → T (j * 5 + (i + 1)) = lawQ M2 (F k) k (T (j * 5 + i)) (X + ((i : Int) - 2)) (Y + ((j : Int) - 2)) := fun j i hi => by
          rw [hst.out k _ _ _ hk4 (hTb _), ← hT]
          show tryQL A (F k) k ⟨PX, PY, F k X Y⟩ (stepsTo X Y 2 1 5 (j * 5 + (i + 1))) = _
          rw [gridQ_step X Y 2 1 5 j i hi, show (-2 + 1 * (i : Int)) = (i : Int) - 2 by omega, show (-2 + 1 * (j : Int)) = (j : Int) - 2 by omega]
        have haw0 := fun W h2 h3 => haw.out k hk4 X Y W h2 h3 ⟨⟨by omega, by omega⟩, by omega, by omega⟩
        clear hkB hks
        replace hPX := Lib.hid hPX; replace hPY := Lib.hid hPY; replace hZ := Lib.hid hZ; replace hT := Lib.hid hT; replace hTe := Lib.hid hTe; replace hTs := Lib.hid hTs; replace hTb := Lib.hid hTb; replace hTn := Lib.hid hTn; replace haw0 := Lib.hid haw0
        go_wp2_with (first | (refine wpList_load_ob_g HF rfl FRT _ rfl rfl Try.underlying43 (by kernel_rfl) ?_) | (refine wpList_load_ob_g HG rfl FRT _ rfl rfl Try.underlying43 (by kernel_rfl) ?_))
        refine (haw0.out _ hM hG).mono ?_
        rintro e w17 ⟨rfl, hb⟩
        clear haw0 hd
        replace HK := HK.later hb; replace HT := HT.later hb
        replace HF := HF.later hb; replace HG := HG.later hb; replace hM := hM.later hb; replace hG := hG.later hb; replace HW := below_step HW hb
        clear hb
        have HT0 : Blk w17 bt V63T 4 (vc4 (T 0).X (T 0).Y) := by rw [hT0]; exact HT
        have hT00 : F k X Y = (T 0).n := by rw [hT0]
        rw [hT00]
        clear hT0 hT00 HT
        go_wp2_with fail
        go_loopw [28, 29] (fun t y wr => ∃ j : Nat, j ≤ 5 ∧ y = .int .i64 ((j : Int) - 2) ∧ t = .int .i64 (T (j * 5)).n ∧ Blk wr bt V63T 4 (vc4 (T (j * 5)).X (T (j * 5)).Y) ∧ Blk wr bk V63T 4 (vc4 (P 4).X (P 4).Y) ∧ Ob wr q FRT f.cells ∧ Ob wr z FRT g.cells ∧ f.Mem wr ∧ g.Mem wr ∧ Below w.heap.size w wr) (fun _ y _ => (3 - intOf y).toNat)
        case atStart => exact ⟨0, by omega, rfl, rfl, HT0, HK, HF, HG, hM, hG, HW⟩
        case round =>
          clear HT0 HK HF HG hM hG HW
          obtain ⟨j, hj, rfl, rfl, HT, HK, HF, HG, hM, hG, HW⟩ := hrel
          by_cases hj5 : j < 5
          · have hd : decide ((j : Int) - 2 ≤ 2) = true := by simp; omega
            have j0 : -2 ≤ (j : Int) - 2 := by omega
            have j1 : (j : Int) - 2 ≤ 2 := by omega
            go_wp2_with fail
            clear hd
            go_loopw [28, 30] (fun t x wr => ∃ i : Nat, i ≤ 5 ∧ x = .int .i64 ((i : Int) - 2) ∧ t = .int .i64 (T (j * 5 + i)).n ∧ Blk wr bt V63T 4 (vc4 (T (j * 5 + i)).X (T (j * 5 + i)).Y) ∧ Blk wr bk V63T 4 (vc4 (P 4).X (P 4).Y) ∧ Ob wr q FRT f.cells ∧ Ob wr z FRT g.cells ∧ f.Mem wr ∧ g.Mem wr ∧ Below w.heap.size w wr) (fun _ x _ => (3 - intOf x).toNat)
            case atStart => exact ⟨0, by omega, rfl, rfl, HT, HK, HF, HG, hM, hG, HW⟩
            case round =>
              clear HT HK HF HG hM hG HW
              obtain ⟨i, hi, rfl, rfl, HT, HK, HF, HG, hM, hG, HW⟩ := hrel
              by_cases hi5 : i < 5
              · have hd : decide ((i : Int) - 2 ≤ 2) = true := by simp; omega
                have i0 : -2 ≤ (i : Int) - 2 := by omega
                have i1 : (i : Int) - 2 ≤ 2 := by omega
                have hstep := hTs.out j i hi5
                have hqB := hTb.out (j * 5 + i)
                obtain ⟨tn0, tn1⟩ := hTn.out (j * 5 + i)
                rw [← Nat.add_assoc] at hstep
                obtain ⟨S, hS0⟩ : ∃ S, T (j * 5 + i) = S := ⟨_, rfl⟩
                obtain ⟨S2, hS2⟩ : ∃ S2, T (j * 5 + i + 1) = S2 := ⟨_, rfl⟩
                rw [hS0, hS2] at hstep
                rw [hS0] at HT tn0 tn1 hqB ⊢
                have u0 : -33 ≤ X + ((i : Int) - 2) ∧ X + ((i : Int) - 2) ≤ 33 := by omega
                have v0 : -33 ≤ Y + ((j : Int) - 2) ∧ Y + ((j : Int) - 2) ≤ 33 := by omega
                have hof := fun W1 => of_any (X + ((i : Int) - 2)) (Y + ((j : Int) - 2)) W1
                obtain ⟨u, hu⟩ : ∃ u, X + ((i : Int) - 2) = u := ⟨_, rfl⟩
                obtain ⟨v, hv⟩ : ∃ v, Y + ((j : Int) - 2) = v := ⟨_, rfl⟩
                rw [hu, hv] at hstep
                rw [hu] at u0; rw [hv] at v0
                have hV64 : V64 u v := ⟨⟨by omega, by omega⟩, by omega, by omega⟩
                have hmuk := fun W => hmu.out k S.X S.Y u v W hk4 hqB hV64
                have hawk := fun W h2 h3 => haw.out k hk4 u v W h2 h3 hV64
                obtain ⟨fx0, fx1⟩ := hbA.out k u v
                obtain ⟨Fv, hFv⟩ : ∃ Fv, F k u v = Fv := ⟨_, rfl⟩
                obtain ⟨Mv, hMv⟩ : ∃ Mv, M2 (updN S.X k u) (updN S.Y k v) = Mv := ⟨_, rfl⟩
                unfold lawQ at hstep
                rw [hFv, hMv] at hstep
                rw [hFv] at fx0 fx1
                simp only [hFv] at hawk
                simp only [hMv] at hmuk
                unfold vcV at hof hawk
                unfold Fr.val Fr.cells at hawk
                replace hS0 := Lib.hid hS0; replace hS2 := Lib.hid hS2; replace hstep := Lib.hid hstep; replace hof := Lib.hid hof; replace hmuk := Lib.hid hmuk; replace hawk := Lib.hid hawk; replace hFv := Lib.hid hFv; replace hMv := Lib.hid hMv; replace hqB := Lib.hid hqB; replace hV64 := Lib.hid hV64
                have hux := Lib.hid hu; have hvx := Lib.hid hv
                clear hu hv
                have us := HW.size
                have nbt := HT.lt
                go_wp2_with (first | (refine wpList_load_blk HT rfl V63T _ rfl rfl und63 (by kernel_rfl) ?_) | (refine wpList_alloc_blk rfl V63T rfl _ _ alloc63 ?_) | (refine wpList_store_blk_stop (Blk.new_at _ _ _ rfl) rfl _ _ _ rfl rfl rfl (by kernel_rfl) (fun j _ => rfl) ?_))
                intro w8 hw8
                have HN := mk_blk hw8.out
                have hb8 := mk_below hw8.out (Below.refl _ _) (Nat.le_refl _)
                clear hw8
                have cn := HN.cell (k := k) hk4
                have fn := HN.free k
                have k0 : (0 : Int) ≤ k := by omega
                have k1 : (k : Int) < 4 := by omega
                clear hd
                go_wp2_with fail
                refine (hof.out _).mono ?_
                rintro e wy ⟨rfl, rfl⟩
                rw [hux.out, hvx.out]
                clear hof
                go_upto_region 28 with fail
                clear cn fn
                have HN2 := (HN.set k (.complex .f64 (fbits u) (fbits v))).congr (g := vc4 (updN S.X k u) (updN S.Y k v)) (fun i _ => by
                  unfold vc4 updN
                  by_cases e : i = k
                  · subst e; rw [if_pos rfl, if_pos rfl, if_pos rfl]; rfl
                  · rw [if_neg e, if_neg e, if_neg e])
                replace hb8 := hb8.setCell (p := ⟨wr.heap.size, k, none⟩) (Nat.le_refl _) (.complex .f64 (fbits u) (fbits v))
                generalize w8.setCell ⟨wr.heap.size, k, none⟩ (.complex .f64 (fbits u) (fbits v)) = w9 at *
                clear HN
                replace HK := HK.later hb8; replace HT := HT.later hb8
                replace HN := HN2; clear HN2
                replace HF := HF.later hb8; replace HG := HG.later hb8; replace hM := hM.later hb8; replace hG := hG.later hb8; replace HW := below_step HW hb8
                clear hb8
                generalize wr.heap.size = bn at *
                have g0 := HF.fC
                go_wp2_with (refine wpList_load_blk HN rfl V63T _ rfl rfl und63 (by kernel_rfl) ?_)
                clear g0
                refine (hmuk.out _).mono ?_
                rintro e w10 ⟨rfl, hb⟩
                clear hmuk
                replace HK := HK.later hb; replace HT := HT.later hb; replace HN := HN.later hb
                replace HF := HF.later hb; replace HG := HG.later hb; replace hM := hM.later hb; replace hG := hG.later hb; replace HW := below_step HW hb
                clear hb
                have hs3 := hstep.out
                cases Mv
                · rw [if_neg (by rintro ⟨h1, h2⟩; cases h1)] at hs3
                  subst hs3
                  go_wp2_with fail
                  exact ⟨⟨i + 1, by omega, by rw [show ((i + 1 : Nat) : Int) - 2 = (i : Int) - 2 + 1 by omega], by rw [← Nat.add_assoc, hS2.out], by rw [← Nat.add_assoc, hS2.out]; exact HT, HK, HF, HG, hM, hG, HW⟩, by simp [intOf]; omega⟩
                · have cnx : ∀ p : Regrown, (Sort.grow (redrawn w10 p.d) p.os).cell? ⟨bn, k, none⟩ = some (.complex .f64 (fbits u) (fbits v)) := fun p => by
                    have := (HN.re p).cell (k := k) hk4
                    unfold vc4 updN at this
                    rw [if_pos rfl, if_pos rfl] at this
                    exact this
                  have c0 := fun p => (HF.re p).fC; have d0 := fun p => (HG.re p).fC
                  have c1 := fun p => (HF.re p).fR; have d1 := fun p => (HG.re p).fR
                  have c2 := fun p => (HF.re p).fYW; have d2 := fun p => (HG.re p).fYW
                  have c3 := fun p => (HF.re p).fYH; have d3 := fun p => (HG.re p).fYH
                  have c4 := fun p => (HF.re p).fYS; have d4 := fun p => (HG.re p).fYS
                  have c5 := fun p => (HF.re p).fUW; have d5 := fun p => (HG.re p).fUW
                  have c6 := fun p => (HF.re p).fUH; have d6 := fun p => (HG.re p).fUH
                  have c7 := fun p => (HF.re p).fUS; have d7 := fun p => (HG.re p).fUS
                  have c8 := fun p => (HF.re p).fVW; have d8 := fun p => (HG.re p).fVW
                  have c9 := fun p => (HF.re p).fVH; have d9 := fun p => (HG.re p).fVH
                  have c10 := fun p => (HF.re p).fVS; have d10 := fun p => (HG.re p).fVS
                  go_wp2_with fail
                  refine wp_region_quiet_below (by kernel_rfl) (by kernel_rfl) ?_
                  repeat (go_big_quiet_step ((go_at_call 56; with_reducible exact Calls.regrown_of (hawk.out _ (hM.later (below_regrown _ _ _)) (hG.later (below_regrown _ _ _))))))
                  refine wpQuiet_nil ?_
                  intro wq hwq
                  replace hwq := Cls.below hwq
                  clear cnx c0 d0 c1 d1 c2 d2 c3 d3 c4 d4 c5 d5 c6 d6 c7 d7 c8 d8 c9 d9 c10 d10
                  replace HK := HK.later hwq; replace HT := HT.later hwq; replace HN := HN.later hwq
                  replace HF := HF.later hwq; replace HG := HG.later hwq; replace hM := hM.later hwq; replace hG := hG.later hwq; replace HW := below_step HW hwq
                  clear hwq
                  clear hawk
                  obtain ⟨un, hun⟩ : ∃ un, S.n = un := ⟨_, rfl⟩
                  rw [hun] at tn0 tn1 hs3 ⊢
                  by_cases hlt : Fv < un
                  · have hdl : decide (Fv < un) = true := by simpa using hlt
                    rw [if_pos ⟨by trivial, hlt⟩] at hs3
                    have hn1 : Fv = S2.n := by rw [hs3]
                    have e1 : vc4 (updN S.X k u) (updN S.Y k v) = vc4 S2.X S2.Y := by rw [hs3]
                    rw [e1] at HN
                    replace hs3 := Lib.hid hs3; replace e1 := Lib.hid e1; replace hun := Lib.hid hun
                    replace hn1 := Lib.hid hn1
                    go_wp2_with fail
                    clear hdl
                    rw [hn1.out]
                    try simp only [Act.put, List.setIfInBounds_toArray, List.set_cons_succ, List.set_cons_zero]
                    apply wp_region_tail_below 3
                    case hm => kernel_rfl
                    case hB => kernel_rfl
                    case hno => kernel_rfl
                    case hF =>
                      simp only [List.take_succ_cons, List.take_zero]
                      repeat (first | (go_big_quiet_want; refine quiet_load_row (m := 4) HN V63T _ rfl rfl _ und63 rfl (by kernel_rfl) (by omega) _ (fcells_from _ _) ?_; go_big_quiet_on; simp only [Act.put, List.setIfInBounds_toArray, List.set_cons_succ, List.set_cons_zero]) | (go_big_quiet_step (fail)))
                      exact wpQuiet_nil rfl
                    case hT =>
                      intro w12 hb
                      simp only [List.drop_succ_cons, List.drop_zero]
                      replace HK := HK.later hb; replace HT := HT.later hb; replace HN := HN.later hb
                      replace HF := HF.later hb; replace HG := HG.later hb; replace hM := hM.later hb; replace hG := hG.later hb; replace HW := below_step HW hb
                      clear hb
                      go_wp2_with (refine wpList_store_blk_stop (g := vc4 S2.X S2.Y) HT rfl _ _ _ rfl rfl rfl (by kernel_rfl) (fun j _ => rfl) ?_)
                      intro w13 hw13
                      have hwr := wr_setRow hw13.out
                      have hx := blk_ob HT
                      have nF := Ob.neT HF hx (by decide)
                      have nG := Ob.neT HG hx (by decide)
                      have nf := hM.ne_ob hx (by decide)
                      have ng := hG.ne_ob hx (by decide)
                      clear hx
                      replace HT := blk_setRow HT hw13.out
                      replace HK := HK.wr hwr nkt; replace HF := HF.wr hwr nF; replace HG := HG.wr hwr nG
                      replace hM := hM.wr1 hwr nf; replace hG := hG.wr1 hwr ng
                      replace HW := hwr.below HW us2
                      clear hw13 hwr nF nG nf ng HN
                      go_wp2_with fail
                      exact ⟨⟨i + 1, by omega, by rw [show ((i + 1 : Nat) : Int) - 2 = (i : Int) - 2 + 1 by omega], by rw [← Nat.add_assoc, hS2.out], by rw [← Nat.add_assoc, hS2.out]; exact HT, HK, HF, HG, hM, hG, HW⟩, by simp [intOf]; omega⟩
                  · have hdl : decide (Fv < un) = false := by simpa using hlt
                    rw [if_neg (by rintro ⟨h1, h2⟩; exact hlt h2)] at hs3
                    subst hs3
                    have hun2 := Lib.hid hun
                    clear hun
                    go_wp2_with fail
                    rw [← hun2.out]
                    exact ⟨⟨i + 1, by omega, by rw [show ((i + 1 : Nat) : Int) - 2 = (i : Int) - 2 + 1 by omega], by rw [← Nat.add_assoc, hS2.out], by rw [← Nat.add_assoc, hS2.out]; exact HT, HK, HF, HG, hM, hG, HW⟩, by simp [intOf]; omega⟩
              · obtain rfl : i = 5 := by omega
                have hd : decide (((5 : Nat) : Int) - 2 ≤ 2) = false := by decide
                have e3 : j * 5 + 5 = (j + 1) * 5 := by rw [Nat.add_mul, Nat.one_mul]
                rw [e3] at HT ⊢
                replace e3 := Lib.hid e3
                go_wp2_with fail
                exact ⟨⟨j + 1, by omega, by rw [show ((j + 1 : Nat) : Int) - 2 = (j : Int) - 2 + 1 by omega], rfl, HT, HK, HF, HG, hM, hG, HW⟩, by simp [intOf]; omega⟩
          · obtain rfl : j = 5 := by omega
            have hd : decide (((5 : Nat) : Int) - 2 ≤ 2) = false := by decide
            have hte := hTe.out
            obtain ⟨tn0, tn1⟩ := hTn.out (5 * 5)
            obtain ⟨U, hU⟩ : ∃ U, T (5 * 5) = U := ⟨_, rfl⟩
            rw [hU] at HT hte tn0 tn1 ⊢
            have e1 : (P (k + 1)).n = Z + U.n := by rw [hte]
            rw [show vc4 U.X U.Y = vc4 (P (k + 1)).X (P (k + 1)).Y by rw [hte]] at HT
            clear hte
            replace e1 := Lib.hid e1; replace hU := Lib.hid hU
            generalize U.n = un at *
            go_wp2_with fail
            exact ⟨⟨k + 1, by omega, by go_num, by rw [e1.out], HT, HK, HF, HG, hM, hG, HW⟩, by simp [intOf]; omega⟩
      · obtain rfl : k = 4 := by omega
        have hd : decide (((4 : Nat) : Int) < 4) = false := by simp
        have heq := heqP.out
        go_wp2_with (first | (refine wpList_load_blk_g HK rfl V63T _ rfl rfl und63 (by kernel_rfl) ?_) | (refine wpList_load_blk_g HT rfl V63T _ rfl rfl und63 (by kernel_rfl) ?_))
        go_ret
        exact ⟨rfl, HW⟩
end Go.Proofs.Ytbldgpemocnboaa

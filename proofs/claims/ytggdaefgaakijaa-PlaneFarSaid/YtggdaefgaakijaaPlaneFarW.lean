/- The walk of the law PlaneFar: true at every input. -/
import Derived.Test.YtggdaefgaakijaaFarM
import Derived.Test.YtggdaefgaakijaaFrRe
import Derived.Deep.DeepCutAuto
namespace Go.Proofs.Ytggdaefgaakijaa
open Go.RowKit Go.Sort
attribute [local go_sem ↓] run_imax run_imin run_imax3

theorem idx_pf0 (w : World) (a b c d e f g h i : Value) : (Instr.index PL3 (.agg #[a, b, c, d, e, f, g, h, i]) (.int .u8 0)).run Try.prog w = .ok (.agg #[a, b, c]) w := by kernel_rfl
theorem idx_pf1 (w : World) (a b c d e f g h i : Value) : (Instr.index PL3 (.agg #[a, b, c, d, e, f, g, h, i]) (.int .u8 1)).run Try.prog w = .ok (.agg #[d, e, f]) w := by kernel_rfl
theorem idx_pf2 (w : World) (a b c d e f g h i : Value) : (Instr.index PL3 (.agg #[a, b, c, d, e, f, g, h, i]) (.int .u8 2)).run Try.prog w = .ok (.agg #[g, h, i]) w := by kernel_rfl
/-- One plane of a copy, by its number. -/
theorem planes_kb {f h : Fr} (hlk : h.Like f) (k : Int) : ∃ kb : Nat, (kb = 0 ∨ kb = 4 ∨ kb = 5) ∧ (kb = 0 ↔ k % 3 = 0) ∧
    ∀ w, (Instr.index PL3 (.agg h.planes) (.int .u8 (k % 3))).run Try.prog w = .ok (.agg #[.int .i64 (f.pw kb : Int), .int .i64 (f.ph kb : Int), .slice (some ⟨h.pb kb, 0, none⟩) (f.pw kb * f.ph kb) (h.pc kb)]) w := by
  obtain e | e | e : k % 3 = 0 ∨ k % 3 = 1 ∨ k % 3 = 2 := by omega
  · refine ⟨0, by omega, by omega, fun w => ?_⟩
    rw [e]; exact (idx_pf0 _ _ _ _ _ _ _ _ _ _).trans (by simp [Fr.pw, Fr.ph, Fr.pb, Fr.pc, hlk.c, hlk.r])
  · refine ⟨4, by omega, by omega, fun w => ?_⟩
    rw [e]; exact (idx_pf1 _ _ _ _ _ _ _ _ _ _).trans (by simp [Fr.pw, Fr.ph, Fr.pb, Fr.pc, hlk.c, hlk.r])
  · refine ⟨5, by omega, by omega, fun w => ?_⟩
    rw [e]; exact (idx_pf2 _ _ _ _ _ _ _ _ _ _).trans (by simp [Fr.pw, Fr.ph, Fr.pb, Fr.pc, hlk.c, hlk.r])
theorem pb_ne {f h : Fr} {B : Nat} (hF : h.From B) {w : World} (hM : f.Mem w) (hB : w.heap.size ≤ B) (k : Nat) : h.pb k ≠ f.bY ∧ h.pb k ≠ f.bU ∧ h.pb k ≠ f.bV := by
  have h1 := hF.y; have h2 := hF.u; have h3 := hF.v
  have h4 := hM.y.lt; have h5 := hM.u.lt; have h6 := hM.v.lt
  unfold Fr.pb; split
  · omega
  · split <;> omega
theorem pb_ge {h : Fr} {B : Nat} (hF : h.From B) (k : Nat) : B ≤ h.pb k := by
  have h1 := hF.y; have h2 := hF.u; have h3 := hF.v
  unfold Fr.pb; split
  · omega
  · split <;> omega

theorem w64n (n : Nat) (h : n < 9223372036854775808) : wrap64 (n : Int) = n := by unfold wrap64; omega
theorem tch_wrap (i W sz C : Nat) (hi : i ≤ 2304) (hC : C ≤ 8) :
    wrap64 (wrap64 (wrap64 ((wrap64 ((i : Int) / (W : Int))).tdiv (sz : Int)) * (C : Int)) + wrap64 (((i : Int) % (W : Int)).tdiv (sz : Int))) = ((i / W / sz * C + i % W / sz : Nat) : Int) := by
  have b1 : i / W ≤ 2304 := Nat.le_trans (Nat.div_le_self _ _) hi
  have b2 : i % W ≤ 2304 := Nat.le_trans (Nat.mod_le _ _) hi
  have b3 : i / W / sz ≤ 2304 := Nat.le_trans (Nat.div_le_self _ _) b1
  have b4 : i % W / sz ≤ 2304 := Nat.le_trans (Nat.div_le_self _ _) b2
  have b5 : i / W / sz * C ≤ 2304 * 8 := Nat.mul_le_mul b3 hC
  rw [show (i : Int) / (W : Int) = ((i / W : Nat) : Int) by simp, show (i : Int) % (W : Int) = ((i % W : Nat) : Int) by simp, w64n _ (by omega),
    Int.tdiv_eq_ediv_of_nonneg (Int.natCast_nonneg (i / W)), Int.tdiv_eq_ediv_of_nonneg (Int.natCast_nonneg (i % W)),
    show ((i / W : Nat) : Int) / (sz : Int) = ((i / W / sz : Nat) : Int) by simp, show ((i % W : Nat) : Int) / (sz : Int) = ((i % W / sz : Nat) : Int) by simp, w64n _ (by omega), w64n (i % W / sz) (by omega),
    show ((i / W / sz : Nat) : Int) * (C : Int) = ((i / W / sz * C : Nat) : Int) by simp, w64n _ (by omega),
    show ((i / W / sz * C : Nat) : Int) + ((i % W / sz : Nat) : Int) = ((i / W / sz * C + i % W / sz : Nat) : Int) by simp, w64n _ (by omega)]
/-- A sample of a macroblock's block, by At. -/
theorem mbAt_any (f g : Fr) (mb b j : Nat) (w : World) (hG : g.Mem w) (hc : g.c = f.c) :
    Calls Try.prog 31 #[.agg #[.int .i64 (g.pw b : Int), .int .i64 (g.ph b : Int), .slice (some ⟨g.pb b, 0, none⟩) (g.pw b * g.ph b) (g.pc b)], .int .i64 (f.px mb b + (j : Int) % 8), .int .i64 (f.py mb b + (j : Int) / 8)] w
      fun e w' => e = .returned (.int .u8 (mbF g mb b j)) ∧ Below w.heap.size w w' := by
  have h1 := hG.plb b
  have h := at_any (g.pw b) (g.ph b) (g.pb b) (g.pc b) (g.ps b) (f.px mb b + (j : Int) % 8) (f.py mb b + (j : Int) / 8) w (by omega) (by omega) (hG.pl b)
  have e : plAt (g.pw b) (g.ph b) (g.ps b) (f.px mb b + (j : Int) % 8) (f.py mb b + (j : Int) / 8) = mbF g mb b j := by
    unfold mbF blockF Fr.px Fr.py; rw [hc]; simp
  rw [e] at h; exact h
def CloS (f : Fr) (v : Value) (W : World) : Prop := ∃ g : Fr, v = g.val ∧ g.Like f ∧ g.Mem W
theorem CloS.later {f : Fr} {v : Value} {W W' : World} (h : CloS f v W) (hb : Below W.heap.size W W') : CloS f v W' := by
  obtain ⟨g, h1, h2, h3⟩ := h; exact ⟨g, h1, h2, h3.later hb⟩

set_option maxRecDepth 1000000 in
set_option maxHeartbeats 16000000 in
theorem planeFar_walk (co ro ki a b c sd : Int) (p : Option Addr) (n m : Nat) (sl : Nat → Int) (co' ro' ki' a' b' c' sd' : Int) (p' : Option Addr) (n' m' : Nat) (sl' : Nat → Int) (wh k by_ : Int) (w : World)
    (hw : SmallW co ro ki a b c sd n sl) (hn : n ≤ maxLen) (hS : SL w p n (u8v sl)) (hw' : SmallW co' ro' ki' a' b' c' sd' n' sl') (hn' : n' ≤ maxLen) (hS' : SL w p' n' (u8v sl'))
    (hwh : 0 ≤ wh ∧ wh ≤ 65535) (hk : 0 ≤ k ∧ k ≤ 255) (hby : 0 ≤ by_ ∧ by_ ≤ 255) :
    Calls Try.prog 13 #[smV co ro ki a b c sd p n m, smV co' ro' ki' a' b' c' sd' p' n' m', .int .u16 wh, .int .u8 k, .int .u8 by_] w fun e w' => e = .returned (.bool true) ∧ Below w.heap.size w w' := by
  replace hw := Lib.hid hw; replace hS := Lib.hid hS; replace hw' := Lib.hid hw'; replace hS' := Lib.hid hS'
  unfold smV
  go_enter Try.func13, Try.ntmps13
  go_wp2_with fail
  have HB : Ob ((w.alloc (.cells (smC co ro ki a b c sd p n m) SMT)).alloc (.cells (smC co' ro' ki' a' b' c' sd' p' n' m') SMT)) w.heap.size SMT (smC co ro ki a b c sd p n m) := (Ob.new_at _ _ rfl).alloc _
  have HT : Ob ((w.alloc (.cells (smC co ro ki a b c sd p n m) SMT)).alloc (.cells (smC co' ro' ki' a' b' c' sd' p' n' m') SMT)) (w.heap.size + 1) SMT (smC co' ro' ki' a' b' c' sd' p' n' m') := Ob.new_at _ _ (by simp)
  have HW : Below w.heap.size w ((w.alloc (.cells (smC co ro ki a b c sd p n m) SMT)).alloc (.cells (smC co' ro' ki' a' b' c' sd' p' n' m') SMT)) := by ((repeat (first | exact Below.refl _ _ | assumption | refine Below.setCell ?_ (by first | omega | (simp; done) | (simp; omega)) _ | refine Below.alloc ?_ (by first | omega | (simp; done) | (simp; omega)) _ | refine below_drewN ?_ _ | refine Below.drew ?_ | refine below_setRow ?_ (by first | omega | (simp; done) | (simp; omega)) _)))
  unfold smC at *
  generalize (w.alloc (.cells #[.int .u8 co, .int .u8 ro, .int .u8 ki, .int .u8 a, .int .u8 b, .int .u8 c, .int .u32 sd, .slice p n m] SMT)).alloc (.cells #[.int .u8 co', .int .u8 ro', .int .u8 ki', .int .u8 a', .int .u8 b', .int .u8 c', .int .u32 sd', .slice p' n' m'] SMT) = w0 at *
  refine (awake6 _).mono ?_
  rintro e w1 ⟨rfl, hb⟩
  replace HB := HB.later hb; replace HT := HT.later hb; replace HW := below_step HW hb
  clear hb
  go_wp2_with (refine wpList_load_ob_g HB rfl _ _ rfl rfl Try.underlying54 (by kernel_rfl) ?_)
  refine (light_any co ro ki a b c sd p n m _ hn).mono ?_
  rintro e w2 ⟨rfl, hb⟩
  replace HB := HB.later hb; replace HT := HT.later hb; replace HW := below_step HW hb
  clear hb
  by_cases hn2 : n ≤ 2000
  case neg =>
    have hd : decide (n ≤ 2000) = false := by simpa using hn2
    go_wp2_with fail
    go_ret
    exact ⟨rfl, HW⟩
  have hd : decide (n ≤ 2000) = true := by simpa using hn2
  go_wp2_with (refine wpList_load_ob_g HT rfl _ _ rfl rfl Try.underlying54 (by kernel_rfl) ?_)
  refine (light_any co' ro' ki' a' b' c' sd' p' n' m' _ hn').mono ?_
  rintro e w3 ⟨rfl, hb⟩
  replace HB := HB.later hb; replace HT := HT.later hb; replace HW := below_step HW hb
  clear hb
  by_cases hn3 : n' ≤ 2000
  case neg =>
    have hd2 : decide (n' ≤ 2000) = false := by simpa using hn3
    go_wp2_with fail
    go_ret
    exact ⟨rfl, HW⟩
  have hd2 : decide (n' ≤ 2000) = true := by simpa using hn3
  go_wp2_with (refine wpList_load_ob_g HB rfl _ _ rfl rfl Try.underlying54 (by kernel_rfl) ?_)
  clear hd hd2
  refine (smallW_any hw.out hn2 (sl_later hS.out HW)).mono ?_
  rintro e w4 ⟨f, rfl, f1, f2, f3, f4, hM, -, hb⟩
  replace HT := HT.later hb; replace HW := below_step HW hb
  clear hb
  clear HB
  have hc8 := hM.hc; have hr8 := hM.hr
  unfold Fr.val
  go_wp2_with (refine wpList_store_stop (Ob.new_at (w := w4) FRT frZ rfl) rfl _ _ _ rfl rfl f.cells rfl (by kernel_rfl) rfl rfl ?_)
  intro w5 hw5
  have HF := cell_ob hw5.out
  replace HT := cell_keep hw5.out HT
  replace hM := cell_mem hw5.out hM
  replace HW := cell_below hw5.out HW HW.size
  clear hw5
  generalize w4.heap.size = q at *
  have g0 := HF.fC; have g1 := HF.fR
  go_wp2_with (refine wpList_load_ob HT rfl _ _ rfl rfl Try.underlying54 (by kernel_rfl) ?_)
  clear g0 g1
  refine (sized_any co' ro' ki' a' b' c' sd' p' n' m' sl' f.c f.r _ hw'.out.ki hw'.out.a hw'.out.b hw'.out.c hw'.out.sd hn3 (sl_later hS'.out HW) hw'.out.sl (by omega) (by omega)).mono ?_
  rintro e w6 ⟨g, rfl, e1, e2, hG, -, hb⟩
  replace HF := HF.later hb; replace hM := hM.later hb; replace HW := below_step HW hb
  clear hb
  clear HT
  unfold Fr.val
  go_wp2_with (refine wpList_store_stop (Ob.new_at (w := w6) FRT frZ rfl) rfl _ _ _ rfl rfl g.cells rfl (by kernel_rfl) rfl rfl ?_)
  intro w7 hw7
  have HG := cell_ob hw7.out
  replace HF := cell_keep hw7.out HF
  replace hM := cell_mem hw7.out hM; replace hG := cell_mem hw7.out hG
  replace HW := cell_below hw7.out HW HW.size
  clear hw7
  generalize w6.heap.size = z at *
  go_wp2_with (refine wpList_load_ob HF rfl _ _ rfl rfl Try.underlying58 (by kernel_rfl) ?_)
  refine (clone_any f _ hM).mono ?_
  rintro e w8 ⟨h, rfl, hlk, hH, hhF, hb⟩
  obtain ⟨kb, hkb, hk0, hidx⟩ := planes_kb hlk k
  have hk6 : kb < 6 := by omega
  obtain ⟨u1, u2, u3⟩ := pb_ne hhF hM (Nat.le_refl _) kb
  obtain ⟨v1, v2, v3⟩ := pb_ne hhF hG (Nat.le_refl _) kb
  have ug := pb_ge hhF kb
  have uq := HF.lt; have uz := HG.lt; have us := HW.size
  have uB : h.pb kb < w8.heap.size := (hH.pl kb).lt
  replace HF := HF.later hb; replace HG := HG.later hb; replace hM := hM.later hb; replace hG := hG.later hb; replace HW := below_step HW hb
  clear hb
  have u4 : q ≠ h.pb kb := by omega
  have u5 : z ≠ h.pb kb := by omega
  have u6 : w.heap.size ≤ h.pb kb := by omega
  clear ug uq uz us hhF
  have hps : h.ps kb = f.ps kb := by unfold Fr.ps; rw [hlk.y, hlk.u, hlk.v]
  have hwd : 0 < f.pw kb ∧ f.pw kb ≤ 48 ∧ 0 < f.ph kb ∧ f.ph kb ≤ 48 := by unfold Fr.pw Fr.ph; split <;> omega
  obtain ⟨x1, x2, x3, x4⟩ := hwd
  have hn0 : 0 < f.pw kb * f.ph kb := Nat.mul_pos x1 x3
  have hn1 : f.pw kb * f.ph kb ≤ 48 * 48 := Nat.mul_le_mul x2 x4
  have hn2 : (0 : Int) < (f.pw kb : Int) * (f.ph kb : Int) ∧ (f.pw kb : Int) * (f.ph kb : Int) ≤ 2304 := by
    rw [show (f.pw kb : Int) * (f.ph kb : Int) = ((f.pw kb * f.ph kb : Nat) : Int) by simp]; omega
  obtain ⟨hn3, hn4⟩ := hn2
  have hz0 : ((f.pw kb : Int) * (f.ph kb : Int) == 0) = false := by simp; omega
  obtain ⟨i, hi1, hi2⟩ : ∃ i : Nat, wh.tmod ((f.pw kb : Int) * (f.ph kb : Int)) = (i : Int) ∧ i < f.pw kb * f.ph kb := by
    have e1 := Int.tmod_nonneg ((f.pw kb : Int) * (f.ph kb : Int)) hwh.1
    have e2 := Int.tmod_lt_of_pos wh hn3
    refine ⟨(wh.tmod ((f.pw kb : Int) * (f.ph kb : Int))).toNat, by omega, ?_⟩
    have : ((f.pw kb * f.ph kb : Nat) : Int) = (f.pw kb : Int) * (f.ph kb : Int) := by simp
    omega
  have hlkh := Lib.hid hlk
  have hk0h := Lib.hid hk0; have hkbh := Lib.hid hkb; have hpsh := Lib.hid hps; have hi1h := Lib.hid hi1; have hidxh := Lib.hid hidx
  clear hlk hk0 hkb hps hi1 hidx
  unfold Fr.val
  go_wp2_with (refine wpList_store_stop (Ob.new_at (w := w8) FRT frZ rfl) rfl _ _ _ rfl rfl h.cells rfl (by kernel_rfl) rfl rfl ?_)
  intro w9 hw9
  have HH := cell_ob hw9.out
  replace HF := cell_keep hw9.out HF; replace HG := cell_keep hw9.out HG
  replace hM := cell_mem hw9.out hM; replace hG := cell_mem hw9.out hG; replace hH := cell_mem hw9.out hH
  replace HW := cell_below hw9.out HW HW.size
  clear hw9
  generalize w8.heap.size = y at *
  go_wp2_with (refine wpList_load_ob HH rfl _ _ rfl rfl Try.underlying58 (by kernel_rfl) ?_)
  refine (planes_any h _).mono ?_
  rintro e w10 ⟨rfl, hb⟩
  replace HF := HF.later hb; replace HG := HG.later hb; replace HH := HH.later hb; replace hM := hM.later hb; replace hG := hG.later hb; replace hH := hH.later hb; replace HW := below_step HW hb
  clear hb
  have hi1 := hi1h.out
  have HP : Ob (w10.alloc (.cells #[.int .i64 (f.pw kb : Int), .int .i64 (f.ph kb : Int), .slice (some ⟨h.pb kb, 0, none⟩) (f.pw kb * f.ph kb) (h.pc kb)] PLT)) w10.heap.size PLT #[.int .i64 (f.pw kb : Int), .int .i64 (f.ph kb : Int), .slice (some ⟨h.pb kb, 0, none⟩) (f.pw kb * f.ph kb) (h.pc kb)] := Ob.new_at _ _ rfl
  have uP : w10.heap.size ≠ h.pb kb := by have := (hH.pl kb).lt; omega
  replace HF := HF.alloc (.cells #[.int .i64 (f.pw kb : Int), .int .i64 (f.ph kb : Int), .slice (some ⟨h.pb kb, 0, none⟩) (f.pw kb * f.ph kb) (h.pc kb)] PLT); replace HG := HG.alloc (.cells #[.int .i64 (f.pw kb : Int), .int .i64 (f.ph kb : Int), .slice (some ⟨h.pb kb, 0, none⟩) (f.pw kb * f.ph kb) (h.pc kb)] PLT); replace HH := HH.alloc (.cells #[.int .i64 (f.pw kb : Int), .int .i64 (f.ph kb : Int), .slice (some ⟨h.pb kb, 0, none⟩) (f.pw kb * f.ph kb) (h.pc kb)] PLT); replace hM := hM.alloc (.cells #[.int .i64 (f.pw kb : Int), .int .i64 (f.ph kb : Int), .slice (some ⟨h.pb kb, 0, none⟩) (f.pw kb * f.ph kb) (h.pc kb)] PLT); replace hG := hG.alloc (.cells #[.int .i64 (f.pw kb : Int), .int .i64 (f.ph kb : Int), .slice (some ⟨h.pb kb, 0, none⟩) (f.pw kb * f.ph kb) (h.pc kb)] PLT); replace hH := hH.alloc (.cells #[.int .i64 (f.pw kb : Int), .int .i64 (f.ph kb : Int), .slice (some ⟨h.pb kb, 0, none⟩) (f.pw kb * f.ph kb) (h.pc kb)] PLT); replace HW := HW.alloc HW.size (.cells #[.int .i64 (f.pw kb : Int), .int .i64 (f.ph kb : Int), .slice (some ⟨h.pb kb, 0, none⟩) (f.pw kb * f.ph kb) (h.pc kb)] PLT)
  have cs := (hH.pl kb).cell (k := i) (by have := hlkh.out; rw [show h.pw kb = f.pw kb by unfold Fr.pw; rw [this.c], show h.ph kb = f.ph kb by unfold Fr.ph; rw [this.r]]; exact hi2)
  have hsb := (hM.pl kb).bd hi2
  rw [hpsh.out] at cs
  have cz := (hH.pl kb).free i
  obtain ⟨v, hv, hvb, hvs⟩ := xor_u8 (f.ps kb i) by_ hsb hby
  replace hvs := Lib.hid hvs
  generalize hs0 : f.ps kb i = s0 at *
  replace hs0 := Lib.hid hs0
  have hidx := hidxh.out
  clear hidxh
  go_upto_if 71 with fail
  generalize w10.alloc (.cells #[.int .i64 (f.pw kb : Int), .int .i64 (f.ph kb : Int), .slice (some ⟨h.pb kb, 0, none⟩) (f.pw kb * f.ph kb) (h.pc kb)] PLT) = w11 at *
  obtain ⟨sz, hsz⟩ : ∃ sz : Nat, sz = if kb < 4 then 16 else 8 := ⟨_, rfl⟩
  have hszb : sz = 16 ∧ kb = 0 ∨ sz = 8 ∧ kb ≠ 0 := by have := hkbh.out; split at hsz <;> omega
  replace hsz := Lib.hid hsz
  replace hH := hH.upd hk6 i v hvb
  replace HF := HF.other (Ne.symm u4) i (.int .u8 v); replace HG := HG.other (Ne.symm u5) i (.int .u8 v); replace HH := HH.other (c := h.pb kb) (by omega) i (.int .u8 v)
  replace HP := HP.other (Ne.symm uP) i (.int .u8 v)
  replace hM := hM.other u1 u2 u3 i (.int .u8 v); replace hG := hG.other v1 v2 v3 i (.int .u8 v)
  replace HW := HW.setCell (p := ⟨h.pb kb, i, none⟩) u6 (.int .u8 v)
  generalize w11.setCell ⟨h.pb kb, i, none⟩ (.int .u8 v) = w12 at *
  have uy := HH.lt
  replace HH : Ob w12 y FRT (h.upd kb i v).cells := HH
  clear cs cz hidx hv hi1 hsb u1 u2 u3 v1 v2 v3 u4 u5 u6 uP uB uy
  go_cut [16] (fun s wx => s = .int .i64 (sz : Int) ∧ wx = w12)
  case first =>
    have hk0 := hk0h.out
    by_cases e : k % 3 = 0
    · have d : decide (0 < k % 3) = false := by simp; omega
      have e3 : sz = 16 := by omega
      clear hk0
      go_wp2_with fail
      go_meet
      exact ⟨by rw [e3]; rfl, rfl⟩
    · have d : decide (0 < k % 3) = true := by simp; omega
      have e3 : sz = 8 := by omega
      clear hk0
      go_wp2_with fail
      go_meet
      exact ⟨by rw [e3]; rfl, rfl⟩
  case rest =>
    obtain ⟨rfl, rfl⟩ := hcut
    have c0 := fun p => (HF.re p).fC
    have c1 : ∀ p : Regrown, (Sort.grow (redrawn wc p.d) p.os).cell? ⟨w10.heap.size, 0, none⟩ = some (.int .i64 (f.pw kb : Int)) := fun p => (HP.re p).plW
    have i0 : (0 : Int) ≤ (i : Int) := by omega
    have i1 : (i : Int) ≤ 2304 := by omega
    have s0 : (0 : Int) < (sz : Int) := by omega
    go_wp2_with fail
    refine wp_region_quiet_below (by kernel_rfl) (by kernel_rfl) ?_
    repeat (go_big_quiet_step (fail))
    refine wpQuiet_nil ?_
    intro wq hwq
    replace hwq := Cls.below hwq
    replace HF := HF.later hwq; replace HG := HG.later hwq; replace HH := HH.later hwq; replace hM := hM.later hwq; replace hG := hG.later hwq; replace hH := hH.later hwq; replace HW := below_step HW hwq
    clear hwq
    clear c0 c1
    rw [tch_wrap i (f.pw kb) sz f.c (by omega) (by omega)]
    have htc := Lib.hid (show i / f.pw kb / sz * f.c + i % f.pw kb / sz = f.tch kb i sz from rfl)
    generalize i / f.pw kb / sz * f.c + i % f.pw kb / sz = tc at *
    have g0 := HF.fC; have g1 := HF.fR
    have q3 : (0 : Int) < (f.c : Int) * (f.r : Int) ∧ (f.c : Int) * (f.r : Int) ≤ 9 := by
      have h9 : 1 ≤ f.c * f.r ∧ f.c * f.r ≤ 9 := ⟨Nat.mul_pos (by omega) (by omega), Nat.mul_le_mul f2 f4⟩
      rw [show (f.c : Int) * (f.r : Int) = ((f.c * f.r : Nat) : Int) by simp]; omega
    obtain ⟨q3, q4⟩ := q3
    have hg1 : 0 < g.c := by omega
    have hi2h := Lib.hid hi2
    clear hi2 hi1h i0 i1 s0 hszb hk0h hn0 hn1 hn3 hn4 hz0 x1 x2 x3 x4 HP
    go_wp2_with fail
    clear g0 g1
    have hbb := Lib.hid (fun hb0 : by_ = 0 => hb0)
    go_loopw [93] (fun t wr => ∃ mb : Nat, mb ≤ f.c * f.r ∧ t = .int .i64 (mb : Int) ∧ Ob wr q FRT f.cells ∧ Ob wr z FRT g.cells ∧ Ob wr y FRT (h.upd kb i v).cells ∧ f.Mem wr ∧ g.Mem wr ∧ (h.upd kb i v).Mem wr ∧ Below w.heap.size w wr) (fun t _ => f.c * f.r - (intOf t).toNat)
    case atStart => exact ⟨0, by omega, rfl, HF, HG, HH, hM, hG, hH, HW⟩
    case round =>
      clear HF HG HH hM hG hH HW
      obtain ⟨mb, hmb, rfl, HF, HG, HH, hM, hG, hH, HW⟩ := hrel
      by_cases hlt : mb < f.c * f.r
      · have hd : decide ((mb : Int) < (f.c : Int) * (f.r : Int)) = true := by
          exact decide_eq_true (by rw [← Int.natCast_mul]; exact Int.ofNat_lt.2 hlt)
        have hm9 : mb ≤ 9 := by
          have := Nat.mul_le_mul f2 f4; omega
        go_wp2_with fail
        clear hd
        go_loopw [19, 96] (fun s t wr => ∃ bk : Nat, bk ≤ 6 ∧ t = .int .i64 (bk : Int) ∧ s = .int .i64 (farK f g mb bk) ∧ Ob wr q FRT f.cells ∧ Ob wr z FRT g.cells ∧ Ob wr y FRT (h.upd kb i v).cells ∧ f.Mem wr ∧ g.Mem wr ∧ (h.upd kb i v).Mem wr ∧ Below w.heap.size w wr) (fun _ t _ => 6 - (intOf t).toNat)
        case atStart => exact ⟨0, by omega, rfl, rfl, HF, HG, HH, hM, hG, hH, HW⟩
        case round =>
          clear HF HG HH hM hG hH HW
          obtain ⟨bk, hbk, rfl, rfl, HF, HG, HH, hM, hG, hH, HW⟩ := hrel
          have hbd := farK_bd hM hG mb bk
          have hst := Lib.hid (show farK f g mb (bk + 1) = farIn (mbF f mb bk) (mbF g mb bk) (farK f g mb bk) 64 from rfl)
          by_cases hk6 : bk < 6
          · generalize hS : farK f g mb bk = S at *
            replace hS := Lib.hid hS
            have hd : decide ((bk : Int) < 6) = true := by simp; omega
            have i1 : (0 : Int) ≤ bk := by omega
            have hpb := Lib.hid (mbF_bd hM mb bk)
            have hqb := Lib.hid (mbF_bd hG mb bk)
            obtain ⟨r1, r2, r3, r4⟩ := f.pxy_bd (mb := mb) (by omega) hk6
            go_wp2_with (refine wpList_load_ob HF rfl _ _ rfl rfl Try.underlying58 (by kernel_rfl) ?_)
            refine (frBlock_any f mb bk _ (by omega) hc8 (by omega) hk6).mono ?_
            rintro e w3 ⟨rfl, hb⟩
            replace HF := HF.later hb; replace HG := HG.later hb; replace HH := HH.later hb; replace hM := hM.later hb; replace hG := hG.later hb; replace hH := hH.later hb; replace HW := below_step HW hb
            clear hb
            unfold Fr.blkV
            go_wp2_with (refine wpList_load_ob (HG.alloc _) rfl _ _ rfl rfl Try.underlying58 (by kernel_rfl) ?_)
            have HP : Ob (w3.alloc (.cells #[.int .i64 (f.pw bk : Int), .int .i64 (f.ph bk : Int), .slice (some ⟨f.pb bk, 0, none⟩) (f.pw bk * f.ph bk) (f.pc bk)] PLT)) w3.heap.size PLT #[.int .i64 (f.pw bk : Int), .int .i64 (f.ph bk : Int), .slice (some ⟨f.pb bk, 0, none⟩) (f.pw bk * f.ph bk) (f.pc bk)] := Ob.new_at _ _ rfl
            replace HF := HF.alloc (.cells #[.int .i64 (f.pw bk : Int), .int .i64 (f.ph bk : Int), .slice (some ⟨f.pb bk, 0, none⟩) (f.pw bk * f.ph bk) (f.pc bk)] PLT); replace HG := HG.alloc (.cells #[.int .i64 (f.pw bk : Int), .int .i64 (f.ph bk : Int), .slice (some ⟨f.pb bk, 0, none⟩) (f.pw bk * f.ph bk) (f.pc bk)] PLT); replace HH := HH.alloc (.cells #[.int .i64 (f.pw bk : Int), .int .i64 (f.ph bk : Int), .slice (some ⟨f.pb bk, 0, none⟩) (f.pw bk * f.ph bk) (f.pc bk)] PLT); replace hM := hM.alloc (.cells #[.int .i64 (f.pw bk : Int), .int .i64 (f.ph bk : Int), .slice (some ⟨f.pb bk, 0, none⟩) (f.pw bk * f.ph bk) (f.pc bk)] PLT); replace hG := hG.alloc (.cells #[.int .i64 (f.pw bk : Int), .int .i64 (f.ph bk : Int), .slice (some ⟨f.pb bk, 0, none⟩) (f.pw bk * f.ph bk) (f.pc bk)] PLT); replace hH := hH.alloc (.cells #[.int .i64 (f.pw bk : Int), .int .i64 (f.ph bk : Int), .slice (some ⟨f.pb bk, 0, none⟩) (f.pw bk * f.ph bk) (f.pc bk)] PLT); replace HW := HW.alloc HW.size (.cells #[.int .i64 (f.pw bk : Int), .int .i64 (f.ph bk : Int), .slice (some ⟨f.pb bk, 0, none⟩) (f.pw bk * f.ph bk) (f.pc bk)] PLT)
            generalize w3.alloc (.cells #[.int .i64 (f.pw bk : Int), .int .i64 (f.ph bk : Int), .slice (some ⟨f.pb bk, 0, none⟩) (f.pw bk * f.ph bk) (f.pc bk)] PLT) = w4 at *
            generalize w3.heap.size = p1 at *
            refine (frBlock_any g mb bk _ hg1 hG.hc (by omega) hk6).mono ?_
            rintro e w5 ⟨rfl, hb⟩
            replace HP := HP.later hb; replace HF := HF.later hb; replace HG := HG.later hb; replace HH := HH.later hb; replace hM := hM.later hb; replace hG := hG.later hb; replace hH := hH.later hb; replace HW := below_step HW hb
            clear hb
            unfold Fr.blkV
            go_wp2_with fail
            have HQ : Ob (w5.alloc (.cells #[.int .i64 (g.pw bk : Int), .int .i64 (g.ph bk : Int), .slice (some ⟨g.pb bk, 0, none⟩) (g.pw bk * g.ph bk) (g.pc bk)] PLT)) w5.heap.size PLT #[.int .i64 (g.pw bk : Int), .int .i64 (g.ph bk : Int), .slice (some ⟨g.pb bk, 0, none⟩) (g.pw bk * g.ph bk) (g.pc bk)] := Ob.new_at _ _ rfl
            replace HP := HP.alloc (.cells #[.int .i64 (g.pw bk : Int), .int .i64 (g.ph bk : Int), .slice (some ⟨g.pb bk, 0, none⟩) (g.pw bk * g.ph bk) (g.pc bk)] PLT); replace HF := HF.alloc (.cells #[.int .i64 (g.pw bk : Int), .int .i64 (g.ph bk : Int), .slice (some ⟨g.pb bk, 0, none⟩) (g.pw bk * g.ph bk) (g.pc bk)] PLT); replace HG := HG.alloc (.cells #[.int .i64 (g.pw bk : Int), .int .i64 (g.ph bk : Int), .slice (some ⟨g.pb bk, 0, none⟩) (g.pw bk * g.ph bk) (g.pc bk)] PLT); replace HH := HH.alloc (.cells #[.int .i64 (g.pw bk : Int), .int .i64 (g.ph bk : Int), .slice (some ⟨g.pb bk, 0, none⟩) (g.pw bk * g.ph bk) (g.pc bk)] PLT); replace hM := hM.alloc (.cells #[.int .i64 (g.pw bk : Int), .int .i64 (g.ph bk : Int), .slice (some ⟨g.pb bk, 0, none⟩) (g.pw bk * g.ph bk) (g.pc bk)] PLT); replace hG := hG.alloc (.cells #[.int .i64 (g.pw bk : Int), .int .i64 (g.ph bk : Int), .slice (some ⟨g.pb bk, 0, none⟩) (g.pw bk * g.ph bk) (g.pc bk)] PLT); replace hH := hH.alloc (.cells #[.int .i64 (g.pw bk : Int), .int .i64 (g.ph bk : Int), .slice (some ⟨g.pb bk, 0, none⟩) (g.pw bk * g.ph bk) (g.pc bk)] PLT); replace HW := HW.alloc HW.size (.cells #[.int .i64 (g.pw bk : Int), .int .i64 (g.ph bk : Int), .slice (some ⟨g.pb bk, 0, none⟩) (g.pw bk * g.ph bk) (g.pc bk)] PLT)
            generalize w5.alloc (.cells #[.int .i64 (g.pw bk : Int), .int .i64 (g.ph bk : Int), .slice (some ⟨g.pb bk, 0, none⟩) (g.pw bk * g.ph bk) (g.pc bk)] PLT) = w6 at *
            generalize w5.heap.size = p2 at *
            go_loopw [19, 115] (fun s t wr => ∃ j : Nat, j ≤ 64 ∧ t = .int .i64 (j : Int) ∧ s = .int .i64 (farIn (mbF f mb bk) (mbF g mb bk) S j) ∧ Ob wr p1 PLT #[.int .i64 (f.pw bk : Int), .int .i64 (f.ph bk : Int), .slice (some ⟨f.pb bk, 0, none⟩) (f.pw bk * f.ph bk) (f.pc bk)] ∧ Ob wr p2 PLT #[.int .i64 (g.pw bk : Int), .int .i64 (g.ph bk : Int), .slice (some ⟨g.pb bk, 0, none⟩) (g.pw bk * g.ph bk) (g.pc bk)] ∧ Ob wr q FRT f.cells ∧ Ob wr z FRT g.cells ∧ Ob wr y FRT (h.upd kb i v).cells ∧ f.Mem wr ∧ g.Mem wr ∧ (h.upd kb i v).Mem wr ∧ Below w.heap.size w wr) (fun _ t _ => 64 - (intOf t).toNat)
            case atStart => exact ⟨0, by omega, rfl, rfl, HP, HQ, HF, HG, HH, hM, hG, hH, HW⟩
            case round =>
              clear HP HQ HF HG HH hM hG hH HW
              obtain ⟨j, hj, rfl, rfl, HP, HQ, HF, HG, HH, hM, hG, hH, HW⟩ := hrel
              have fb := farIn_bd hbd hpb.out hqb.out j
              have hst2 := Lib.hid (show farIn (mbF f mb bk) (mbF g mb bk) S (j + 1) = imax (imax (farIn (mbF f mb bk) (mbF g mb bk) S j) (mbF f mb bk j - mbF g mb bk j)) (mbF g mb bk j - mbF f mb bk j) from rfl)
              by_cases hj8 : j < 64
              · generalize hS2 : farIn (mbF f mb bk) (mbF g mb bk) S j = S2 at *
                replace hS2 := Lib.hid hS2
                have hd : decide ((j : Int) < 64) = true := by simp; omega
                have i2 : (0 : Int) ≤ j := by omega
                have i3 : (j : Int) < 64 := by omega
                have pb := hpb.out j
                have qb := hqb.out j
                go_wp2_with fail
                have c0 : ∀ p' : Regrown, (Sort.grow (redrawn wr p'.d) p'.os).cell? ⟨p1, 0, none⟩ = some (.int .i64 (f.pw bk : Int)) := fun p' => (HP.re p').plW
                have c1 : ∀ p' : Regrown, (Sort.grow (redrawn wr p'.d) p'.os).cell? ⟨p1, 1, none⟩ = some (.int .i64 (f.ph bk : Int)) := fun p' => (HP.re p').plH
                have c2 : ∀ p' : Regrown, (Sort.grow (redrawn wr p'.d) p'.os).cell? ⟨p1, 2, none⟩ = some (.slice (some ⟨f.pb bk, 0, none⟩) (f.pw bk * f.ph bk) (f.pc bk)) := fun p' => (HP.re p').plS
                have c3 : ∀ p' : Regrown, (Sort.grow (redrawn wr p'.d) p'.os).cell? ⟨p2, 0, none⟩ = some (.int .i64 (g.pw bk : Int)) := fun p' => (HQ.re p').plW
                have c4 : ∀ p' : Regrown, (Sort.grow (redrawn wr p'.d) p'.os).cell? ⟨p2, 1, none⟩ = some (.int .i64 (g.ph bk : Int)) := fun p' => (HQ.re p').plH
                have c5 : ∀ p' : Regrown, (Sort.grow (redrawn wr p'.d) p'.os).cell? ⟨p2, 2, none⟩ = some (.slice (some ⟨g.pb bk, 0, none⟩) (g.pw bk * g.ph bk) (g.pc bk)) := fun p' => (HQ.re p').plS
                refine wp_region_quiet_below (by kernel_rfl) (by kernel_rfl) ?_
                repeat (go_big_quiet_step (first | (go_at_call 31; with_reducible exact Calls.regrown_of (mbAt_any f f mb bk j _ (hM.later (below_regrown _ _ _)) rfl)) | (go_at_call 31; with_reducible exact Calls.regrown_of (mbAt_any f g mb bk j _ (hG.later (below_regrown _ _ _)) e1))))
                refine wpQuiet_nil ?_
                intro wq hwq
                replace hwq := Cls.below hwq
                replace HP := HP.later hwq; replace HQ := HQ.later hwq; replace HF := HF.later hwq; replace HG := HG.later hwq; replace HH := HH.later hwq; replace hM := hM.later hwq; replace hG := hG.later hwq; replace hH := hH.later hwq; replace HW := below_step HW hwq
                clear hwq
                clear c0 c1 c2 c3 c4 c5
                generalize mbF f mb bk j = P at *
                generalize mbF g mb bk j = Q at *
                go_wp2_with fail
                exact ⟨⟨j + 1, by omega, by go_num, by rw [hst2.out], HP, HQ, HF, HG, HH, hM, hG, hH, HW⟩, by simp [intOf]; omega⟩
              · obtain rfl : j = 64 := by omega
                rw [← hst.out]
                go_wp2_with fail
                exact ⟨⟨bk + 1, by omega, by go_num, rfl, HF, HG, HH, hM, hG, hH, HW⟩, by simp [intOf]; omega⟩
          · obtain rfl : bk = 6 := by omega
            clear hst
            have hsame := Lib.hid (far_same f g mb)
            have hi9 := hi2h.out
            have hsu : ∀ B, ((by_ == 0) || decide (mb ≠ tc)) = B → sameAtB f (h.upd kb i v) mb = B := by
              intro B hB
              rw [← hB, htc.out]
              exact sameAt_upd hlkh.out (by omega) hkbh.out hsz.out hi9 hlt _ (by rw [hs0.out]; exact hvs.out)
            replace hsu := Lib.hid hsu
            have hcases : (by_ = 0) ∨ (¬ by_ = 0 ∧ mb = tc) ∨ (¬ by_ = 0 ∧ mb ≠ tc) := by omega
            rcases hcases with hb0 | ⟨hb0, hmt⟩ | ⟨hb0, hmt⟩
            · have b1 : (by_ == 0) = true := by simpa using hb0
              have hs2 := Lib.hid (hsu.out true (by rw [b1]; rfl))
              replace hb0 := Lib.hid hb0
              go_wp2_with (first | (refine wpList_load_ob_g HF rfl _ _ rfl rfl Try.underlying58 (by kernel_rfl) ?_) | (refine wpList_load_ob_g HG rfl _ _ rfl rfl Try.underlying58 (by kernel_rfl) ?_) | (refine wpList_load_ob_g HH rfl _ _ rfl rfl Try.underlying58 (by kernel_rfl) ?_))
              refine (far_of f g mb _ hM hG (by omega) hg1 (by omega)).mono ?_
              rintro e w3 ⟨rfl, hb⟩
              replace HF := HF.later hb; replace HG := HG.later hb; replace HH := HH.later hb; replace hM := hM.later hb; replace hG := hG.later hb; replace hH := hH.later hb; replace HW := below_step HW hb
              clear hb
              go_wp2_with (first | (refine wpList_load_ob_g HF rfl _ _ rfl rfl Try.underlying58 (by kernel_rfl) ?_) | (refine wpList_load_ob_g HG rfl _ _ rfl rfl Try.underlying58 (by kernel_rfl) ?_) | (refine wpList_load_ob_g HH rfl _ _ rfl rfl Try.underlying58 (by kernel_rfl) ?_))
              refine (sameAt_any f g mb _ hM hG (by omega) hg1 (by omega)).mono ?_
              rw [hsame.out]
              rintro e w4 ⟨rfl, hb⟩
              replace HF := HF.later hb; replace HG := HG.later hb; replace HH := HH.later hb; replace hM := hM.later hb; replace hG := hG.later hb; replace hH := hH.later hb; replace HW := below_step HW hb
              clear hb
              go_wp2_with (first | (refine wpList_load_ob_g HF rfl _ _ rfl rfl Try.underlying58 (by kernel_rfl) ?_) | (refine wpList_load_ob_g HG rfl _ _ rfl rfl Try.underlying58 (by kernel_rfl) ?_) | (refine wpList_load_ob_g HH rfl _ _ rfl rfl Try.underlying58 (by kernel_rfl) ?_))
              refine (sameAt_any f (h.upd kb i v) mb _ hM hH (by omega) (by rw [show (h.upd kb i v).c = f.c from hlkh.out.c]; omega) (by omega)).mono ?_
              rw [hs2.out]
              rintro e w5 ⟨rfl, hb⟩
              replace HF := HF.later hb; replace HG := HG.later hb; replace HH := HH.later hb; replace hM := hM.later hb; replace hG := hG.later hb; replace hH := hH.later hb; replace HW := below_step HW hb
              clear hb
              go_wp2_with fail
              exact ⟨⟨mb + 1, by omega, by go_num, HF, HG, HH, hM, hG, hH, HW⟩, by simp [intOf]; omega⟩
            · have b1 : (by_ == 0) = false := by simpa using hb0
              have b2 : ((mb : Int) != (tc : Int)) = false := by subst hmt; simp
              have hs2 := Lib.hid (hsu.out false (by rw [b1]; simp [hmt]))
              replace hb0 := Lib.hid hb0; replace hmt := Lib.hid hmt
              go_wp2_with (first | (refine wpList_load_ob_g HF rfl _ _ rfl rfl Try.underlying58 (by kernel_rfl) ?_) | (refine wpList_load_ob_g HG rfl _ _ rfl rfl Try.underlying58 (by kernel_rfl) ?_) | (refine wpList_load_ob_g HH rfl _ _ rfl rfl Try.underlying58 (by kernel_rfl) ?_))
              refine (far_of f g mb _ hM hG (by omega) hg1 (by omega)).mono ?_
              rintro e w3 ⟨rfl, hb⟩
              replace HF := HF.later hb; replace HG := HG.later hb; replace HH := HH.later hb; replace hM := hM.later hb; replace hG := hG.later hb; replace hH := hH.later hb; replace HW := below_step HW hb
              clear hb
              go_wp2_with (first | (refine wpList_load_ob_g HF rfl _ _ rfl rfl Try.underlying58 (by kernel_rfl) ?_) | (refine wpList_load_ob_g HG rfl _ _ rfl rfl Try.underlying58 (by kernel_rfl) ?_) | (refine wpList_load_ob_g HH rfl _ _ rfl rfl Try.underlying58 (by kernel_rfl) ?_))
              refine (sameAt_any f g mb _ hM hG (by omega) hg1 (by omega)).mono ?_
              rw [hsame.out]
              rintro e w4 ⟨rfl, hb⟩
              replace HF := HF.later hb; replace HG := HG.later hb; replace HH := HH.later hb; replace hM := hM.later hb; replace hG := hG.later hb; replace hH := hH.later hb; replace HW := below_step HW hb
              clear hb
              go_wp2_with (first | (refine wpList_load_ob_g HF rfl _ _ rfl rfl Try.underlying58 (by kernel_rfl) ?_) | (refine wpList_load_ob_g HG rfl _ _ rfl rfl Try.underlying58 (by kernel_rfl) ?_) | (refine wpList_load_ob_g HH rfl _ _ rfl rfl Try.underlying58 (by kernel_rfl) ?_))
              refine (sameAt_any f (h.upd kb i v) mb _ hM hH (by omega) (by rw [show (h.upd kb i v).c = f.c from hlkh.out.c]; omega) (by omega)).mono ?_
              rw [hs2.out]
              rintro e w5 ⟨rfl, hb⟩
              replace HF := HF.later hb; replace HG := HG.later hb; replace HH := HH.later hb; replace hM := hM.later hb; replace hG := hG.later hb; replace hH := hH.later hb; replace HW := below_step HW hb
              clear hb
              go_wp2_with fail
              exact ⟨⟨mb + 1, by omega, by go_num, HF, HG, HH, hM, hG, hH, HW⟩, by simp [intOf]; omega⟩
            · have b1 : (by_ == 0) = false := by simpa using hb0
              have b2 : ((mb : Int) != (tc : Int)) = true := by simp; omega
              have hs2 := Lib.hid (hsu.out true (by rw [b1]; simp [hmt]))
              replace hb0 := Lib.hid hb0; replace hmt := Lib.hid hmt
              go_wp2_with (first | (refine wpList_load_ob_g HF rfl _ _ rfl rfl Try.underlying58 (by kernel_rfl) ?_) | (refine wpList_load_ob_g HG rfl _ _ rfl rfl Try.underlying58 (by kernel_rfl) ?_) | (refine wpList_load_ob_g HH rfl _ _ rfl rfl Try.underlying58 (by kernel_rfl) ?_))
              refine (far_of f g mb _ hM hG (by omega) hg1 (by omega)).mono ?_
              rintro e w3 ⟨rfl, hb⟩
              replace HF := HF.later hb; replace HG := HG.later hb; replace HH := HH.later hb; replace hM := hM.later hb; replace hG := hG.later hb; replace hH := hH.later hb; replace HW := below_step HW hb
              clear hb
              go_wp2_with (first | (refine wpList_load_ob_g HF rfl _ _ rfl rfl Try.underlying58 (by kernel_rfl) ?_) | (refine wpList_load_ob_g HG rfl _ _ rfl rfl Try.underlying58 (by kernel_rfl) ?_) | (refine wpList_load_ob_g HH rfl _ _ rfl rfl Try.underlying58 (by kernel_rfl) ?_))
              refine (sameAt_any f g mb _ hM hG (by omega) hg1 (by omega)).mono ?_
              rw [hsame.out]
              rintro e w4 ⟨rfl, hb⟩
              replace HF := HF.later hb; replace HG := HG.later hb; replace HH := HH.later hb; replace hM := hM.later hb; replace hG := hG.later hb; replace hH := hH.later hb; replace HW := below_step HW hb
              clear hb
              go_wp2_with (first | (refine wpList_load_ob_g HF rfl _ _ rfl rfl Try.underlying58 (by kernel_rfl) ?_) | (refine wpList_load_ob_g HG rfl _ _ rfl rfl Try.underlying58 (by kernel_rfl) ?_) | (refine wpList_load_ob_g HH rfl _ _ rfl rfl Try.underlying58 (by kernel_rfl) ?_))
              refine (sameAt_any f (h.upd kb i v) mb _ hM hH (by omega) (by rw [show (h.upd kb i v).c = f.c from hlkh.out.c]; omega) (by omega)).mono ?_
              rw [hs2.out]
              rintro e w5 ⟨rfl, hb⟩
              replace HF := HF.later hb; replace HG := HG.later hb; replace HH := HH.later hb; replace hM := hM.later hb; replace hG := hG.later hb; replace hH := hH.later hb; replace HW := below_step HW hb
              clear hb
              go_wp2_with fail
              exact ⟨⟨mb + 1, by omega, by go_num, HF, HG, HH, hM, hG, hH, HW⟩, by simp [intOf]; omega⟩
      · obtain rfl : mb = f.c * f.r := by omega
        have hd : decide (((f.c * f.r : Nat) : Int) < (f.c : Int) * (f.r : Int)) = false := by simp
        go_wp2_with fail
        have hsmB := same_upd hM hH hlkh.out hkbh.out hi2h.out _ (by rw [hs0.out]; exact hvs.out)
        have hsm : ∀ w', f.Mem w' → (h.upd kb i v).Mem w' → Calls Try.prog 46 #[f.val, (h.upd kb i v).val] w' fun e w'' => e = .returned (.bool (by_ == 0)) ∧ Below w'.heap.size w' w'' := fun w' h1 h2 => by
          rw [← hsmB]; exact same_any f (h.upd kb i v) w' h1 h2
        clear hsmB
        clear hkbh hlkh hi2h htc hsz hs0 hvs
        generalize h.upd kb i v = h2 at *
        cases hbz : (by_ == 0)
        all_goals
          rw [hbz] at hsm
          replace hsm := Lib.hid hsm
          apply wp_region_rel 13 [9] (fun _ => CloS f)
          case hm => kernel_rfl
          case hB => kernel_rfl
          case hΛ => kernel_rfl
          case hSm => exact fun _ _ _ _ h hb => h.later hb
          case hF =>
            intro wx hwx vs
            have c0 := fun p => ((HF.later hwx).re p).fC
            have c1 := fun p => ((HF.later hwx).re p).fR
            have c2 := fun p => ((HF.later hwx).re p).fYW
            have c3 := fun p => ((HF.later hwx).re p).fYH
            have c4 := fun p => ((HF.later hwx).re p).fYS
            have c5 := fun p => ((HF.later hwx).re p).fUW
            have c6 := fun p => ((HF.later hwx).re p).fUH
            have c7 := fun p => ((HF.later hwx).re p).fUS
            have c8 := fun p => ((HF.later hwx).re p).fVW
            have c9 := fun p => ((HF.later hwx).re p).fVH
            have c10 := fun p => ((HF.later hwx).re p).fVS
            have d0 := fun p => ((HH.later hwx).re p).fC
            have d1 := fun p => ((HH.later hwx).re p).fR
            have d2 := fun p => ((HH.later hwx).re p).fYW
            have d3 := fun p => ((HH.later hwx).re p).fYH
            have d4 := fun p => ((HH.later hwx).re p).fYS
            have d5 := fun p => ((HH.later hwx).re p).fUW
            have d6 := fun p => ((HH.later hwx).re p).fUH
            have d7 := fun p => ((HH.later hwx).re p).fUS
            have d8 := fun p => ((HH.later hwx).re p).fVW
            have d9 := fun p => ((HH.later hwx).re p).fVH
            have d10 := fun p => ((HH.later hwx).re p).fVS
            have hH2 := hH.later hwx
            have hM2 := hM.later hwx
            simp only [List.take_succ_cons, List.take_zero]
            repeat (first | (refine WQ.want (by rfl) (by rfl) ?_; intro K hK; go_big_quiet_op; first | go_big_quiet_on | go_big_quiet_call ((go_at_call 46; exact Calls.regrown_of (hsm.out _ (hM2.later (below_regrown _ _ _)) (hH2.later (below_regrown _ _ _)))))) | (refine WQ.skip (by rfl) (by rfl) ?_; simp only [Act.put, List.setIfInBounds_toArray, List.set_cons_succ, List.set_cons_zero]))
            refine WQ.new (by rfl) (by rfl) ?_ ?_
            · intro W hW hf
              go_simp
              refine (clone_any f _ (hM2.later hW)).mono ?_
              rintro e w' ⟨g, rfl, h1, h2, -, hb3⟩
              exact ⟨_, rfl, hb3, g, rfl, h1, h2⟩
            simp only [Act.put, List.setIfInBounds_toArray, List.set_cons_succ, List.set_cons_zero]
            repeat (first | (refine WQ.want (by rfl) (by rfl) ?_; intro K hK; go_big_quiet_op; first | go_big_quiet_on | go_big_quiet_call (fail)) | (refine WQ.skip (by rfl) (by rfl) ?_; simp only [Act.put, List.setIfInBounds_toArray, List.set_cons_succ, List.set_cons_zero]))
            refine WQ.fact (by rfl) (by rfl) (.bool true) ?_ ?_
            · intro W hW hf
              obtain ⟨g, hv, h1, h2⟩ : CloS f (vs 9) W := hf 9 (by simp) (by kernel_rfl)
              unfold Oper.quietAt
              go_simp
              exact calls_fact hW (by rw [← sameB_like h1]; exact same_any f g W (hM2.later hW) h2)
            simp only [Act.put, List.setIfInBounds_toArray, List.set_cons_succ, List.set_cons_zero]
            repeat (first | (refine WQ.want (by rfl) (by rfl) ?_; intro K hK; go_big_quiet_op; first | go_big_quiet_on | go_big_quiet_call (fail)) | (refine WQ.skip (by rfl) (by rfl) ?_; simp only [Act.put, List.setIfInBounds_toArray, List.set_cons_succ, List.set_cons_zero]))
            exact WQ.nil rfl
          case hind => intro vs vs'; kernel_rfl
          case hT =>
            intro vs w' hb hS
            simp only [List.drop_succ_cons, List.drop_nil]
            go_wp2_with fail
            go_ret
            exact ⟨rfl, below_step HW hb⟩
end Go.Proofs.Ytggdaefgaakijaa

/- The law PlaneDraws returns true at every input, and its arguments read as they did. Conditions: none. -/
import Derived.Test.YtbldgpemocnboaaRows
import Derived.Test.YtbldgpemocnboaaPlaneDrawsW
import Derived.Test.YtbldgpemocnboaaPostS
import Derived.Test.YtbldgpemocnboaaFk1
import Derived.Test.YtbldgpemocnboaaFk2
import Derived.Test.YtbldgpemocnboaaFk3
import Derived.Test.YtbldgpemocnboaaPost
import Derived.WalkKit
import Derived.ProofKit
import Derived.OpenShut
namespace Go.Proofs.Ytbldgpemocnboaa.planeDraws
open Go.ChangeShapes Go.WideShapes Go.ChangeAt Go.RowKit
set_option linter.unusedVariables false

theorem own : ownKnob Try.prog.godebug = none := by kernel_rfl

/-- The Go text returns true; nothing that was there before has changed. -/
theorem walk (w : World) (co0 ro0 ki0 a0 b0 c0 sd0 : Int) (p0 : Option Addr) (n0 m0 : Nat) (f0 : Nat → Int) (w0 : SmallW co0 ro0 ki0 a0 b0 c0 sd0 n0 f0) (l0 : n0 ≤ maxLen) (s0 : SL w p0 n0 (u8v f0)) (co1 ro1 ki1 a1 b1 c1 sd1 : Int) (p1 : Option Addr) (n1 m1 : Nat) (f1 : Nat → Int) (w1 : SmallW co1 ro1 ki1 a1 b1 c1 sd1 n1 f1) (l1 : n1 ≤ maxLen) (s1 : SL w p1 n1 (u8v f1)) (a2 : Int) (w2 : (Lit.int .i8 a2).wf = true) (a3 : Int) (w3 : (Lit.int .i8 a3).wf = true) (a4 : Int) (w4 : (Lit.int .i8 a4).wf = true) (a5 : Int) (w5 : (Lit.int .i8 a5).wf = true) (a6 : Int) (w6 : (Lit.int .u8 a6).wf = true) (a7 : Int) (w7 : (Lit.int .u8 a7).wf = true) (a8 : Int) (w8 : (Lit.int .u8 a8).wf = true) (a9 : Int) (w9 : (Lit.int .i8 a9).wf = true) (a10 : Int) (w10 : (Lit.int .i8 a10).wf = true) (a11 : Int) (w11 : (Lit.int .i64 a11).wf = true) :
    Calls Try.prog 4 #[smV co0 ro0 ki0 a0 b0 c0 sd0 p0 n0 m0, smV co1 ro1 ki1 a1 b1 c1 sd1 p1 n1 m1, .int .i8 a2, .int .i8 a3, .int .i8 a4, .int .i8 a5, .int .u8 a6, .int .u8 a7, .int .u8 a8, .int .i8 a9, .int .i8 a10, .int .i64 a11] w fun e w' => e = .returned (.bool true) ∧ Below w.heap.size w w' :=
  (planeDraws_walk co0 ro0 ki0 a0 b0 c0 sd0 p0 n0 m0 f0 co1 ro1 ki1 a1 b1 c1 sd1 p1 n1 m1 f1 a2 a3 a4 a5 a6 a7 a8 a9 a10 a11 w w0 l0 s0 w1 l1 s1 (wf_i8_bd w2) (wf_i8_bd w3) (wf_i8_bd w4) (wf_i8_bd w5) (wf_u8_bd w6) (wf_u8_bd w7) (wf_u8_bd w8) (wf_i8_bd w9) (wf_i8_bd w10))

set_option maxRecDepth 100000 in
theorem lifted (os : Os) (started : os.Started) (H : Type) (enc : TypeId × Value → H) :
    ReturnsInHanded {} Try.checked os 4 .any (Rows.planeDrawsSpec.pre6 enc Try.prog Try.f4 Rows.planeDrawsRow.domain false) (Rows.planeDrawsSpec.post enc Try.prog Try.f4 false true false false) := by
  refine returnsInHanded_of_change (C := Try.checked) own started (by kernel_rfl) Try.func4
    (ChangeSpec.witness6 (enc := enc) (C := Try.checked) false ⟨#[], #[.agg #[.int .u8 0, .int .u8 0, .int .u8 0, .int .u8 0, .int .u8 0, .int .u8 0, .int .u32 0, .slice none 0 0], .agg #[.int .u8 0, .int .u8 0, .int .u8 0, .int .u8 0, .int .u8 0, .int .u8 0, .int .u32 0, .slice none 0 0], .int .i8 0, .int .i8 0, .int .i8 0, .int .i8 0, .int .u8 0, .int .u8 0, .int .u8 0, .int .i8 0, .int .i8 0, .int .i64 0], []⟩ 8 (by kernel_rfl) (by kernel_rfl) (by kernel_rfl) (by kernel_rfl)) ?_
  intro W base args ds gs before hval0 hW hcnd _
  have hval : ∀ (j : Nat) t v, Try.f4.params[j]? = some t → args[j]? = some v → Value.okWide Try.prog W .any base t v := hval0
  have hW' := hW
  obtain ⟨p, q, hA0, hV, rfl, hfz, hnd⟩ := hW
  have hA : DataW.TrodAll enc Try.prog W 0 (fun _ => true) true Try.f4.params.toList args.toList ds p := hA0
  rw [Try.params4] at hA hval
  obtain ⟨v0, vs0, d0, ds0, p0, q0, hargs, rfl, _, h0, r0⟩ := trodAll_cons hA
  obtain ⟨v1, vs1, d1, ds1, p1, q1, rfl, rfl, _, h1, r1⟩ := trodAll_cons r0
  obtain ⟨v2, vs2, d2, ds2, p2, q2, rfl, rfl, _, h2, r2⟩ := trodAll_cons r1
  obtain ⟨v3, vs3, d3, ds3, p3, q3, rfl, rfl, _, h3, r3⟩ := trodAll_cons r2
  obtain ⟨v4, vs4, d4, ds4, p4, q4, rfl, rfl, _, h4, r4⟩ := trodAll_cons r3
  obtain ⟨v5, vs5, d5, ds5, p5, q5, rfl, rfl, _, h5, r5⟩ := trodAll_cons r4
  obtain ⟨v6, vs6, d6, ds6, p6, q6, rfl, rfl, _, h6, r6⟩ := trodAll_cons r5
  obtain ⟨v7, vs7, d7, ds7, p7, q7, rfl, rfl, _, h7, r7⟩ := trodAll_cons r6
  obtain ⟨v8, vs8, d8, ds8, p8, q8, rfl, rfl, _, h8, r8⟩ := trodAll_cons r7
  obtain ⟨v9, vs9, d9, ds9, p9, q9, rfl, rfl, _, h9, r9⟩ := trodAll_cons r8
  obtain ⟨v10, vs10, d10, ds10, p10, q10, rfl, rfl, _, h10, r10⟩ := trodAll_cons r9
  obtain ⟨v11, vs11, d11, ds11, p11, q11, rfl, rfl, _, h11, r11⟩ := trodAll_cons r10
  obtain ⟨rfl, rfl, _⟩ := trodAll_nil r11
  obtain rfl : args = #[v0, v1, v2, v3, v4, v5, v6, v7, v8, v9, v10, v11] := by cases args; simp_all
  obtain ⟨rfl, rfl⟩ := trodVars_none hV
  have hlt := fun x hx => hW'.lt x hx
  obtain ⟨co0, ro0, ki0, a0, b0, c0, sd0, p0, n0, m0, f0, rfl, w0, l0, s0⟩ := open_smallW (hval 0 38 v0 rfl rfl) h0
  obtain ⟨co1, ro1, ki1, a1, b1, c1, sd1, p1, n1, m1, f1, rfl, w1, l1, s1⟩ := open_smallW (hval 1 38 v1 rfl rfl) h1
  obtain ⟨a2, rfl, _, _, w2⟩ := open_int Try.underlying39 (hval 2 39 v2 rfl rfl) h2
  obtain ⟨a3, rfl, _, _, w3⟩ := open_int Try.underlying39 (hval 3 39 v3 rfl rfl) h3
  obtain ⟨a4, rfl, _, _, w4⟩ := open_int Try.underlying39 (hval 4 39 v4 rfl rfl) h4
  obtain ⟨a5, rfl, _, _, w5⟩ := open_int Try.underlying39 (hval 5 39 v5 rfl rfl) h5
  obtain ⟨a6, rfl, _, _, w6⟩ := open_int Try.underlying5 (hval 6 5 v6 rfl rfl) h6
  obtain ⟨a7, rfl, _, _, w7⟩ := open_int Try.underlying5 (hval 7 5 v7 rfl rfl) h7
  obtain ⟨a8, rfl, _, _, w8⟩ := open_int Try.underlying5 (hval 8 5 v8 rfl rfl) h8
  obtain ⟨a9, rfl, _, _, w9⟩ := open_int Try.underlying39 (hval 9 39 v9 rfl rfl) h9
  obtain ⟨a10, rfl, _, _, w10⟩ := open_int Try.underlying39 (hval 10 39 v10 rfl rfl) h10
  obtain ⟨a11, rfl, _, _, w11⟩ := open_int Try.underlying3 (hval 11 3 v11 rfl rfl) h11
  refine (walk W co0 ro0 ki0 a0 b0 c0 sd0 p0 n0 m0 f0 w0 l0 s0 co1 ro1 ki1 a1 b1 c1 sd1 p1 n1 m1 f1 w1 l1 s1 a2 w2 a3 w3 a4 w4 a5 w5 a6 w6 a7 w7 a8 w8 a9 w9 a10 w10 a11 w11).mono fun e W' ⟨he, hg⟩ => ?_
  subst he
  exact ⟨_, rfl, post_of_below (pa := p) (pv := []) hW' (fun _ _ _ => (trodAll_cons_mk (shut_bool Try.underlying4 _) trodAll_mk0))
    (fun sp hsp => trodAll_stays (by kernel_rfl) hg _ _ _ _ (by kernel_rfl) hA0 (fun x hx => hlt x (by simp [hx])) (fun x hx => hsp x (by simp [hx])))
    (fun _ _ => rfl) (by simp) hg (ok_one (by kernel_rfl) rfl (okWide_bool_mk Try.underlying4 _))⟩

theorem andT {a b : Bool} (ha : a = true) (hb : b = true) : (a && b) = true := by rw [ha, hb]; rfl
/-- What the row's form asks of the program, part by part. -/
theorem closed : joinedFacts Try.prog 4 Try.f4 Rows.planeDrawsSpec Rows.planeDrawsRow = true := by
  unfold joinedFacts
  refine andT (andT (andT (andT (andT (andT (andT ?_ mayEnterT) liftsT) makeT) ?_) ?_) ?_) ?_
  all_goals kernel_rfl

theorem over : Rows.planeDrawsRow.holds Try.pinned (OpenSpec.ofChange Rows.planeDrawsSpec) :=
  OpenClaim.holds_of_wide 4 Try.f4 rfl rfl rfl rfl rfl rfl rfl ⟨rfl, rfl, rfl, rfl, rfl⟩ rfl rfl rfl rfl rfl (by kernel_rfl) Try.func4 closed
    (of_decide_eq_true (by kernel_rfl)) (by unfold Func.isWrapper; first | (rw [if_pos (by decide +kernel)]; kernel_rfl) | (rw [if_neg (by decide +kernel)]; exact ⟨rfl, rfl⟩))
    (fun os started H enc _ => lifted os started H enc)

/-- The statement. -/
theorem proved : Rows.PlaneDrawsSaid :=
  over
#print axioms proved
end Go.Proofs.Ytbldgpemocnboaa.planeDraws

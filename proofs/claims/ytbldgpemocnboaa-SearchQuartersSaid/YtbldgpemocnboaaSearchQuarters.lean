/- The law SearchQuarters returns true at every input, and its arguments read as they did. Conditions: none. -/
import Derived.Test.YtbldgpemocnboaaRows
import Derived.Test.YtbldgpemocnboaaSeaQuW
import Derived.Test.YtbldgpemocnboaaPostS
import Derived.Test.YtbldgpemocnboaaFk1
import Derived.Test.YtbldgpemocnboaaFk2
import Derived.Test.YtbldgpemocnboaaFk3
import Derived.Test.YtbldgpemocnboaaPost
import Derived.WalkKit
import Derived.ProofKit
import Derived.OpenShut
namespace Go.Proofs.Ytbldgpemocnboaa.searchQuarters
open Go.ChangeShapes Go.WideShapes Go.ChangeAt Go.RowKit
set_option linter.unusedVariables false

theorem own : ownKnob Try.prog.godebug = none := by kernel_rfl

/-- The Go text returns true; nothing that was there before has changed. -/
theorem walk (w : World) (co0 ro0 ki0 a0 b0 c0 sd0 : Int) (p0 : Option Addr) (n0 m0 : Nat) (f0 : Nat → Int) (w0 : SmallW co0 ro0 ki0 a0 b0 c0 sd0 n0 f0) (l0 : n0 ≤ maxLen) (s0 : SL w p0 n0 (u8v f0)) (co1 ro1 ki1 a1 b1 c1 sd1 : Int) (p1 : Option Addr) (n1 m1 : Nat) (f1 : Nat → Int) (w1 : SmallW co1 ro1 ki1 a1 b1 c1 sd1 n1 f1) (l1 : n1 ≤ maxLen) (s1 : SL w p1 n1 (u8v f1)) (a2 : Int) (w2 : (Lit.int .u8 a2).wf = true) (a3 : Int) (w3 : (Lit.int .i8 a3).wf = true) (a4 : Int) (w4 : (Lit.int .i8 a4).wf = true) (a5 : Int) (w5 : (Lit.int .u8 a5).wf = true) (a6 : Bool) :
    Calls Try.prog 10 #[smV co0 ro0 ki0 a0 b0 c0 sd0 p0 n0 m0, smV co1 ro1 ki1 a1 b1 c1 sd1 p1 n1 m1, .int .u8 a2, .int .i8 a3, .int .i8 a4, .int .u8 a5, .bool a6] w fun e w' => e = .returned (.bool true) ∧ Below w.heap.size w w' :=
  (searchQuarters_walk co0 ro0 ki0 a0 b0 c0 sd0 p0 n0 m0 f0 co1 ro1 ki1 a1 b1 c1 sd1 p1 n1 m1 f1 a2 a3 a4 a5 a6 w w0 l0 s0 w1 l1 s1 (wf_u8_bd w2) (wf_i8_bd w3) (wf_i8_bd w4) (wf_u8_bd w5))

set_option maxRecDepth 100000 in
theorem lifted (os : Os) (started : os.Started) (H : Type) (enc : TypeId × Value → H) :
    ReturnsInHanded {} Try.checked os 10 .any (Rows.searchQuartersSpec.pre6 enc Try.prog Try.f10 Rows.searchQuartersRow.domain false) (Rows.searchQuartersSpec.post enc Try.prog Try.f10 false true false false) := by
  refine returnsInHanded_of_change (C := Try.checked) own started (by kernel_rfl) Try.func10
    (ChangeSpec.witness6 (enc := enc) (C := Try.checked) false ⟨#[], #[.agg #[.int .u8 0, .int .u8 0, .int .u8 0, .int .u8 0, .int .u8 0, .int .u8 0, .int .u32 0, .slice none 0 0], .agg #[.int .u8 0, .int .u8 0, .int .u8 0, .int .u8 0, .int .u8 0, .int .u8 0, .int .u32 0, .slice none 0 0], .int .u8 0, .int .i8 0, .int .i8 0, .int .u8 0, .bool false], []⟩ 8 (by kernel_rfl) (by kernel_rfl) (by kernel_rfl) (by kernel_rfl)) ?_
  intro W base args ds gs before hval0 hW hcnd _
  have hval : ∀ (j : Nat) t v, Try.f10.params[j]? = some t → args[j]? = some v → Value.okWide Try.prog W .any base t v := hval0
  have hW' := hW
  obtain ⟨p, q, hA0, hV, rfl, hfz, hnd⟩ := hW
  have hA : DataW.TrodAll enc Try.prog W 0 (fun _ => true) true Try.f10.params.toList args.toList ds p := hA0
  rw [Try.params10] at hA hval
  obtain ⟨v0, vs0, d0, ds0, p0, q0, hargs, rfl, _, h0, r0⟩ := trodAll_cons hA
  obtain ⟨v1, vs1, d1, ds1, p1, q1, rfl, rfl, _, h1, r1⟩ := trodAll_cons r0
  obtain ⟨v2, vs2, d2, ds2, p2, q2, rfl, rfl, _, h2, r2⟩ := trodAll_cons r1
  obtain ⟨v3, vs3, d3, ds3, p3, q3, rfl, rfl, _, h3, r3⟩ := trodAll_cons r2
  obtain ⟨v4, vs4, d4, ds4, p4, q4, rfl, rfl, _, h4, r4⟩ := trodAll_cons r3
  obtain ⟨v5, vs5, d5, ds5, p5, q5, rfl, rfl, _, h5, r5⟩ := trodAll_cons r4
  obtain ⟨v6, vs6, d6, ds6, p6, q6, rfl, rfl, _, h6, r6⟩ := trodAll_cons r5
  obtain ⟨rfl, rfl, _⟩ := trodAll_nil r6
  obtain rfl : args = #[v0, v1, v2, v3, v4, v5, v6] := by cases args; simp_all
  obtain ⟨rfl, rfl⟩ := trodVars_none hV
  have hlt := fun x hx => hW'.lt x hx
  obtain ⟨co0, ro0, ki0, a0, b0, c0, sd0, p0, n0, m0, f0, rfl, w0, l0, s0⟩ := open_smallW (hval 0 38 v0 rfl rfl) h0
  obtain ⟨co1, ro1, ki1, a1, b1, c1, sd1, p1, n1, m1, f1, rfl, w1, l1, s1⟩ := open_smallW (hval 1 38 v1 rfl rfl) h1
  obtain ⟨a2, rfl, _, _, w2⟩ := open_int Try.underlying5 (hval 2 5 v2 rfl rfl) h2
  obtain ⟨a3, rfl, _, _, w3⟩ := open_int Try.underlying39 (hval 3 39 v3 rfl rfl) h3
  obtain ⟨a4, rfl, _, _, w4⟩ := open_int Try.underlying39 (hval 4 39 v4 rfl rfl) h4
  obtain ⟨a5, rfl, _, _, w5⟩ := open_int Try.underlying5 (hval 5 5 v5 rfl rfl) h5
  obtain ⟨a6, rfl, _, _⟩ := open_bool Try.underlying4 (hval 6 4 v6 rfl rfl) h6
  refine (walk W co0 ro0 ki0 a0 b0 c0 sd0 p0 n0 m0 f0 w0 l0 s0 co1 ro1 ki1 a1 b1 c1 sd1 p1 n1 m1 f1 w1 l1 s1 a2 w2 a3 w3 a4 w4 a5 w5 a6).mono fun e W' ⟨he, hg⟩ => ?_
  subst he
  exact ⟨_, rfl, post_of_below (pa := p) (pv := []) hW' (fun _ _ _ => (trodAll_cons_mk (shut_bool Try.underlying4 _) trodAll_mk0))
    (fun sp hsp => trodAll_stays (by kernel_rfl) hg _ _ _ _ (by kernel_rfl) hA0 (fun x hx => hlt x (by simp [hx])) (fun x hx => hsp x (by simp [hx])))
    (fun _ _ => rfl) (by simp) hg (ok_one (by kernel_rfl) rfl (okWide_bool_mk Try.underlying4 _))⟩

theorem andT {a b : Bool} (ha : a = true) (hb : b = true) : (a && b) = true := by rw [ha, hb]; rfl
/-- What the row's form asks of the program, part by part. -/
theorem closed : joinedFacts Try.prog 10 Try.f10 Rows.searchQuartersSpec Rows.searchQuartersRow = true := by
  unfold joinedFacts
  refine andT (andT (andT (andT (andT (andT (andT ?_ mayEnterT) liftsT) makeT) ?_) ?_) ?_) ?_
  all_goals kernel_rfl

theorem over : Rows.searchQuartersRow.holds Try.pinned (OpenSpec.ofChange Rows.searchQuartersSpec) :=
  OpenClaim.holds_of_wide 10 Try.f10 rfl rfl rfl rfl rfl rfl rfl ⟨rfl, rfl, rfl, rfl, rfl⟩ rfl rfl rfl rfl rfl (by kernel_rfl) Try.func10 closed
    (of_decide_eq_true (by kernel_rfl)) (by unfold Func.isWrapper; first | (rw [if_pos (by decide +kernel)]; kernel_rfl) | (rw [if_neg (by decide +kernel)]; exact ⟨rfl, rfl⟩))
    (fun os started H enc _ => lifted os started H enc)

/-- The statement. -/
theorem proved : Rows.SearchQuartersSaid :=
  over
#print axioms proved
end Go.Proofs.Ytbldgpemocnboaa.searchQuarters

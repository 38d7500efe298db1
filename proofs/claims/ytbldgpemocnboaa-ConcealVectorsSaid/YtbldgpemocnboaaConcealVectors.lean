/- The law ConcealVectors returns true at every input, and its arguments read as they did. Conditions: none. -/
import Derived.Test.YtbldgpemocnboaaRows
import Derived.Test.YtbldgpemocnboaaConVecW
import Derived.Test.YtbldgpemocnboaaPostB
import Derived.Test.YtbldgpemocnboaaPostV
import Derived.Test.YtbldgpemocnboaaFk1
import Derived.Test.YtbldgpemocnboaaFk2
import Derived.Test.YtbldgpemocnboaaFk3
import Derived.Test.YtbldgpemocnboaaPost
import Derived.WalkKit
import Derived.ProofKit
import Derived.OpenShut
namespace Go.Proofs.Ytbldgpemocnboaa.concealVectors
open Go.ChangeShapes Go.WideShapes Go.ChangeAt Go.RowKit
set_option linter.unusedVariables false

theorem own : ownKnob Try.prog.godebug = none := by kernel_rfl

/-- The Go text returns true; nothing that was there before has changed. -/
theorem walk (w : World) (a0 : Int) (w0 : (Lit.int .u8 a0).wf = true) (a1 : Int) (w1 : (Lit.int .u8 a1).wf = true) (p2 : Option Addr) (n2 c2 : Nat) (a2 : Nat → Bool) (l2 : n2 ≤ maxLen) (s2 : SL w p2 n2 (blv a2)) (p3 : Option Addr) (n3 c3 : Nat) (a3 : Nat → Bool) (l3 : n3 ≤ maxLen) (s3 : SL w p3 n3 (blv a3)) (p4 : Option Addr) (n4 c4 : Nat) (x4 y4 : Nat → Nat → Int) (t4 : Nat → Bool) (l4 : n4 ≤ maxLen) (s4 : SL w p4 (n4 * 9) (swC x4 y4 t4)) (w4 : ∀ i, i < n4 → (∀ j, j < 4 → (Lit.int .i8 (x4 i j)).wf = true) ∧ ∀ j, j < 4 → (Lit.int .i8 (y4 i j)).wf = true) (a5 : Int) (w5 : (Lit.int .u8 a5).wf = true) :
    Calls Try.prog 5 #[.int .u8 a0, .int .u8 a1, .slice p2 n2 c2, .slice p3 n3 c3, .slice p4 n4 c4, .int .u8 a5] w fun e w' => e = .returned (.bool true) ∧ Below w.heap.size w w' :=
  (conVectors_walk a0 a1 p2 n2 c2 a2 p3 n3 c3 a3 p4 n4 c4 x4 y4 t4 a5 w (wf_u8_bd w0) (wf_u8_bd w1) l2 s2 l3 s3 l4 s4 (fun i hi k hk => ⟨wf_i8_bd ((w4 i hi).1 k hk), wf_i8_bd ((w4 i hi).2 k hk)⟩) (wf_u8_bd w5))

set_option maxRecDepth 100000 in
theorem lifted (os : Os) (started : os.Started) (H : Type) (enc : TypeId × Value → H) :
    ReturnsInHanded {} Try.checked os 5 .any (Rows.concealVectorsSpec.pre6 enc Try.prog Try.f5 Rows.concealVectorsRow.domain false) (Rows.concealVectorsSpec.post enc Try.prog Try.f5 false true false false) := by
  refine returnsInHanded_of_change (C := Try.checked) own started (by kernel_rfl) Try.func5
    (ChangeSpec.witness6 (enc := enc) (C := Try.checked) false ⟨#[], #[.int .u8 0, .int .u8 0, .slice none 0 0, .slice none 0 0, .slice none 0 0, .int .u8 0], []⟩ 8 (by kernel_rfl) (by kernel_rfl) (by kernel_rfl) (by kernel_rfl)) ?_
  intro W base args ds gs before hval0 hW hcnd _
  have hval : ∀ (j : Nat) t v, Try.f5.params[j]? = some t → args[j]? = some v → Value.okWide Try.prog W .any base t v := hval0
  have hW' := hW
  obtain ⟨p, q, hA0, hV, rfl, hfz, hnd⟩ := hW
  have hA : DataW.TrodAll enc Try.prog W 0 (fun _ => true) true Try.f5.params.toList args.toList ds p := hA0
  rw [Try.params5] at hA hval
  obtain ⟨v0, vs0, d0, ds0, p0, q0, hargs, rfl, _, h0, r0⟩ := trodAll_cons hA
  obtain ⟨v1, vs1, d1, ds1, p1, q1, rfl, rfl, _, h1, r1⟩ := trodAll_cons r0
  obtain ⟨v2, vs2, d2, ds2, p2, q2, rfl, rfl, _, h2, r2⟩ := trodAll_cons r1
  obtain ⟨v3, vs3, d3, ds3, p3, q3, rfl, rfl, _, h3, r3⟩ := trodAll_cons r2
  obtain ⟨v4, vs4, d4, ds4, p4, q4, rfl, rfl, _, h4, r4⟩ := trodAll_cons r3
  obtain ⟨v5, vs5, d5, ds5, p5, q5, rfl, rfl, _, h5, r5⟩ := trodAll_cons r4
  obtain ⟨rfl, rfl, _⟩ := trodAll_nil r5
  obtain rfl : args = #[v0, v1, v2, v3, v4, v5] := by cases args; simp_all
  obtain ⟨rfl, rfl⟩ := trodVars_none hV
  have hlt := fun x hx => hW'.lt x hx
  obtain ⟨a0, rfl, _, _, w0⟩ := open_int Try.underlying5 (hval 0 5 v0 rfl rfl) h0
  obtain ⟨a1, rfl, _, _, w1⟩ := open_int Try.underlying5 (hval 1 5 v1 rfl rfl) h1
  obtain ⟨p2, n2, c2, a2, rfl, l2, s2⟩ := open_slb Try.underlying55 Try.underlying4 (by kernel_rfl) (hval 2 55 v2 rfl rfl) h2
  obtain ⟨p3, n3, c3, a3, rfl, l3, s3⟩ := open_slb Try.underlying55 Try.underlying4 (by kernel_rfl) (hval 3 55 v3 rfl rfl) h3
  obtain ⟨p4, n4, c4, x4, y4, t4, rfl, l4, s4, w4⟩ := open_slw (hval 4 56 v4 rfl rfl) h4
  obtain ⟨a5, rfl, _, _, w5⟩ := open_int Try.underlying5 (hval 5 5 v5 rfl rfl) h5
  refine (walk W a0 w0 a1 w1 p2 n2 c2 a2 l2 s2 p3 n3 c3 a3 l3 s3 p4 n4 c4 x4 y4 t4 l4 s4 w4 a5 w5).mono fun e W' ⟨he, hg⟩ => ?_
  subst he
  exact ⟨_, rfl, post_of_below (pa := p) (pv := []) hW' (fun _ _ _ => (trodAll_cons_mk (shut_bool Try.underlying4 _) trodAll_mk0))
    (fun sp hsp => trodAll_stays (by kernel_rfl) hg _ _ _ _ (by kernel_rfl) hA0 (fun x hx => hlt x (by simp [hx])) (fun x hx => hsp x (by simp [hx])))
    (fun _ _ => rfl) (by simp) hg (ok_one (by kernel_rfl) rfl (okWide_bool_mk Try.underlying4 _))⟩

theorem andT {a b : Bool} (ha : a = true) (hb : b = true) : (a && b) = true := by rw [ha, hb]; rfl
/-- What the row's form asks of the program, part by part. -/
theorem closed : joinedFacts Try.prog 5 Try.f5 Rows.concealVectorsSpec Rows.concealVectorsRow = true := by
  unfold joinedFacts
  refine andT (andT (andT (andT (andT (andT (andT ?_ mayEnterT) liftsT) makeT) ?_) ?_) ?_) ?_
  all_goals kernel_rfl

theorem over : Rows.concealVectorsRow.holds Try.pinned (OpenSpec.ofChange Rows.concealVectorsSpec) :=
  OpenClaim.holds_of_wide 5 Try.f5 rfl rfl rfl rfl rfl rfl rfl ⟨rfl, rfl, rfl, rfl, rfl⟩ rfl rfl rfl rfl rfl (by kernel_rfl) Try.func5 closed
    (of_decide_eq_true (by kernel_rfl)) (by unfold Func.isWrapper; first | (rw [if_pos (by decide +kernel)]; kernel_rfl) | (rw [if_neg (by decide +kernel)]; exact ⟨rfl, rfl⟩))
    (fun os started H enc _ => lifted os started H enc)

/-- The statement. -/
theorem proved : Rows.ConcealVectorsSaid :=
  over
#print axioms proved
end Go.Proofs.Ytbldgpemocnboaa.concealVectors

/- The law CompTouches returns true at every input, and its arguments read as they did. Conditions: none. -/
import Derived.Test.YtbldgpemocnboaaRows
import Derived.Test.YtbldgpemocnboaaCompTouW
import Derived.Test.YtbldgpemocnboaaPostW
import Derived.Test.YtbldgpemocnboaaFk1
import Derived.Test.YtbldgpemocnboaaFk2
import Derived.Test.YtbldgpemocnboaaFk3
import Derived.Test.YtbldgpemocnboaaPost
import Derived.WalkKit
import Derived.ProofKit
import Derived.OpenShut
namespace Go.Proofs.Ytbldgpemocnboaa.compTouches
open Go.ChangeShapes Go.WideShapes Go.ChangeAt Go.RowKit
set_option linter.unusedVariables false

theorem own : ownKnob Try.prog.godebug = none := by kernel_rfl

/-- The Go text returns true; nothing that was there before has changed. -/
theorem walk (w : World) (a0 : Int) (w0 : (Lit.int .u8 a0).wf = true) (a1 : Int) (w1 : (Lit.int .u8 a1).wf = true) (a2 : Int) (w2 : (Lit.int .u8 a2).wf = true) (x3 y3 : Nat → Int) (t3 : Bool) (w3 : ∀ j, j < 4 → (Lit.int .i8 (x3 j)).wf = true) (z3 : ∀ j, j < 4 → (Lit.int .i8 (y3 j)).wf = true) :
    Calls Try.prog 14 #[.int .u8 a0, .int .u8 a1, .int .u8 a2, .agg (fcells 9 (wyC x3 y3 t3))] w fun e w' => e = .returned (.bool true) ∧ Below w.heap.size w w' :=
  (compTouches_walk a0 a1 a2 x3 y3 t3 w (wf_u8_bd w0) (wf_u8_bd w1) (wf_u8_bd w2) (fun k hk => ⟨wf_i8_bd (w3 k hk), wf_i8_bd (z3 k hk)⟩))

set_option maxRecDepth 100000 in
theorem lifted (os : Os) (started : os.Started) (H : Type) (enc : TypeId × Value → H) :
    ReturnsInHanded {} Try.checked os 14 .any (Rows.compTouchesSpec.pre6 enc Try.prog Try.f14 Rows.compTouchesRow.domain false) (Rows.compTouchesSpec.post enc Try.prog Try.f14 false true false false) := by
  refine returnsInHanded_of_change (C := Try.checked) own started (by kernel_rfl) Try.func14
    (ChangeSpec.witness6 (enc := enc) (C := Try.checked) false ⟨#[], #[.int .u8 0, .int .u8 0, .int .u8 0, .agg (Array.replicate 8 (.int .i8 0) ++ #[.bool false])], []⟩ 8 (by kernel_rfl) (by kernel_rfl) (by kernel_rfl) (by kernel_rfl)) ?_
  intro W base args ds gs before hval0 hW hcnd _
  have hval : ∀ (j : Nat) t v, Try.f14.params[j]? = some t → args[j]? = some v → Value.okWide Try.prog W .any base t v := hval0
  have hW' := hW
  obtain ⟨p, q, hA0, hV, rfl, hfz, hnd⟩ := hW
  have hA : DataW.TrodAll enc Try.prog W 0 (fun _ => true) true Try.f14.params.toList args.toList ds p := hA0
  rw [Try.params14] at hA hval
  obtain ⟨v0, vs0, d0, ds0, p0, q0, hargs, rfl, _, h0, r0⟩ := trodAll_cons hA
  obtain ⟨v1, vs1, d1, ds1, p1, q1, rfl, rfl, _, h1, r1⟩ := trodAll_cons r0
  obtain ⟨v2, vs2, d2, ds2, p2, q2, rfl, rfl, _, h2, r2⟩ := trodAll_cons r1
  obtain ⟨v3, vs3, d3, ds3, p3, q3, rfl, rfl, _, h3, r3⟩ := trodAll_cons r2
  obtain ⟨rfl, rfl, _⟩ := trodAll_nil r3
  obtain rfl : args = #[v0, v1, v2, v3] := by cases args; simp_all
  obtain ⟨rfl, rfl⟩ := trodVars_none hV
  have hlt := fun x hx => hW'.lt x hx
  obtain ⟨a0, rfl, _, _, w0⟩ := open_int Try.underlying5 (hval 0 5 v0 rfl rfl) h0
  obtain ⟨a1, rfl, _, _, w1⟩ := open_int Try.underlying5 (hval 1 5 v1 rfl rfl) h1
  obtain ⟨a2, rfl, _, _, w2⟩ := open_int Try.underlying5 (hval 2 5 v2 rfl rfl) h2
  obtain ⟨x3, y3, t3, rfl, w3, z3⟩ := open_ways (hval 3 66 v3 rfl rfl) h3
  refine (walk W a0 w0 a1 w1 a2 w2 x3 y3 t3 w3 z3).mono fun e W' ⟨he, hg⟩ => ?_
  subst he
  exact ⟨_, rfl, post_of_below (pa := p) (pv := []) hW' (fun _ _ _ => (trodAll_cons_mk (shut_bool Try.underlying4 _) trodAll_mk0))
    (fun sp hsp => trodAll_stays (by kernel_rfl) hg _ _ _ _ (by kernel_rfl) hA0 (fun x hx => hlt x (by simp [hx])) (fun x hx => hsp x (by simp [hx])))
    (fun _ _ => rfl) (by simp) hg (ok_one (by kernel_rfl) rfl (okWide_bool_mk Try.underlying4 _))⟩

theorem andT {a b : Bool} (ha : a = true) (hb : b = true) : (a && b) = true := by rw [ha, hb]; rfl
/-- What the row's form asks of the program, part by part. -/
theorem closed : joinedFacts Try.prog 14 Try.f14 Rows.compTouchesSpec Rows.compTouchesRow = true := by
  unfold joinedFacts
  refine andT (andT (andT (andT (andT (andT (andT ?_ mayEnterT) liftsT) makeT) ?_) ?_) ?_) ?_
  all_goals kernel_rfl

theorem over : Rows.compTouchesRow.holds Try.pinned (OpenSpec.ofChange Rows.compTouchesSpec) :=
  OpenClaim.holds_of_wide 14 Try.f14 rfl rfl rfl rfl rfl rfl rfl ⟨rfl, rfl, rfl, rfl, rfl⟩ rfl rfl rfl rfl rfl (by kernel_rfl) Try.func14 closed
    (of_decide_eq_true (by kernel_rfl)) (by unfold Func.isWrapper; first | (rw [if_pos (by decide +kernel)]; kernel_rfl) | (rw [if_neg (by decide +kernel)]; exact ⟨rfl, rfl⟩))
    (fun os started H enc _ => lifted os started H enc)

/-- The statement. -/
theorem proved : Rows.CompTouchesSaid :=
  over
#print axioms proved
end Go.Proofs.Ytbldgpemocnboaa.compTouches

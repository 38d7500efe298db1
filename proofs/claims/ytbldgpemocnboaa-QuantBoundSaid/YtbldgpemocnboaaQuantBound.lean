/- The law QuantBound returns true at every input, and its arguments read as they did. Conditions: none. -/
import Derived.Test.YtbldgpemocnboaaRows
import Derived.Test.YtbldgpemocnboaaQBoundW
import Derived.Test.YtbldgpemocnboaaTabPost
import Derived.Test.YtbldgpemocnboaaFk1
import Derived.Test.YtbldgpemocnboaaFk2
import Derived.Test.YtbldgpemocnboaaFk3
import Derived.Test.YtbldgpemocnboaaPost
import Derived.WalkKit
import Derived.ProofKit
import Derived.OpenShut
namespace Go.Proofs.Ytbldgpemocnboaa.quantBound
open Go.ChangeShapes Go.WideShapes Go.ChangeAt Go.RowKit
set_option linter.unusedVariables false

theorem own : ownKnob Try.prog.godebug = none := by kernel_rfl

/-- The Go text returns true; nothing that was there before has changed. -/
theorem walk (w : World) (t0 : Bool) (a0 b0 : Nat → Int) (w0 : ∀ j, j < 64 → (Lit.int .u8 (a0 j)).wf = true) (x0 : ∀ j, j < 64 → (Lit.int .u8 (b0 j)).wf = true) (a1 : Nat → Int) (w1 : ∀ j, j < 64 → (Lit.int .u8 (a1 j)).wf = true) (a2 : Nat → Int) (w2 : ∀ j, j < 64 → (Lit.int .u8 (a2 j)).wf = true) (a3 : Int) (w3 : (Lit.int .u8 a3).wf = true) (a4 : Bool) :
    Calls Try.prog 3 #[.agg (fcells 129 (tabV t0 a0 b0)), .agg (fcells 64 (fun j => .int .u8 (a1 j))), .agg (fcells 64 (fun j => .int .u8 (a2 j))), .int .u8 a3, .bool a4] w fun e w' => e = .returned (.bool true) ∧ Below w.heap.size w w' :=
  (quantBound_walk t0 a0 b0 a1 a2 a3 a4 w (fun j hj => wf_u8_bd (w0 j hj)) (fun j hj => wf_u8_bd (x0 j hj)) (fun j hj => wf_u8_bd (w1 j hj)) (fun j hj => wf_u8_bd (w2 j hj)) (wf_u8_bd w3))

set_option maxRecDepth 100000 in
theorem lifted (os : Os) (started : os.Started) (H : Type) (enc : TypeId × Value → H) :
    ReturnsInHanded {} Try.checked os 3 .any (Rows.quantBoundSpec.pre6 enc Try.prog Try.f3 Rows.quantBoundRow.domain false) (Rows.quantBoundSpec.post enc Try.prog Try.f3 false true false false) := by
  refine returnsInHanded_of_change (C := Try.checked) own started (by kernel_rfl) Try.func3
    (ChangeSpec.witness6 (enc := enc) (C := Try.checked) false ⟨#[], #[.agg (#[.bool false] ++ Array.replicate 128 (.int .u8 0)), .agg (Array.replicate 64 (.int .u8 0)), .agg (Array.replicate 64 (.int .u8 0)), .int .u8 0, .bool false], []⟩ 8 (by kernel_rfl) (by kernel_rfl) (by kernel_rfl) (by kernel_rfl)) ?_
  intro W base args ds gs before hval0 hW hcnd _
  have hval : ∀ (j : Nat) t v, Try.f3.params[j]? = some t → args[j]? = some v → Value.okWide Try.prog W .any base t v := hval0
  have hW' := hW
  obtain ⟨p, q, hA0, hV, rfl, hfz, hnd⟩ := hW
  have hA : DataW.TrodAll enc Try.prog W 0 (fun _ => true) true Try.f3.params.toList args.toList ds p := hA0
  rw [Try.params3] at hA hval
  obtain ⟨v0, vs0, d0, ds0, p0, q0, hargs, rfl, _, h0, r0⟩ := trodAll_cons hA
  obtain ⟨v1, vs1, d1, ds1, p1, q1, rfl, rfl, _, h1, r1⟩ := trodAll_cons r0
  obtain ⟨v2, vs2, d2, ds2, p2, q2, rfl, rfl, _, h2, r2⟩ := trodAll_cons r1
  obtain ⟨v3, vs3, d3, ds3, p3, q3, rfl, rfl, _, h3, r3⟩ := trodAll_cons r2
  obtain ⟨v4, vs4, d4, ds4, p4, q4, rfl, rfl, _, h4, r4⟩ := trodAll_cons r3
  obtain ⟨rfl, rfl, _⟩ := trodAll_nil r4
  obtain rfl : args = #[v0, v1, v2, v3, v4] := by cases args; simp_all
  obtain ⟨rfl, rfl⟩ := trodVars_none hV
  have hlt := fun x hx => hW'.lt x hx
  obtain ⟨t0, a0, b0, rfl, w0, x0⟩ := open_table (hval 0 24 v0 rfl rfl) h0
  obtain ⟨a1, rfl, w1⟩ := open_arr Try.underlying22 Try.underlying5 (by kernel_rfl) (by kernel_rfl) (hval 1 22 v1 rfl rfl) h1
  obtain ⟨a2, rfl, w2⟩ := open_arr Try.underlying22 Try.underlying5 (by kernel_rfl) (by kernel_rfl) (hval 2 22 v2 rfl rfl) h2
  obtain ⟨a3, rfl, _, _, w3⟩ := open_int Try.underlying5 (hval 3 5 v3 rfl rfl) h3
  obtain ⟨a4, rfl, _, _⟩ := open_bool Try.underlying4 (hval 4 4 v4 rfl rfl) h4
  refine (walk W t0 a0 b0 w0 x0 a1 w1 a2 w2 a3 w3 a4).mono fun e W' ⟨he, hg⟩ => ?_
  subst he
  exact ⟨_, rfl, post_of_below (pa := p) (pv := []) hW' (fun _ _ _ => (trodAll_cons_mk (shut_bool Try.underlying4 _) trodAll_mk0))
    (fun sp hsp => trodAll_stays (by kernel_rfl) hg _ _ _ _ (by kernel_rfl) hA0 (fun x hx => hlt x (by simp [hx])) (fun x hx => hsp x (by simp [hx])))
    (fun _ _ => rfl) (by simp) hg (ok_one (by kernel_rfl) rfl (okWide_bool_mk Try.underlying4 _))⟩

theorem andT {a b : Bool} (ha : a = true) (hb : b = true) : (a && b) = true := by rw [ha, hb]; rfl
/-- What the row's form asks of the program, part by part. -/
theorem closed : joinedFacts Try.prog 3 Try.f3 Rows.quantBoundSpec Rows.quantBoundRow = true := by
  unfold joinedFacts
  refine andT (andT (andT (andT (andT (andT (andT ?_ mayEnterT) liftsT) makeT) ?_) ?_) ?_) ?_
  all_goals kernel_rfl

theorem over : Rows.quantBoundRow.holds Try.pinned (OpenSpec.ofChange Rows.quantBoundSpec) :=
  OpenClaim.holds_of_wide 3 Try.f3 rfl rfl rfl rfl rfl rfl rfl ⟨rfl, rfl, rfl, rfl, rfl⟩ rfl rfl rfl rfl rfl (by kernel_rfl) Try.func3 closed
    (of_decide_eq_true (by kernel_rfl)) (by unfold Func.isWrapper; first | (rw [if_pos (by decide +kernel)]; kernel_rfl) | (rw [if_neg (by decide +kernel)]; exact ⟨rfl, rfl⟩))
    (fun os started H enc _ => lifted os started H enc)

/-- The statement. -/
theorem proved : Rows.QuantBoundSaid :=
  over
#print axioms proved
end Go.Proofs.Ytbldgpemocnboaa.quantBound

/- The law SearchFinds returns true at every input, and its arguments read as they did. Conditions: none. -/
import Derived.Test.YtbldgpemocnboaaRows
import Derived.Test.YtbldgpemocnboaaSeaFiW
import Derived.Test.YtbldgpemocnboaaPostS
import Derived.Test.YtbldgpemocnboaaFk1
import Derived.Test.YtbldgpemocnboaaFk2
import Derived.Test.YtbldgpemocnboaaFk3
import Derived.Test.YtbldgpemocnboaaPost
import Derived.WalkKit
import Derived.ProofKit
import Derived.OpenShut
namespace Go.Proofs.Ytbldgpemocnboaa.searchFinds
open Go.ChangeShapes Go.WideShapes Go.ChangeAt Go.RowKit
set_option linter.unusedVariables false

theorem own : ownKnob Try.prog.godebug = none := by kernel_rfl

/-- The Go text returns true; nothing that was there before has changed. -/
theorem walk (w : World) (co0 ro0 ki0 a0 b0 c0 sd0 : Int) (p0 : Option Addr) (n0 m0 : Nat) (f0 : Nat → Int) (w0 : SmallW co0 ro0 ki0 a0 b0 c0 sd0 n0 f0) (l0 : n0 ≤ maxLen) (s0 : SL w p0 n0 (u8v f0)) (a1 : Int) (w1 : (Lit.int .u8 a1).wf = true) (a2 : Int) (w2 : (Lit.int .i8 a2).wf = true) (a3 : Int) (w3 : (Lit.int .i8 a3).wf = true) :
    Calls Try.prog 11 #[smV co0 ro0 ki0 a0 b0 c0 sd0 p0 n0 m0, .int .u8 a1, .int .i8 a2, .int .i8 a3] w fun e w' => e = .returned (.bool true) ∧ Below w.heap.size w w' :=
  (searchFinds_walk co0 ro0 ki0 a0 b0 c0 sd0 p0 n0 m0 f0 a1 a2 a3 w w0 l0 s0 (wf_u8_bd w1) (wf_i8_bd w2) (wf_i8_bd w3))

set_option maxRecDepth 100000 in
theorem lifted (os : Os) (started : os.Started) (H : Type) (enc : TypeId × Value → H) :
    ReturnsInHanded {} Try.checked os 11 .any (Rows.searchFindsSpec.pre6 enc Try.prog Try.f11 Rows.searchFindsRow.domain false) (Rows.searchFindsSpec.post enc Try.prog Try.f11 false true false false) := by
  refine returnsInHanded_of_change (C := Try.checked) own started (by kernel_rfl) Try.func11
    (ChangeSpec.witness6 (enc := enc) (C := Try.checked) false ⟨#[], #[.agg #[.int .u8 0, .int .u8 0, .int .u8 0, .int .u8 0, .int .u8 0, .int .u8 0, .int .u32 0, .slice none 0 0], .int .u8 0, .int .i8 0, .int .i8 0], []⟩ 8 (by kernel_rfl) (by kernel_rfl) (by kernel_rfl) (by kernel_rfl)) ?_
  intro W base args ds gs before hval0 hW hcnd _
  have hval : ∀ (j : Nat) t v, Try.f11.params[j]? = some t → args[j]? = some v → Value.okWide Try.prog W .any base t v := hval0
  have hW' := hW
  obtain ⟨p, q, hA0, hV, rfl, hfz, hnd⟩ := hW
  have hA : DataW.TrodAll enc Try.prog W 0 (fun _ => true) true Try.f11.params.toList args.toList ds p := hA0
  rw [Try.params11] at hA hval
  obtain ⟨v0, vs0, d0, ds0, p0, q0, hargs, rfl, _, h0, r0⟩ := trodAll_cons hA
  obtain ⟨v1, vs1, d1, ds1, p1, q1, rfl, rfl, _, h1, r1⟩ := trodAll_cons r0
  obtain ⟨v2, vs2, d2, ds2, p2, q2, rfl, rfl, _, h2, r2⟩ := trodAll_cons r1
  obtain ⟨v3, vs3, d3, ds3, p3, q3, rfl, rfl, _, h3, r3⟩ := trodAll_cons r2
  obtain ⟨rfl, rfl, _⟩ := trodAll_nil r3
  obtain rfl : args = #[v0, v1, v2, v3] := by cases args; simp_all
  obtain ⟨rfl, rfl⟩ := trodVars_none hV
  have hlt := fun x hx => hW'.lt x hx
  obtain ⟨co0, ro0, ki0, a0, b0, c0, sd0, p0, n0, m0, f0, rfl, w0, l0, s0⟩ := open_smallW (hval 0 38 v0 rfl rfl) h0
  obtain ⟨a1, rfl, _, _, w1⟩ := open_int Try.underlying5 (hval 1 5 v1 rfl rfl) h1
  obtain ⟨a2, rfl, _, _, w2⟩ := open_int Try.underlying39 (hval 2 39 v2 rfl rfl) h2
  obtain ⟨a3, rfl, _, _, w3⟩ := open_int Try.underlying39 (hval 3 39 v3 rfl rfl) h3
  refine (walk W co0 ro0 ki0 a0 b0 c0 sd0 p0 n0 m0 f0 w0 l0 s0 a1 w1 a2 w2 a3 w3).mono fun e W' ⟨he, hg⟩ => ?_
  subst he
  exact ⟨_, rfl, post_of_below (pa := p) (pv := []) hW' (fun _ _ _ => (trodAll_cons_mk (shut_bool Try.underlying4 _) trodAll_mk0))
    (fun sp hsp => trodAll_stays (by kernel_rfl) hg _ _ _ _ (by kernel_rfl) hA0 (fun x hx => hlt x (by simp [hx])) (fun x hx => hsp x (by simp [hx])))
    (fun _ _ => rfl) (by simp) hg (ok_one (by kernel_rfl) rfl (okWide_bool_mk Try.underlying4 _))⟩

theorem andT {a b : Bool} (ha : a = true) (hb : b = true) : (a && b) = true := by rw [ha, hb]; rfl
/-- What the row's form asks of the program, part by part. -/
theorem closed : joinedFacts Try.prog 11 Try.f11 Rows.searchFindsSpec Rows.searchFindsRow = true := by
  unfold joinedFacts
  refine andT (andT (andT (andT (andT (andT (andT ?_ mayEnterT) liftsT) makeT) ?_) ?_) ?_) ?_
  all_goals kernel_rfl

theorem over : Rows.searchFindsRow.holds Try.pinned (OpenSpec.ofChange Rows.searchFindsSpec) :=
  OpenClaim.holds_of_wide 11 Try.f11 rfl rfl rfl rfl rfl rfl rfl ⟨rfl, rfl, rfl, rfl, rfl⟩ rfl rfl rfl rfl rfl (by kernel_rfl) Try.func11 closed
    (of_decide_eq_true (by kernel_rfl)) (by unfold Func.isWrapper; first | (rw [if_pos (by decide +kernel)]; kernel_rfl) | (rw [if_neg (by decide +kernel)]; exact ⟨rfl, rfl⟩))
    (fun os started H enc _ => lifted os started H enc)

/-- The statement. -/
theorem proved : Rows.SearchFindsSaid :=
  over
#print axioms proved
end Go.Proofs.Ytbldgpemocnboaa.searchFinds

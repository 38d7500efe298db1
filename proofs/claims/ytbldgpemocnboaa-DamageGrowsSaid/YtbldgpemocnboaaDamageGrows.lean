/- The law DamageGrows returns true at every input, and its arguments read as they did. Conditions: none. -/
import Derived.Test.YtbldgpemocnboaaRows
import Derived.Test.YtbldgpemocnboaaDamGrowW
import Derived.Test.YtbldgpemocnboaaPostB
import Derived.Test.YtbldgpemocnboaaPostM
import Derived.Test.YtbldgpemocnboaaFk1
import Derived.Test.YtbldgpemocnboaaFk2
import Derived.Test.YtbldgpemocnboaaFk3
import Derived.Test.YtbldgpemocnboaaPost
import Derived.WalkKit
import Derived.ProofKit
import Derived.OpenShut
namespace Go.Proofs.Ytbldgpemocnboaa.damageGrows
open Go.ChangeShapes Go.WideShapes Go.ChangeAt Go.RowKit
set_option linter.unusedVariables false

theorem own : ownKnob Try.prog.godebug = none := by kernel_rfl

/-- The Go text returns true; nothing that was there before has changed. -/
theorem walk (w : World) (a0 : Int) (w0 : (Lit.int .u8 a0).wf = true) (a1 : Int) (w1 : (Lit.int .u8 a1).wf = true) (p2 : Option Addr) (n2 c2 : Nat) (a2 : Nat → Bool) (l2 : n2 ≤ maxLen) (s2 : SL w p2 n2 (blv a2)) (p3 : Option Addr) (n3 c3 : Nat) (a3 : Nat → Bool) (l3 : n3 ≤ maxLen) (s3 : SL w p3 n3 (blv a3)) (a4 : Int) (w4 : (Lit.int .u8 a4).wf = true) (kd5 st5 : Int) (wx5 wy5 : Nat → Int) (wt5 ed5 : Bool) (kb5 : Nat → Int) (se5 : Int) (fa5 : Bool) (wa5 : (Lit.int .u8 kd5).wf = true) (wb5 : (Lit.int .u8 st5).wf = true) (wc5 : ∀ j, j < 4 → (Lit.int .i8 (wx5 j)).wf = true) (wd5 : ∀ j, j < 4 → (Lit.int .i8 (wy5 j)).wf = true) (we5 : ∀ j, j < 6 → (Lit.int .u64 (kb5 j)).wf = true) (wf5 : (Lit.int .u32 se5).wf = true) :
    Calls Try.prog 16 #[.int .u8 a0, .int .u8 a1, .slice p2 n2 c2, .slice p3 n3 c3, .int .u8 a4, .agg (fcells 20 (s19 kd5 st5 wx5 wy5 wt5 ed5 kb5 se5 fa5))] w fun e w' => e = .returned (.bool true) ∧ Below w.heap.size w w' :=
  (damGrow_walk a0 a1 p2 n2 c2 a2 p3 n3 c3 a3 a4 kd5 st5 wx5 wy5 wt5 ed5 kb5 se5 fa5 w (wf_u8_bd w0) (wf_u8_bd w1) l2 s2 l3 s3 (wf_u8_bd w4) (wf_u8_bd wa5) (wf_u8_bd wb5) (fun k hk => ⟨wf_i8_bd (wc5 k hk), wf_i8_bd (wd5 k hk)⟩) (fun j hj => by have := wf_u64_bd (we5 j hj); omega) (by have := wf_u32_bd wf5; omega))

set_option maxRecDepth 100000 in
theorem lifted (os : Os) (started : os.Started) (H : Type) (enc : TypeId × Value → H) :
    ReturnsInHanded {} Try.checked os 16 .any (Rows.damageGrowsSpec.pre6 enc Try.prog Try.f16 Rows.damageGrowsRow.domain false) (Rows.damageGrowsSpec.post enc Try.prog Try.f16 false true false false) := by
  refine returnsInHanded_of_change (C := Try.checked) own started (by kernel_rfl) Try.func16
    (ChangeSpec.witness6 (enc := enc) (C := Try.checked) false ⟨#[], #[.int .u8 0, .int .u8 0, .slice none 0 0, .slice none 0 0, .int .u8 0, .agg (#[.int .u8 0, .int .u8 0] ++ Array.replicate 8 (.int .i8 0) ++ #[.bool false, .bool false] ++ Array.replicate 6 (.int .u64 0) ++ #[.int .u32 0, .bool false])], []⟩ 8 (by kernel_rfl) (by kernel_rfl) (by kernel_rfl) (by kernel_rfl)) ?_
  intro W base args ds gs before hval0 hW hcnd _
  have hval : ∀ (j : Nat) t v, Try.f16.params[j]? = some t → args[j]? = some v → Value.okWide Try.prog W .any base t v := hval0
  have hW' := hW
  obtain ⟨p, q, hA0, hV, rfl, hfz, hnd⟩ := hW
  have hA : DataW.TrodAll enc Try.prog W 0 (fun _ => true) true Try.f16.params.toList args.toList ds p := hA0
  rw [Try.params16] at hA hval
  obtain ⟨v0, vs0, d0, ds0, p0, q0, hargs, rfl, _, h0, r0⟩ := trodAll_cons hA
  obtain ⟨v1, vs1, d1, ds1, p1, q1, rfl, rfl, _, h1, r1⟩ := trodAll_cons r0
  obtain ⟨v2, vs2, d2, ds2, p2, q2, rfl, rfl, _, h2, r2⟩ := trodAll_cons r1
  obtain ⟨v3, vs3, d3, ds3, p3, q3, rfl, rfl, _, h3, r3⟩ := trodAll_cons r2
  obtain ⟨v4, vs4, d4, ds4, p4, q4, rfl, rfl, _, h4, r4⟩ := trodAll_cons r3
  obtain ⟨v5, vs5, d5, ds5, p5, q5, rfl, rfl, _, h5, r5⟩ := trodAll_cons r4
  obtain ⟨rfl, rfl, _⟩ := trodAll_nil r5
  obtain rfl : args = #[v0, v1, v2, v3, v4, v5] := by cases args; simp_all
  obtain ⟨rfl, rfl⟩ := trodVars_none hV
  have hlt := fun x hx => hW'.lt x hx
  obtain ⟨a0, rfl, _, _, w0⟩ := open_int Try.underlying5 (hval 0 5 v0 rfl rfl) h0
  obtain ⟨a1, rfl, _, _, w1⟩ := open_int Try.underlying5 (hval 1 5 v1 rfl rfl) h1
  obtain ⟨p2, n2, c2, a2, rfl, l2, s2⟩ := open_slb Try.underlying55 Try.underlying4 (by kernel_rfl) (hval 2 55 v2 rfl rfl) h2
  obtain ⟨p3, n3, c3, a3, rfl, l3, s3⟩ := open_slb Try.underlying55 Try.underlying4 (by kernel_rfl) (hval 3 55 v3 rfl rfl) h3
  obtain ⟨a4, rfl, _, _, w4⟩ := open_int Try.underlying5 (hval 4 5 v4 rfl rfl) h4
  obtain ⟨kd5, st5, wx5, wy5, wt5, ed5, kb5, se5, fa5, rfl, wa5, wb5, wc5, wd5, we5, wf5⟩ := open_s19 (hval 5 124 v5 rfl rfl) h5
  refine (walk W a0 w0 a1 w1 p2 n2 c2 a2 l2 s2 p3 n3 c3 a3 l3 s3 a4 w4 kd5 st5 wx5 wy5 wt5 ed5 kb5 se5 fa5 wa5 wb5 wc5 wd5 we5 wf5).mono fun e W' ⟨he, hg⟩ => ?_
  subst he
  exact ⟨_, rfl, post_of_below (pa := p) (pv := []) hW' (fun _ _ _ => (trodAll_cons_mk (shut_bool Try.underlying4 _) trodAll_mk0))
    (fun sp hsp => trodAll_stays (by kernel_rfl) hg _ _ _ _ (by kernel_rfl) hA0 (fun x hx => hlt x (by simp [hx])) (fun x hx => hsp x (by simp [hx])))
    (fun _ _ => rfl) (by simp) hg (ok_one (by kernel_rfl) rfl (okWide_bool_mk Try.underlying4 _))⟩

theorem andT {a b : Bool} (ha : a = true) (hb : b = true) : (a && b) = true := by rw [ha, hb]; rfl
/-- What the row's form asks of the program, part by part. -/
theorem closed : joinedFacts Try.prog 16 Try.f16 Rows.damageGrowsSpec Rows.damageGrowsRow = true := by
  unfold joinedFacts
  refine andT (andT (andT (andT (andT (andT (andT ?_ mayEnterT) liftsT) makeT) ?_) ?_) ?_) ?_
  all_goals kernel_rfl

theorem over : Rows.damageGrowsRow.holds Try.pinned (OpenSpec.ofChange Rows.damageGrowsSpec) :=
  OpenClaim.holds_of_wide 16 Try.f16 rfl rfl rfl rfl rfl rfl rfl ⟨rfl, rfl, rfl, rfl, rfl⟩ rfl rfl rfl rfl rfl (by kernel_rfl) Try.func16 closed
    (of_decide_eq_true (by kernel_rfl)) (by unfold Func.isWrapper; first | (rw [if_pos (by decide +kernel)]; kernel_rfl) | (rw [if_neg (by decide +kernel)]; exact ⟨rfl, rfl⟩))
    (fun os started H enc _ => lifted os started H enc)

/-- The statement. -/
theorem proved : Rows.DamageGrowsSaid :=
  over
#print axioms proved
end Go.Proofs.Ytbldgpemocnboaa.damageGrows

/- Two arrays of ints, held against each other. Nothing of the program is named here. -/
import Derived.Test.YtbldgpemocnboaaArr
namespace Go.Proofs.Ytbldgpemocnboaa
open Go.RowKit
theorem run_part_one {P : Program} (w : World) (E : TypeId) (n : Nat) (f : Nat → Value) (i : Nat) (hA : (isAgg E).run P w = .ok false w) (hi : i < n) : (part E (fcells n f) i).run P w = .ok (f i) w := by
  simp only [part, Sem.run_bind, hA, Result.andThen_ok, fcells_get (f := f) hi]
  simp
theorem run_equalIn_arr {P : Program} (w : World) (d : Nat) (t E : TypeId) (n : Nat) (f g : Nat → Value) (e : Nat → Bool) (ht : P.underlying t = some (.array n E)) (hE : (sizeOf E).run P w = .ok 1 w)
    (hA : (isAgg E).run P w = .ok false w) (heq : ∀ i, i < n → (Op.equalIn d E (f i) (g i)).run P w = .ok (e i) w) :
    (Op.equalIn (d + 1) t (.agg (fcells n f)) (.agg (fcells n g))).run P w = .ok ((List.range n).all e) w := by
  unfold Op.equalIn
  simp only [Sem.run_bind, run_underlying ht w, Result.andThen_ok, hE, Nat.mul_one]
  rw [Std.Legacy.Range.forIn_eq_forIn_range']
  have hl : List.range' [:n].start [:n].size [:n].step = List.range n := by
    simp [Std.Legacy.Range.size, List.range_eq_range']
  rw [hl]
  have key : ∀ l : List Nat, (∀ i ∈ l, i < n) → (Sem.run P
          (forIn l ((none : Option Bool), ()) fun i __s => do
            let __do_lift ← part E (fcells n f) i
            let __do_lift_1 ← part E (fcells n g) i
            let __do_lift ← Op.equalIn d E __do_lift __do_lift_1
            if (!__do_lift) = true then pure (ForInStep.done (some false, ())) else pure (ForInStep.yield (none, ())))
          w) = .ok (if l.all e then (none, ()) else (some false, ())) w := by
    intro l
    induction l with
    | nil => intro _; simp
    | cons i l ih =>
      intro hm
      have hi := hm i (by simp)
      simp only [List.forIn_cons, Sem.run_bind, run_part_one w E n f i hA hi, run_part_one w E n g i hA hi, Result.andThen_ok, heq i hi]
      cases he : e i with
      | true =>
        simp only [Bool.not_true, Bool.false_eq_true, if_false, Sem.run_pure, Result.andThen_ok]
        rw [ih (fun j hj => hm j (by simp [hj]))]
        simp [he]
      | false =>
        simp [he]
  rw [key _ (fun i hi => by simpa using hi)]
  cases (List.range n).all e <;> simp
theorem run_eq_ints {P : Program} (w : World) (t E : TypeId) (n : Nat) (k : IntKind) (f g : Nat → Int) (ht : P.underlying t = some (.array n E)) (hu : P.underlying E = some (.int k)) (hE : (sizeOf E).run P w = .ok 1 w)
    (hA : (isAgg E).run P w = .ok false w) :
    (Op.equalIn 10000 t (.agg (fcells n fun j => .int k (f j))) (.agg (fcells n fun j => .int k (g j)))).run P w = .ok ((List.range n).all fun j => f j == g j) w :=
  run_equalIn_arr w 9999 t E n _ _ _ ht hE hA (fun i _ => run_equalIn_int w 9998 E k k (f i) (g i) hu)
end Go.Proofs.Ytbldgpemocnboaa

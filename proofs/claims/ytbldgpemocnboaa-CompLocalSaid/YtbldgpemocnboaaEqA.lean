/- == of arrays of arrays of ints. -/
import Derived.Test.YtbldgpemocnboaaArr
namespace Go.Proofs.Ytbldgpemocnboaa
open Go.RowKit
theorem fcells_extract {len m i : Nat} (f : Nat → Value) (h1 : i < len) : (fcells (len * m) f).extract (i * m) (i * m + m) = fcells m fun j => f (i * m + j) := by
  have h2 : i * m + m ≤ len * m := by
    have := Nat.mul_le_mul_right m (show i + 1 ≤ len by omega)
    rw [Nat.add_mul, Nat.one_mul] at this; exact this
  apply Array.ext_getElem?
  intro j
  rw [Array.getElem?_extract]
  by_cases h : j < m
  · rw [if_pos (by rw [fcells_size]; omega), fcells_get (by omega), fcells_get h]
  · rw [if_neg (by rw [fcells_size]; omega), Array.getElem?_eq_none (by rw [fcells_size]; omega)]
theorem run_part_arr {P : Program} (w : World) (E : TypeId) (len m : Nat) (f : Nat → Value) (i : Nat) (hE : (sizeOf E).run P w = .ok m w) (hA : (isAgg E).run P w = .ok true w) (hi : i < len) :
    (part E (fcells (len * m) f) (i * m)).run P w = .ok (.agg (fcells m fun j => f (i * m + j))) w := by
  simp only [part, Sem.run_bind, hA, hE, Result.andThen_ok, if_true, Sem.run_pure, fcells_extract f hi]
theorem run_equalIn_arrP {P : Program} (w : World) (d : Nat) (t E : TypeId) (n m : Nat) (f g : Nat → Value) (e : Nat → Bool) (ht : P.underlying t = some (.array n E)) (hE : (sizeOf E).run P w = .ok m w)
    (hA : (isAgg E).run P w = .ok true w) (heq : ∀ i, i < n → (Op.equalIn d E (.agg (fcells m fun j => f (i * m + j))) (.agg (fcells m fun j => g (i * m + j)))).run P w = .ok (e i) w) :
    (Op.equalIn (d + 1) t (.agg (fcells (n * m) f)) (.agg (fcells (n * m) g))).run P w = .ok ((List.range n).all e) w := by
  unfold Op.equalIn
  simp only [Sem.run_bind, run_underlying ht w, Result.andThen_ok, hE]
  rw [Std.Legacy.Range.forIn_eq_forIn_range']
  have hl : List.range' [:n].start [:n].size [:n].step = List.range n := by
    simp [Std.Legacy.Range.size, List.range_eq_range']
  rw [hl]
  have key : ∀ l : List Nat, (∀ i ∈ l, i < n) → (Sem.run P
          (forIn l ((none : Option Bool), ()) fun i __s => do
            let __do_lift ← part E (fcells (n * m) f) (i * m)
            let __do_lift_1 ← part E (fcells (n * m) g) (i * m)
            let __do_lift ← Op.equalIn d E __do_lift __do_lift_1
            if (!__do_lift) = true then pure (ForInStep.done (some false, ())) else pure (ForInStep.yield (none, ())))
          w) = .ok (if l.all e then (none, ()) else (some false, ())) w := by
    intro l
    induction l with
    | nil => intro _; simp
    | cons i l ih =>
      intro hm
      have hi := hm i (by simp)
      simp only [List.forIn_cons, Sem.run_bind, run_part_arr w E n m f i hE hA hi, run_part_arr w E n m g i hE hA hi, Result.andThen_ok, heq i hi]
      cases he : e i with
      | true =>
        simp only [Bool.not_true, Bool.false_eq_true, if_false, Sem.run_pure, Result.andThen_ok]
        rw [ih (fun j hj => hm j (by simp [hj]))]
        simp [he]
      | false =>
        simp [he]
  rw [key _ (fun i hi => by simpa using hi)]
  cases (List.range n).all e <;> simp
end Go.Proofs.Ytbldgpemocnboaa

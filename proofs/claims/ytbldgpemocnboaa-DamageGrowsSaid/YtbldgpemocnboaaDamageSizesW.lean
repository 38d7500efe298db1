/- The walk of the law DamageSizes: true at every input. No condition but that the arguments are ints and a bool. -/
import Derived.Test.YtbldgpemocnboaaDm
import Derived.Test.YtbldgpemocnboaaRel
namespace Go.Proofs.Ytbldgpemocnboaa
open Go.RowKit Go.Sort
attribute [local go_sem ↓] run_imax run_imin
attribute [local go_sem] yldUpon

set_option maxHeartbeats 1000000 in
theorem awake25 (w : World) :
    Calls Try.prog 74 #[] w fun e w' => e = .returned (.bool true) ∧ Below w.heap.size w w' := by
  have ht : txtB 2 (fun _ => true) 2 = ⟨#[35, 35, 10]⟩ := by decide
  go_enter Try.func74, Try.ntmps74
  go_wp2_with fail
  refine (dmNew_any _ _ true 2 1 _ (by decide) (by decide)).mono ?_
  rintro e w1 ⟨b, rfl, hbf, hB, hb⟩
  go_wp2_with fail
  refine (dmText_any 2 1 b 2 2 _ _ (by omega) (by omega) hB).mono ?_
  rw [ht]
  rintro e w2 ⟨rfl, hb2⟩
  go_wp2_with fail
  go_ret
  exact ⟨rfl, below_step hb hb2⟩

def NewS (C R : Nat) (x : Bool) (v : Value) (w : World) : Prop := ∃ b, v = dmV C R b (C * R) (C * R) ∧ VB w b 4 (C * R) (blv fun _ => x)
theorem NewS.later {C R : Nat} {x : Bool} {v : Value} {w w' : World} (h : NewS C R x v w) (hb : Below w.heap.size w w') : NewS C R x v w' := by
  obtain ⟨b, h1, h2⟩ := h; exact ⟨b, h1, h2.later hb⟩
def dszS (C R D : Nat) (x : Bool) (k : Nat) : Value → World → Prop := if k = 40 then NewS C R x else if k = 54 then NewS C R (!x) else NewS D R x
theorem dszS_later {C R D : Nat} {x : Bool} (k : Nat) (v : Value) (W W' : World) (h : dszS C R D x k v W) (hb : Below W.heap.size W W') : dszS C R D x k v W' := by
  unfold dszS at *
  split at h
  · rename_i e; rw [if_pos e]; exact h.later hb
  · rename_i e
    rw [if_neg e]
    split at h
    · rename_i e2; rw [if_pos e2]; exact h.later hb
    · rename_i e2; rw [if_neg e2]; exact h.later hb
theorem cntTo_const (x : Bool) (n : Nat) : cntTo (fun _ => x) n = if x = true then n else 0 := by
  induction n with
  | zero => simp [cntTo]
  | succ n ih => unfold cntTo; rw [ih]; split <;> simp_all
theorem eqTo_const (x y : Bool) (n : Nat) : eqTo (fun _ => x) (fun _ => y) n = (decide (n = 0) || (x == y)) := by
  induction n with
  | zero => simp [eqTo]
  | succ n ih => unfold eqTo; rw [ih]; cases x <;> cases y <;> simp

theorem dmHas_in (C R b c : Nat) (w : World) (x : Bool) (mb : Int) (h0 : 0 ≤ mb) (h1 : mb < (C : Int) * (R : Int)) (hB : VB w b 4 (C * R) (blv fun _ => x)) :
    Calls Try.prog 46 #[dmV C R b (C * R) c, .int .i64 mb] w fun e w' => e = .returned (.bool x) ∧ Below w.heap.size w w' :=
  (dmHas_any C R b (C * R) c _ mb w hB).mono fun _ _ h => ⟨h.1.trans (by unfold dmHas; simp [h0, h1]), h.2⟩
theorem dmHas_out (C R b c : Nat) (w : World) (x : Bool) (mb : Int) (h0 : mb < 0 ∨ (C : Int) * (R : Int) ≤ mb) (hB : VB w b 4 (C * R) (blv fun _ => x)) :
    Calls Try.prog 46 #[dmV C R b (C * R) c, .int .i64 mb] w fun e w' => e = .returned (.bool false) ∧ Below w.heap.size w w' :=
  (dmHas_any C R b (C * R) c _ mb w hB).mono fun _ _ h => ⟨h.1.trans (by
    unfold dmHas
    rcases h0 with h0 | h0
    · have e : decide (0 ≤ mb) = false := by simpa using h0
      rw [e]; rfl
    · have e : decide (mb < ((C * R : Nat) : Int)) = false := by simp; exact h0
      rw [e]; simp), h.2⟩
end Go.Proofs.Ytbldgpemocnboaa

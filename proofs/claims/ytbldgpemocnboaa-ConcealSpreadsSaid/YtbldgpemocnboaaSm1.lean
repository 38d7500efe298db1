/- kinescopelaw06.Small: its value; Light. -/
import Derived.Test.YtbldgpemocnboaaFr8
namespace Go.Proofs.Ytbldgpemocnboaa
open Go.RowKit Go.Sort
attribute [local go_sem ↓] run_imax run_imin

abbrev SMT : TypeId := 38
/-- A Small: its seven numbers, the slice of its samples. -/
def smC (co ro ki a b c sd : Int) (p : Option Addr) (n m : Nat) : Array Value := #[.int .u8 co, .int .u8 ro, .int .u8 ki, .int .u8 a, .int .u8 b, .int .u8 c, .int .u32 sd, .slice p n m]
def smV (co ro ki a b c sd : Int) (p : Option Addr) (n m : Nat) : Value := .agg (smC co ro ki a b c sd p n m)
theorem light_any (co ro ki a b c sd : Int) (p : Option Addr) (n m : Nat) (w : World) (hn : n ≤ maxLen) :
    Calls Try.prog 31 #[smV co ro ki a b c sd p n m] w fun e w' => e = .returned (.bool (decide (n ≤ 2000))) ∧ Below w.heap.size w w' := by
  have hn' : n ≤ 9223372036854775807 := by unfold maxLen at hn; omega
  have hd : decide ((n : Int) ≤ 2000) = decide (n ≤ 2000) := by rw [decide_eq_decide]; omega
  unfold smV smC
  by_cases h : n ≤ 2000
  · have e : decide ((n : Int) ≤ 2000) = true := by simp; omega
    have e2 : decide (n ≤ 2000) = true := by simpa using h
    rw [e2]
    clear hd e2
    go_enter Try.func31, Try.ntmps31
    go_wp2_with fail
    go_ret
    exact ⟨ret_bool (by simp), by ((repeat (first | exact Below.refl _ _ | assumption | refine Below.setCell ?_ (by first | omega | (simp; done) | (simp; omega)) _ | refine Below.alloc ?_ (by first | omega | (simp; done) | (simp; omega)) _ | refine below_drewN ?_ _ | refine Below.drew ?_ | refine below_setRow ?_ (by first | omega | (simp; done) | (simp; omega)) _)))⟩
  · have e : decide ((n : Int) ≤ 2000) = false := by simp; omega
    have e2 : decide (n ≤ 2000) = false := by simpa using h
    rw [e2]
    clear hd e2
    go_enter Try.func31, Try.ntmps31
    go_wp2_with fail
    go_ret
    exact ⟨ret_bool (by simp), by ((repeat (first | exact Below.refl _ _ | assumption | refine Below.setCell ?_ (by first | omega | (simp; done) | (simp; omega)) _ | refine Below.alloc ?_ (by first | omega | (simp; done) | (simp; omega)) _ | refine below_drewN ?_ _ | refine Below.drew ?_ | refine below_setRow ?_ (by first | omega | (simp; done) | (simp; omega)) _)))⟩
end Go.Proofs.Ytbldgpemocnboaa

/- damage.Same, Text, walked; kinescopelaw25.Awake. -/
import Derived.Test.YtbldgpemocnboaaDm1
namespace Go.Proofs.Ytbldgpemocnboaa
open Go.RowKit
attribute [local go_sem ↓] run_imax run_imin

def eqTo (f g : Nat → Bool) : Nat → Bool
  | 0 => true
  | k + 1 => eqTo f g k && (f k == g k)
theorem eqTo_not {f g : Nat → Bool} {k n : Nat} (h : (f k == g k) = false) (hk : k < n) : eqTo f g n = false := by
  induction n with
  | zero => omega
  | succ n ih =>
    unfold eqTo
    by_cases e : k = n
    · subst e; rw [h]; simp
    · rw [ih (by omega)]; simp
theorem eqTo_iff {f g : Nat → Bool} {n : Nat} : eqTo f g n = true ↔ ∀ k, k < n → f k = g k := by
  induction n with
  | zero => simp [eqTo]
  | succ n ih =>
    unfold eqTo
    rw [Bool.and_eq_true, ih, beq_iff_eq]
    constructor
    · rintro ⟨h1, h2⟩ k hk
      by_cases e : k = n
      · subst e; exact h2
      · exact h1 k (by omega)
    · intro h; exact ⟨fun k hk => h k (by omega), h n (by omega)⟩
def dmSame (C R n : Nat) (f : Nat → Bool) (C' R' n' : Nat) (g : Nat → Bool) : Bool := decide (C = C') && (decide (R = R') && (decide (n = n') && eqTo f g n))

/-- A map's text, so far. -/
def txtB (C : Nat) (f : Nat → Bool) : Nat → ByteArray
  | 0 => ⟨#[]⟩
  | k + 1 => if 0 < C ∧ (k + 1) % C = 0 then (txtB C f k ++ (if f k = true then ⟨#[35]⟩ else ⟨#[46]⟩)) ++ ⟨#[10]⟩ else txtB C f k ++ (if f k = true then ⟨#[35]⟩ else ⟨#[46]⟩)
theorem txtB_size (C : Nat) (f : Nat → Bool) (k : Nat) : (txtB C f k).size ≤ 2 * k := by
  induction k with
  | zero => exact Nat.le_refl _
  | succ k ih =>
    unfold txtB
    have h1 : (if f k = true then (⟨#[35]⟩ : ByteArray) else ⟨#[46]⟩).size = 1 := by split <;> rfl
    have h2 : (⟨#[10]⟩ : ByteArray).size = 1 := rfl
    split
    · rw [ByteArray.size_append, ByteArray.size_append, h1, h2]; omega
    · rw [ByteArray.size_append, h1]; omega

set_option maxHeartbeats 2000000 in
theorem dmText_any (C R b n c : Nat) (f : Nat → Bool) (w : World) (hn : n ≤ 64) (hC : C ≤ 8) (hB : VB w b 4 n (blv f)) :
    Calls Try.prog 115 #[dmV C R b n c] w fun e w' => e = .returned (.string (txtB C f n)) ∧ Below w.heap.size w w' := by
  have hlt := hB.lt
  unfold dmV
  go_enter Try.func115, Try.ntmps115
  unfold dmC
  go_wp2_with fail
  have HO : Ob (w.alloc (.cells (dmC C R b n c) DMT)) w.heap.size DMT (dmC C R b n c) := Ob.new_at _ _ rfl
  have hB2 := hB.alloc (.cells (dmC C R b n c) DMT)
  have HW : Below w.heap.size w (w.alloc (.cells (dmC C R b n c) DMT)) := by ((repeat (first | exact Below.refl _ _ | assumption | refine Below.setCell ?_ (by first | omega | (simp; done) | (simp; omega)) _ | refine Below.alloc ?_ (by first | omega | (simp; done) | (simp; omega)) _ | refine below_drewN ?_ _ | refine Below.drew ?_ | refine below_setRow ?_ (by first | omega | (simp; done) | (simp; omega)) _)))
  unfold dmC at HO hB2 HW
  generalize w.alloc (.cells #[.int .i64 (C : Int), .int .i64 (R : Int), .slice (some ⟨b, 0, none⟩) n c] DMT) = w2 at *
  have c3 : w2.cell? ⟨w.heap.size, 0, none⟩ = some (.int .i64 (C : Int)) := HO.cell 0 rfl
  go_loop [3, 10] (fun s i => ∃ k : Nat, k ≤ n ∧ i = .int .i64 k ∧ s = .string (txtB C f k)) (fun _ i => n - (intOf i).toNat)
  case atStart => exact ⟨0, by omega, rfl, rfl⟩
  case round =>
    obtain ⟨k, hk, rfl, rfl⟩ := hrel
    have hsz := txtB_size C f k
    by_cases hkn : k < n
    · have c1 := hB2.cell hkn
      unfold blv at c1
      have hst := Lib.hid (show txtB C f (k + 1) = if 0 < C ∧ (k + 1) % C = 0 then (txtB C f k ++ (if f k = true then ⟨#[35]⟩ else ⟨#[46]⟩)) ++ ⟨#[10]⟩ else txtB C f k ++ (if f k = true then ⟨#[35]⟩ else ⟨#[46]⟩) from rfl)
      generalize txtB C f k = T at *
      cases hfk : f k
      all_goals
        rw [hfk] at c1
        replace hfk := Lib.hid hfk
        by_cases hc0 : 0 < C
        · by_cases hcm : (k + 1) % C = 0
          · have hcm' : ((k : Int) + 1) % (C : Int) = 0 := by
              have : (((k + 1) % C : Nat) : Int) = 0 := by rw [hcm]; rfl
              simpa using this
            have h9 := Lib.hid (And.intro hc0 hcm)
            clear hcm
            go_wp2_with fail
            go_round
            case rel => exact ⟨k + 1, by omega, by go_num, by rw [hst.out, hfk.out]; simp [h9.out]⟩
            case measure => simp [intOf]; omega
          · have hcm' : ¬ ((k : Int) + 1) % (C : Int) = 0 := by
              intro h
              have : (((k + 1) % C : Nat) : Int) = 0 := by simpa using h
              exact hcm (by omega)
            have h9 := Lib.hid hcm
            clear hcm
            go_wp2_with fail
            go_round
            case rel => exact ⟨k + 1, by omega, by go_num, by rw [hst.out, hfk.out]; simp [h9.out]⟩
            case measure => simp [intOf]; omega
        · have h8 : C = 0 := by omega
          have h9 := Lib.hid hc0
          subst h8
          go_wp2_with fail
          go_round
          case rel => exact ⟨k + 1, by omega, by go_num, by rw [hst.out, hfk.out]; simp [h9.out]⟩
          case measure => simp [intOf]; omega
    · obtain rfl : k = n := by omega
      go_wp2_with fail
      go_ret
      exact ⟨rfl, HW⟩
end Go.Proofs.Ytbldgpemocnboaa

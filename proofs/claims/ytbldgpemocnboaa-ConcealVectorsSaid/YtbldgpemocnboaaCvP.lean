/- The law ConcealVectors: the nearest one, in whatever order they are asked: plain. -/
import Derived.Test.YtbldgpemocnboaaCvM
namespace Go.Proofs.Ytbldgpemocnboaa
open Go.RowKit

abbrev VP : Type := (Nat → Int) × (Nat → Int)
/-- Which vectors are known, behind k rounds. -/
def kfK (kn : Nat → Bool) (lk lw : Nat) (V : Nat → VP) (k : Nat) (i : Int) : Option VP := if 0 ≤ i ∧ i < (k : Int) ∧ i.toNat < lk ∧ kn i.toNat = true ∧ 0 < lw then some (V (i.toNat % lw)) else none
def kEnd (K : Int → Option VP) (o : VP) (i : Int) : Option VP := if i = 1000 then some o else if i = -1 then some o else K i
section
variable {kn : Nat → Bool} {lk lw k : Nat} {V : Nat → VP}
theorem kfK_zero (i : Int) : kfK kn lk lw V 0 i = none := by unfold kfK; rw [if_neg (by omega)]
theorem kfK_no (h : ¬ (k < lk ∧ kn k = true ∧ 0 < lw)) (i : Int) : kfK kn lk lw V k i = kfK kn lk lw V (k + 1) i := by
  unfold kfK
  by_cases e : i = (k : Int)
  · subst e
    rw [if_neg (by omega), if_neg (by rintro ⟨_, _, h1, h2, h3⟩; rw [Int.toNat_natCast] at h1 h2; exact h ⟨h1, h2, h3⟩)]
  · by_cases h2 : 0 ≤ i ∧ i < (k : Int) ∧ i.toNat < lk ∧ kn i.toNat = true ∧ 0 < lw
    · rw [if_pos h2, if_pos ⟨h2.1, by omega, h2.2.2⟩]
    · rw [if_neg h2, if_neg (fun h3 => h2 ⟨h3.1, by omega, h3.2.2⟩)]
theorem kfK_yes (h : k < lk ∧ kn k = true ∧ 0 < lw) (i : Int) : updM (mapV (kfK kn lk lw V k)) (k : Int) (vV (V (k % lw))) i = mapV (kfK kn lk lw V (k + 1)) i := by
  unfold updM mapV kfK
  by_cases e : i = (k : Int)
  · subst e
    rw [if_pos rfl, if_pos ⟨by omega, by omega, by rw [Int.toNat_natCast]; exact h⟩, Int.toNat_natCast]; rfl
  · rw [if_neg e]
    by_cases h2 : 0 ≤ i ∧ i < (k : Int) ∧ i.toNat < lk ∧ kn i.toNat = true ∧ 0 < lw
    · rw [if_pos h2, if_pos ⟨h2.1, by omega, h2.2.2⟩]
    · rw [if_neg h2, if_neg (fun h3 => h2 ⟨h3.1, by omega, h3.2.2⟩)]
theorem kEnd_is (K : Int → Option VP) (o : VP) (i : Int) : updM (updM (mapV K) (-1) (vV o)) 1000 (vV o) i = mapV (kEnd K o) i := by
  unfold updM mapV kEnd
  by_cases e : i = 1000
  · rw [if_pos e, if_pos e]; rfl
  · rw [if_neg e, if_neg e]
    by_cases e2 : i = -1
    · rw [if_pos e2, if_pos e2]; rfl
    · rw [if_neg e2, if_neg e2]
theorem kEnd_in {K : Int → Option VP} {o : VP} {i : Nat} (h : i < 1000) : kEnd K o (i : Int) = K (i : Int) := by
  unfold kEnd; rw [if_neg (by omega), if_neg (by omega)]
end
section
variable (K : Int → Option VP) (B : Nat → Bool) (C N : Nat)
/-- How many rows below. -/
def stpD (i : Nat) : Int := ((i / C : Nat) : Int) - ((N / C : Nat) : Int)
def awayD (D : Int) : Int := 2 * imax D (-D) + (if 0 < D then 1 else 0)
def condV (i : Nat) : Prop := (∃ p, K (i : Int) = some p) ∧ B i = false ∧ i % C = N % C ∧ stpD C N i ≠ 0
def InvV (k : Nat) (x y F : Int) : Prop :=
  (F = 1000 ∧ x = 0 ∧ y = 0 ∧ ∀ i, i < k → ¬ condV K B C N i) ∨
  ∃ i, i < k ∧ condV K B C N i ∧ (∃ p, K (i : Int) = some p ∧ x = p.1 3 ∧ y = p.2 3) ∧ F = awayD (stpD C N i) ∧ ∀ j, j < k → condV K B C N j → F ≤ awayD (stpD C N j)
end
section
variable {K : Int → Option VP} {B : Nat → Bool} {C R M N k : Nat} {x y F : Int}
theorem InvV.start : InvV K B C N 0 0 0 1000 := Or.inl ⟨rfl, rfl, rfl, fun i h => by omega⟩
theorem InvV.no (h : InvV K B C N k x y F) (hc : ¬ condV K B C N k) : InvV K B C N (k + 1) x y F := by
  rcases h with ⟨h1, h2, h3, h4⟩ | ⟨i, h1, h2, h3, h4, h5⟩
  · exact Or.inl ⟨h1, h2, h3, fun i hi => by
      by_cases e : i = k
      · subst e; exact hc
      · exact h4 i (by omega)⟩
  · exact Or.inr ⟨i, by omega, h2, h3, h4, fun j hj hcj => by
      by_cases e : j = k
      · subst e; exact (hc hcj).elim
      · exact h5 j (by omega) hcj⟩
theorem InvV.far (h : InvV K B C N k x y F) (hf : ¬ awayD (stpD C N k) < F) (hb : awayD (stpD C N k) < 1000) : InvV K B C N (k + 1) x y F := by
  rcases h with ⟨h1, _⟩ | ⟨i, h1, h2, h3, h4, h5⟩
  · omega
  · exact Or.inr ⟨i, by omega, h2, h3, h4, fun j hj hcj => by
      by_cases e : j = k
      · subst e; omega
      · exact h5 j (by omega) hcj⟩
theorem InvV.near (h : InvV K B C N k x y F) {p : VP} (hp : K (k : Int) = some p) (hc : condV K B C N k) (hf : awayD (stpD C N k) < F) : InvV K B C N (k + 1) (p.1 3) (p.2 3) (awayD (stpD C N k)) := by
  refine Or.inr ⟨k, by omega, hc, ⟨p, hp, rfl, rfl⟩, rfl, fun j hj hcj => ?_⟩
  by_cases e : j = k
  · subst e; exact Int.le_refl _
  · rcases h with ⟨_, _, _, h4⟩ | ⟨i, h1, h2, h3, h4, h5⟩
    · exact (h4 j (by omega) hcj).elim
    · have := h5 j (by omega) hcj; omega
theorem goodV_nat {i : Nat} {p : VP} (hi : i < M) (hp : K (i : Int) = some p) (hB : B i = false) : goodV K B M (i : Int) = some (p.1 3, p.2 3) := by
  unfold goodV; rw [hp]
  show (if _ then _ else _) = _
  rw [if_pos ⟨by omega, by omega, by rw [Int.toNat_natCast]; exact hB⟩]
theorem goodV_inv {n : Int} {v : Int × Int} (h : goodV K B M n = some v) : ∃ p, K n = some p ∧ 0 ≤ n ∧ n < M ∧ B n.toNat = false ∧ v = (p.1 3, p.2 3) := by
  unfold goodV at h
  split at h
  · rename_i p hp
    split at h
    · rename_i hc; exact ⟨p, hp, hc.1, hc.2.1, hc.2.2, (Option.some.inj h).symm⟩
    · cases h
  · cases h
theorem dm_of {i u r : Nat} (hC : 0 < C) (hr : r < C) (e : i = C * u + r) : i / C = u ∧ i % C = r := by
  subst e
  rw [Nat.mul_add_div hC, Nat.div_eq_of_lt hr, Nat.mul_add_mod, Nat.mod_eq_of_lt hr]; exact ⟨rfl, rfl⟩
/-- A place that is asked, of one of the column. -/
theorem cand_cond (_hC : 0 < C) (hMe : C * R = M) (hN : N < M) {i : Nat} (hi : i < M) (hc : condV K B C N i) : ∃ a : Nat, awayD (stpD C N i) = (a : Int) ∧ 2 ≤ a ∧ a < 2 * R ∧ cand C N a = (i : Int) := by
  obtain ⟨_, _, hm, hs⟩ := hc
  have ei := Nat.div_add_mod i C
  have eN := Nat.div_add_mod N C
  have ui : i / C < R := Nat.div_lt_of_lt_mul (by omega)
  have uN : N / C < R := Nat.div_lt_of_lt_mul (by omega)
  rw [hm] at ei
  unfold stpD at hs ⊢
  generalize i / C = u at *
  generalize N / C = v at *
  generalize N % C = r at *
  unfold awayD
  rw [imax_eq]
  by_cases h : u < v
  · obtain ⟨s, rfl⟩ : ∃ s, v = u + s := ⟨v - u, by omega⟩
    refine ⟨2 * s, ?_, by omega, by omega, ?_⟩
    · rw [if_neg (by omega)]; omega
    · unfold cand
      rw [if_pos (by omega), show 2 * s / 2 = s by omega, ← ei, ← eN]
      push_cast
      rw [Int.mul_add, Int.mul_comm (s : Int)]; omega
  · obtain ⟨s, rfl⟩ : ∃ s, u = v + s := ⟨u - v, by omega⟩
    refine ⟨2 * s + 1, ?_, by omega, by omega, ?_⟩
    · rw [if_pos (by omega)]; omega
    · unfold cand
      rw [if_neg (by omega), show (2 * s + 1) / 2 = s by omega, ← ei, ← eN]
      push_cast
      rw [Int.mul_add, Int.mul_comm (s : Int)]; omega
/-- One of the column, of a place that is asked and has anything. -/
theorem cond_cand (hC : 0 < C) {a : Nat} (ha : 2 ≤ a) {v : Int × Int} (h : goodV K B M (cand C N a) = some v) : ∃ (i : Nat) (p : VP), i < M ∧ K (i : Int) = some p ∧ condV K B C N i ∧ awayD (stpD C N i) = (a : Int) ∧ v = (p.1 3, p.2 3) := by
  obtain ⟨p, hp, h0, h1, hB, hv⟩ := goodV_inv h
  obtain ⟨i, hi⟩ : ∃ i : Nat, cand C N a = (i : Int) := ⟨(cand C N a).toNat, by omega⟩
  rw [hi] at hp h1 hB
  rw [Int.toNat_natCast] at hB
  have eN := Nat.div_add_mod N C
  have hr := Nat.mod_lt N hC
  obtain ⟨s, hs⟩ : ∃ s, a / 2 = s := ⟨_, rfl⟩
  unfold cand at hi
  rw [hs] at hi
  have key : i % C = N % C ∧ stpD C N i ≠ 0 ∧ awayD (stpD C N i) = (a : Int) := by
    unfold stpD
    generalize hu : N / C = u at *
    generalize hrr : N % C = r at *
    by_cases e : a % 2 = 0
    · rw [if_pos e] at hi
      have hle : s ≤ u := by
        rcases Nat.lt_or_ge u s with hlt | hge
        · exfalso
          have h3 : C * (u + 1) ≤ C * s := Nat.mul_le_mul_left C hlt
          have h4 : (i : Int) + ((C * s : Nat) : Int) = (N : Int) := by push_cast; rw [Int.mul_comm (C : Int)]; omega
          rw [Nat.mul_add] at h3
          omega
        · exact hge
      obtain ⟨t, rfl⟩ : ∃ t, u = t + s := ⟨u - s, by omega⟩
      have h4 : (i : Int) + ((C * s : Nat) : Int) = (N : Int) := by push_cast; rw [Int.mul_comm (C : Int)]; omega
      rw [Nat.mul_add] at eN
      obtain ⟨d1, d2⟩ := dm_of (i := i) (u := t) hC hr (by omega)
      rw [d1, d2]
      refine ⟨rfl, by omega, ?_⟩
      unfold awayD; rw [imax_eq, if_neg (by omega)]; omega
    · rw [if_neg e] at hi
      have h4 : (i : Int) = (N : Int) + ((C * s : Nat) : Int) := by push_cast; rw [Int.mul_comm (C : Int)]; omega
      obtain ⟨d1, d2⟩ := dm_of (i := i) (u := u + s) hC hr (by rw [Nat.mul_add]; omega)
      rw [d1, d2]
      refine ⟨rfl, by omega, ?_⟩
      unfold awayD; rw [imax_eq, if_pos (by omega)]; omega
  exact ⟨i, p, by omega, hp, ⟨⟨p, hp⟩, hB, key.1, key.2.1⟩, key.2.2, hv⟩
/-- The plain law. -/
theorem InvV.fin (hC : 0 < C) (hMe : C * R = M) (hN : N < M) (h : InvV K B C N M x y F) : seekV K B M C N (2 * R - 2) 2 = (x, y) := by
  rcases h with ⟨_, rfl, rfl, h4⟩ | ⟨i, h1, h2, ⟨p, hp, rfl, rfl⟩, h4, h5⟩
  · refine seekV_all _ _ fun a ha _ => ?_
    cases hg : goodV K B M (cand C N a) with
    | none => rfl
    | some v =>
      obtain ⟨i, p, hi, _, hc, _⟩ := cond_cand hC ha hg
      exact (h4 i hi hc).elim
  · obtain ⟨a, e1, e2, e3, e4⟩ := cand_cond hC hMe hN h1 h2
    refine seekV_at _ _ a _ e2 (by omega) (by rw [e4]; exact goodV_nat h1 hp h2.2.1) fun z hz1 hz2 => ?_
    cases hg : goodV K B M (cand C N z) with
    | none => rfl
    | some v =>
      obtain ⟨j, q, hj, _, hc, ha, _⟩ := cond_cand hC hz1 hg
      have := h5 j hj hc
      omega
end
end Go.Proofs.Ytbldgpemocnboaa

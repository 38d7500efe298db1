/- The document's answer of what one is made of, sample by sample: plain. -/
import Derived.Test.YtbldgpemocnboaaRea
namespace Go.Proofs.Ytbldgpemocnboaa
open Go.RowKit

section
variable (c r mb : Nat) (X Y : Nat → Int)
/-- The first sample, as far as it goes; whether there is a half. -/
def fX (k : Nat) : Int := (2 * (fz c r).px mb k + vk X k) / 2
def fY (k : Nat) : Int := (2 * (fz c r).py mb k + vk Y k) / 2
def gH (X : Nat → Int) (k : Nat) : Nat := (vk X k % 2).toNat
def clX (k : Nat) (v : Int) : Int := imin (imax v 0) ((szb k : Int) * c - 1)
def clY (k : Nat) (v : Int) : Int := imin (imax v 0) ((szb k : Int) * r - 1)
def mbS (k : Nat) (t u : Int) : Nat := (clY r k u).toNat / szb k * c + (clX c k t).toNat / szb k
def smpAt (k i j h : Nat) : Nat := mbS c r k (fX c r mb X k + (i % 8 : Nat) + h) (fY c r mb Y k + (i / 8 : Nat) + j)
def smp (k z : Nat) : Prop := ∃ i, i < 64 ∧ ∃ j h : Nat, j ≤ gH Y k ∧ h ≤ gH X k ∧ z = smpAt c r mb X Y k i j h
def sK (k z : Nat) : Prop := ∃ q, q < k ∧ smp c r mb X Y q z
def sI (k i z : Nat) : Prop := sK c r mb X Y k z ∨ ∃ q, q < i ∧ ∃ j h : Nat, j ≤ gH Y k ∧ h ≤ gH X k ∧ z = smpAt c r mb X Y k q j h
def sJ (k i j z : Nat) : Prop := sI c r mb X Y k i z ∨ ∃ q, q < j ∧ ∃ h : Nat, h ≤ gH X k ∧ z = smpAt c r mb X Y k i q h
def sH (k i j h z : Nat) : Prop := sJ c r mb X Y k i j z ∨ ∃ q, q < h ∧ z = smpAt c r mb X Y k i j q
end
section
variable {c r mb : Nat} {X Y : Nat → Int} {k i j h z : Nat}
theorem sK_zero : ¬ sK c r mb X Y 0 z := fun ⟨q, hq, _⟩ => by omega
theorem sI_zero : sI c r mb X Y k 0 z ↔ sK c r mb X Y k z := ⟨fun h => h.elim id fun ⟨q, hq, _⟩ => by omega, Or.inl⟩
theorem sJ_zero : sJ c r mb X Y k i 0 z ↔ sI c r mb X Y k i z := ⟨fun h => h.elim id fun ⟨q, hq, _⟩ => by omega, Or.inl⟩
theorem sH_zero : sH c r mb X Y k i j 0 z ↔ sJ c r mb X Y k i j z := ⟨fun h => h.elim id fun ⟨q, hq, _⟩ => by omega, Or.inl⟩
theorem sH_step : sH c r mb X Y k i j (h + 1) z ↔ (sH c r mb X Y k i j h z ∨ z = smpAt c r mb X Y k i j h) := by
  unfold sH
  constructor
  · rintro (h1 | ⟨q, hq, h2⟩)
    · exact Or.inl (Or.inl h1)
    · by_cases e : q = h
      · subst e; exact Or.inr h2
      · exact Or.inl (Or.inr ⟨q, by omega, h2⟩)
  · rintro ((h1 | ⟨q, hq, h2⟩) | h1)
    · exact Or.inl h1
    · exact Or.inr ⟨q, by omega, h2⟩
    · exact Or.inr ⟨h, by omega, h1⟩
theorem sH_last (e : h = gH X k + 1) : sH c r mb X Y k i j h z ↔ sJ c r mb X Y k i (j + 1) z := by
  unfold sH sJ
  constructor
  · rintro ((h1 | ⟨q, hq, h2⟩) | ⟨q, hq, h2⟩)
    · exact Or.inl h1
    · exact Or.inr ⟨q, by omega, h2⟩
    · exact Or.inr ⟨j, by omega, q, by omega, h2⟩
  · rintro (h1 | ⟨q, hq, p, hp, h2⟩)
    · exact Or.inl (Or.inl h1)
    · by_cases e2 : q = j
      · subst e2; exact Or.inr ⟨p, by omega, h2⟩
      · exact Or.inl (Or.inr ⟨q, by omega, p, hp, h2⟩)
theorem sJ_last (e : j = gH Y k + 1) : sJ c r mb X Y k i j z ↔ sI c r mb X Y k (i + 1) z := by
  unfold sJ sI
  constructor
  · rintro ((h1 | ⟨q, hq, h2⟩) | ⟨q, hq, p, hp, h2⟩)
    · exact Or.inl h1
    · exact Or.inr ⟨q, by omega, h2⟩
    · exact Or.inr ⟨i, by omega, q, p, by omega, hp, h2⟩
  · rintro (h1 | ⟨q, hq, j', h', hj, hh, h2⟩)
    · exact Or.inl (Or.inl h1)
    · by_cases e2 : q = i
      · subst e2; exact Or.inr ⟨j', by omega, h', hh, h2⟩
      · exact Or.inl (Or.inr ⟨q, by omega, j', h', hj, hh, h2⟩)
theorem sI_last : sI c r mb X Y k 64 z ↔ sK c r mb X Y (k + 1) z := by
  unfold sI sK
  constructor
  · rintro (⟨q, hq, h1⟩ | h1)
    · exact ⟨q, by omega, h1⟩
    · exact ⟨k, by omega, h1⟩
  · rintro ⟨q, hq, h1⟩
    by_cases e : q = k
    · subst e; exact Or.inr h1
    · exact Or.inl ⟨q, by omega, h1⟩
theorem gH_le (X : Nat → Int) (k : Nat) : gH X k ≤ 1 ∧ ((gH X k : Nat) : Int) = vk X k % 2 := by unfold gH; omega
theorem szc (hc : 0 < c) (k : Nat) : 8 ≤ (szb k : Int) * c := by rcases szb_or k with h | h <;> rw [h] <;> omega
/-- What the document's answer reckons, of one sample. -/
theorem fl_x (t : Nat) : (2 * ((fz c r).px mb k + (t : Int)) + vk X k) / 2 = fX c r mb X k + t ∧ (2 * ((fz c r).px mb k + (t : Int)) + vk X k) % 2 = (gH X k : Nat) := by
  rw [(gH_le X k).2]; unfold fX; omega
theorem fl_y (t : Nat) : (2 * ((fz c r).py mb k + (t : Int)) + vk Y k) / 2 = fY c r mb Y k + t ∧ (2 * ((fz c r).py mb k + (t : Int)) + vk Y k) % 2 = (gH Y k : Nat) := by
  rw [(gH_le Y k).2]; unfold fY; omega
theorem clX_bd (hc : 0 < c) (k : Nat) (v : Int) : 0 ≤ clX c k v ∧ clX c k v ≤ (szb k : Int) * c - 1 := by
  have := szc hc k
  unfold clX; rw [imin_eq, imax_eq]; omega
theorem clX_mono (k : Nat) {u v : Int} (h : u ≤ v) : clX c k u ≤ clX c k v ∧ clX c k v ≤ clX c k u + (v - u) := by
  unfold clX; simp only [imin_eq, imax_eq]; omega
theorem clX_first (hc : 0 < c) : tx0 c r mb X k = clX c k (fX c r mb X k) := by
  have := szc hc k
  unfold tx0 spanLo clX fX; rw [imax_eq (_ - 1) 0, Int.max_eq_left (by omega)]
theorem clX_last (hc : 0 < c) : tx1 c r mb X k = clX c k (fX c r mb X k + 7 + (gH X k : Nat)) := by
  have := szc hc k
  unfold tx1 spanHi clX fX; rw [imax_eq (_ - 1) 0, Int.max_eq_left (by omega), (gH_le X k).2]
theorem clY_first (hr : 0 < r) : ty0 c r mb Y k = clY r k (fY c r mb Y k) := by
  have := szc hr k
  unfold ty0 spanLo clY fY; rw [imax_eq (_ - 1) 0, Int.max_eq_left (by omega)]
theorem clY_last (hr : 0 < r) : ty1 c r mb Y k = clY r k (fY c r mb Y k + 7 + (gH Y k : Nat)) := by
  have := szc hr k
  unfold ty1 spanHi clY fY; rw [imax_eq (_ - 1) 0, Int.max_eq_left (by omega), (gH_le Y k).2]
theorem q_mono {u v : Int} {s : Nat} (h : u ≤ v) : u.toNat / s ≤ v.toNat / s := Nat.div_le_div_right (by omega)
theorem q_near {u v : Int} {s : Nat} (hs : s = 16 ∨ s = 8) (h0 : 0 ≤ u) (h1 : u ≤ v) (h2 : v ≤ u + 8) : v.toNat / s ≤ u.toNat / s + 1 := by rcases hs with rfl | rfl <;> omega
theorem smp_box (hc : 0 < c) (hr : 0 < r) : smp c r mb X Y k z ↔ inBox c r mb X Y k z := by
  have g1 := gH_le X k; have g2 := gH_le Y k
  have e1 := clX_first (c := c) (r := r) (mb := mb) (X := X) (k := k) hc
  have e2 := clX_last (c := c) (r := r) (mb := mb) (X := X) (k := k) hc
  have e3 := clY_first (c := c) (r := r) (mb := mb) (Y := Y) (k := k) hr
  have e4 := clY_last (c := c) (r := r) (mb := mb) (Y := Y) (k := k) hr
  constructor
  · rintro ⟨i, hi, j, h, hj, hh, rfl⟩
    refine ⟨_, _, ⟨?_, ?_⟩, ⟨?_, ?_⟩, rfl⟩
    · rw [e3]; exact q_mono (clX_mono k (by omega)).1
    · rw [e4]; exact q_mono (clX_mono k (by omega)).1
    · rw [e1]; exact q_mono (clX_mono k (by omega)).1
    · rw [e2]; exact q_mono (clX_mono k (by omega)).1
  · rintro ⟨j, i, ⟨h1, h2⟩, ⟨h3, h4⟩, rfl⟩
    have n1 := q_near (szb_or k) (clX_bd hc k _).1 (clX_mono (c := c) k (show fX c r mb X k ≤ fX c r mb X k + 7 + (gH X k : Nat) by omega)).1 (by have := (clX_mono (c := c) k (show fX c r mb X k ≤ fX c r mb X k + 7 + (gH X k : Nat) by omega)).2; omega)
    have n2 := q_near (szb_or k) (clX_bd (c := r) hr k _).1 (clX_mono (c := r) k (show fY c r mb Y k ≤ fY c r mb Y k + 7 + (gH Y k : Nat) by omega)).1 (by have := (clX_mono (c := r) k (show fY c r mb Y k ≤ fY c r mb Y k + 7 + (gH Y k : Nat) by omega)).2; omega)
    rw [← e1, ← e2] at n1
    change (clY r k _).toNat / _ ≤ (clY r k _).toNat / _ + 1 at n2
    rw [← e3, ← e4] at n2
    have hx : ∃ t h : Nat, t < 8 ∧ h ≤ gH X k ∧ (clX c k (fX c r mb X k + (t : Nat) + h)).toNat / szb k = i := by
      rcases (show i = (tx0 c r mb X k).toNat / szb k ∨ i = (tx1 c r mb X k).toNat / szb k by omega) with e | e
      · exact ⟨0, 0, by omega, by omega, by rw [e, e1]; simp⟩
      · exact ⟨7, gH X k, by omega, by omega, by rw [e, e2]; rfl⟩
    have hy : ∃ t h : Nat, t < 8 ∧ h ≤ gH Y k ∧ (clY r k (fY c r mb Y k + (t : Nat) + h)).toNat / szb k = j := by
      rcases (show j = (ty0 c r mb Y k).toNat / szb k ∨ j = (ty1 c r mb Y k).toNat / szb k by omega) with e | e
      · exact ⟨0, 0, by omega, by omega, by rw [e, e3]; simp⟩
      · exact ⟨7, gH Y k, by omega, by omega, by rw [e, e4]; rfl⟩
    obtain ⟨t, h, ht, hh, rfl⟩ := hx
    obtain ⟨u, j', hu, hj, rfl⟩ := hy
    refine ⟨8 * u + t, by omega, j', h, hj, hh, ?_⟩
    unfold smpAt mbS
    rw [show (8 * u + t) % 8 = t by omega, show (8 * u + t) / 8 = u by omega]
theorem sK_touched (hc : 0 < c) (hr : 0 < r) : sK c r mb X Y 5 z ↔ touched c r mb X Y z := by
  constructor
  · rintro ⟨q, hq, h⟩; exact ⟨q, hq, (smp_box hc hr).1 h⟩
  · rintro ⟨q, hq, h⟩; exact ⟨q, hq, (smp_box hc hr).2 h⟩
theorem nat_rowR {q c col r : Nat} (hq : q < r) (hcol : col < c) : q * c + col < c * r := by
  have : (q + 1) * c ≤ r * c := Nat.mul_le_mul_right _ hq
  rw [Nat.add_mul, Nat.one_mul] at this
  rw [Nat.mul_comm c r]; omega
theorem smpAt_lt (hc : 0 < c) (hr : 0 < r) : smpAt c r mb X Y k i j h < c * r := by
  have b1 := clX_bd hc k (fX c r mb X k + (i % 8 : Nat) + h)
  have b2 := clX_bd (c := r) hr k (fY c r mb Y k + (i / 8 : Nat) + j)
  have q1 := q_lt (szb_or k) b1.1 b1.2
  have q2 := q_lt (szb_or k) b2.1 b2.2
  unfold smpAt mbS
  exact nat_rowR q2 q1
/-- A column as it counts. -/
def colV (k : Nat) (a : Int) : Int := if k = 4 then 2 * a + 1 else a
theorem colV_step : reachTo c r mb X (k + 1) = imax (reachTo c r mb X k) (colV k (tx1 c r mb X k)) := rfl
theorem colV_le (hc : 0 < c) (h : i % 8 ≤ 7) (hh : j ≤ gH X k) : colV k (clX c k (fX c r mb X k + (i % 8 : Nat) + j)) ≤ colV k (tx1 c r mb X k) := by
  have e2 := clX_last (c := c) (r := r) (mb := mb) (X := X) (k := k) hc
  have := (clX_mono (c := c) k (show fX c r mb X k + (i % 8 : Nat) + j ≤ fX c r mb X k + 7 + (gH X k : Nat) by omega)).1
  rw [← e2] at this
  unfold colV; split <;> omega
theorem colV_hit (hc : 0 < c) : colV k (clX c k (fX c r mb X k + (7 % 8 : Nat) + (gH X k : Nat))) = colV k (tx1 c r mb X k) := by
  rw [clX_last (c := c) (r := r) (mb := mb) (X := X) (k := k) hc]; rfl
end
end Go.Proofs.Ytbldgpemocnboaa

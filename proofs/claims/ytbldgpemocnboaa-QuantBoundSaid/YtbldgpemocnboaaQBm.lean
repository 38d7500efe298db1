/- The plain law of QuantBound: levels, numbers, back: no sample is farther than the bound. -/
import Derived.Test.YtbldgpemocnboaaQLev
import Derived.Test.YtbldgpemocnboaaHadN
namespace Go.Proofs.Ytbldgpemocnboaa
open Go.RowKit

def ab (x : Int) : Int := (x.natAbs : Int)
theorem sg_ab (u x : Nat) (hu : u < 8) (hx : x < 8) (a : Int) : -(ab a) ≤ sg u x * a ∧ sg u x * a ≤ ab a := by
  unfold ab
  rcases sg_or u hu x hx with h | h <;> rw [h] <;> omega
theorem bak8_ab (a : Nat → Int) (x : Nat) (hx : x < 8) : -(sum8 fun j => ab (a j)) ≤ bak8 a x ∧ bak8 a x ≤ sum8 fun j => ab (a j) := by
  have h0 := sg_ab 0 x (by omega) hx (a 0); have h1 := sg_ab 1 x (by omega) hx (a 1); have h2 := sg_ab 2 x (by omega) hx (a 2); have h3 := sg_ab 3 x (by omega) hx (a 3)
  have h4 := sg_ab 4 x (by omega) hx (a 4); have h5 := sg_ab 5 x (by omega) hx (a 5); have h6 := sg_ab 6 x (by omega) hx (a 6); have h7 := sg_ab 7 x (by omega) hx (a 7)
  simp only [bak8, sum8]
  omega
theorem ab_bak8 (a : Nat → Int) (x : Nat) (hx : x < 8) : ab (bak8 a x) ≤ sum8 fun j => ab (a j) := by
  have := bak8_ab a x hx
  generalize (sum8 fun j => ab (a j)) = s at *
  unfold ab; omega
theorem sum8_le {g h : Nat → Int} (e : ∀ j, j < 8 → g j ≤ h j) : sum8 g ≤ sum8 h := by
  have := e 0 (by omega); have := e 1 (by omega); have := e 2 (by omega); have := e 3 (by omega)
  have := e 4 (by omega); have := e 5 (by omega); have := e 6 (by omega); have := e 7 (by omega)
  simp only [sum8]; omega
theorem bb_ab (d : Nat → Int) (k : Nat) (hk : k < 64) : ab (backF (backF d) k) ≤ ssum (fun j => ab (d j)) 64 := by
  have e : k = 8 * (k / 8) + k % 8 := by omega
  rw [e, bbF_at d (k % 8) (k / 8) (by omega), ssum_64]
  exact Int.le_trans (ab_bak8 _ _ (by omega)) (sum8_le fun j _ => ab_bak8 _ _ (by omega))
theorem bak8_add (a b : Nat → Int) (u : Nat) : bak8 (fun j => a j + b j) u = bak8 a u + bak8 b u := by
  rw [bak8_sum, bak8_sum, bak8_sum, sum8_add]; exact sum8_congr fun j _ => Int.mul_add _ _ _
theorem bb_add (f g : Nat → Int) (k : Nat) : backF (backF (fun j => f j + g j)) k = backF (backF f) k + backF (backF g) k := by
  unfold backF
  rw [bak_congr (fun j _ => bak8_add _ _ _), bak8_add]
theorem ssum_le {g h : Nat → Int} : ∀ n, (∀ j, j < n → g j ≤ h j) → ssum g n ≤ ssum h n
  | 0, _ => Int.le_refl _
  | n + 1, e => by
    have := ssum_le n (fun j hj => e j (by omega))
    have := e n (by omega)
    show ssum g n + g n ≤ ssum h n + h n
    omega
section
variable {t : Bool} {ia ir : Nat → Int} {q : Int} {intra : Bool}
/-- How far a number is from what it was, at most. -/
def qe (t : Bool) (ia ir : Nat → Int) (q : Int) (intra : Bool) (k : Nat) : Int := if k = 0 ∧ intra = true then qfirst (imin (imax q 1) 31) / 2 else qstep t ia ir q k intra - 1
theorem qsum_ssum : ∀ n, qsum t ia ir q intra n = ssum (qe t ia ir q intra) n + 32
  | 0 => rfl
  | n + 1 => by
    show qsum t ia ir q intra n + _ = ssum (qe t ia ir q intra) n + qe t ia ir q intra n + 32
    rw [qsum_ssum n]
    show _ + (if n = 0 ∧ intra = true then _ else _) = _ + (if n = 0 ∧ intra = true then _ else _) + 32
    omega
/-- A number that isn't the first, there and back. -/
theorem num_near {c s : Int} (hs : 8 ≤ s ∧ s ≤ 7905) (hc : -16320 ≤ c ∧ c ≤ 16320) : ab (qbk (qlev c s) s - c) ≤ s - 1 := by
  have h := near_step c s (by omega) (by omega) (by omega) (by omega)
  unfold qbk qlev ab; omega
theorem lev_is {c s : Int} (hs : 8 ≤ s ∧ s ≤ 7905) (hc : -16320 ≤ c ∧ c ≤ 16320) : qlev c s = c.tdiv s := by
  unfold qlev
  have e : imax s 1 = s := by rw [imax_eq]; omega
  rw [e]
  have h1 : -2040 ≤ c.tdiv s ∧ c.tdiv s ≤ 2040 := by
    have key : ∀ m : Int, 0 ≤ m → m ≤ 16320 → 0 ≤ m / s ∧ m / s ≤ 2040 := fun m h0 h1 => ⟨Int.ediv_nonneg h0 (by omega), by
      have := Int.ediv_lt_of_lt_mul (a := m) (b := 2041) (c := s) (by omega) (by omega)
      omega⟩
    rcases (show 0 ≤ c ∨ c < 0 by omega) with h0 | h0
    · rw [Int.tdiv_eq_ediv_of_nonneg h0]; have := key c h0 hc.2; omega
    · have e4 : c.tdiv s = -(-c / s) := by
        rw [← Int.tdiv_eq_ediv_of_nonneg (show 0 ≤ -c by omega), Int.neg_tdiv, Int.neg_neg]
      rw [e4]; have := key (-c) (by omega) (by omega); omega
  rw [imin_eq, imax_eq]; omega
/-- The first number, there and back. -/
theorem fst_near {c q : Int} (hc : 0 ≤ c ∧ c ≤ 16320) : ab (fbk (flev c q) q - c) ≤ qfirst (imin (imax q 1) 31) / 2 := by
  have hF := qfirst_bd _ (qp_bd q).2
  have h := first_near c (qfirst (imin (imax q 1) 31)) hF.1 hF.2 hc.1 (by omega)
  have e : imax c 0 = c := by rw [imax_eq]; omega
  unfold fbk flev
  rw [e]
  unfold ab; omega
theorem flev_bd (c q : Int) : 0 ≤ flev c q ∧ flev c q ≤ 127 := by
  have hF := qfirst_bd _ (qp_bd q).2
  have h0 : 0 ≤ (imax c 0 + qfirst (imin (imax q 1) 31) / 2) / qfirst (imin (imax q 1) 31) := Int.ediv_nonneg (by rw [imax_eq c]; omega) (by omega)
  unfold flev; rw [imin_eq _ 127]; omega
theorem qlev_bd (c s : Int) : -2047 ≤ qlev c s ∧ qlev c s ≤ 2047 := lev_bd _
theorem levF_bd (c : Nat → Int) (k : Nat) : -2047 ≤ levF t ia ir q intra c k ∧ levF t ia ir q intra c k ≤ 2047 := by
  unfold levF levG
  split
  · have := flev_bd (c 0) q; omega
  · exact qlev_bd _ _
/-- The numbers of the levels of c: none is farther than qe. -/
theorem numF_near (c : Nat → Int) (hs : ∀ k : Nat, k < 64 → 8 ≤ qstep t ia ir q k intra ∧ qstep t ia ir q k intra ≤ 7905) (hc : ∀ k, k < 64 → -16320 ≤ c k ∧ c k ≤ 16320) (h0 : intra = true → 0 ≤ c 0) (k : Nat) (hk : k < 64) :
    ab (numF t ia ir q intra (levF t ia ir q intra c) k - c k) ≤ qe t ia ir q intra k := by
  unfold numF qe
  by_cases h : k = 0 ∧ intra = true
  · rw [if_pos h, if_pos h]
    obtain ⟨rfl, h2⟩ := h
    unfold levF
    rw [if_pos ⟨rfl, h2⟩]
    exact fst_near ⟨h0 h2, (hc 0 (by omega)).2⟩
  · rw [if_neg h, if_neg h]
    unfold numG levF levG
    rw [if_neg h]
    exact num_near (hs k hk) (hc k hk)
theorem bb_congr2 {f g : Nat → Int} (e : ∀ j, j < 64 → f j = g j) (k : Nat) (hk : k < 64) : backF (backF f) k = backF (backF g) k := bb_congr e k hk
/-- The plain law: no sample is farther than the bound. -/
theorem inv_near (b : Nat → Int) (hs : ∀ k : Nat, k < 64 → 8 ≤ qstep t ia ir q k intra ∧ qstep t ia ir q k intra ≤ 7905) (hc : ∀ k, k < 64 → -16320 ≤ fwdF b k ∧ fwdF b k ≤ 16320) (h0 : intra = true → 0 ≤ fwdF b 0) (k : Nat) (hk : k < 64) :
    -(qsum t ia ir q intra 64 / 64) ≤ invF (numF t ia ir q intra (levF t ia ir q intra (fwdF b))) k - b k ∧ invF (numF t ia ir q intra (levF t ia ir q intra (fwdF b))) k - b k ≤ qsum t ia ir q intra 64 / 64 := by
  obtain ⟨n, hn⟩ : ∃ n, numF t ia ir q intra (levF t ia ir q intra (fwdF b)) = n := ⟨_, rfl⟩
  have hne := numF_near (t := t) (ia := ia) (ir := ir) (q := q) (intra := intra) (fwdF b) hs hc h0
  rw [hn] at hne ⊢
  have e1 : backF (backF n) k = 64 * b k + backF (backF fun j => n j - fwdF b j) k := by
    rw [← bb_fwd b k hk, ← bb_add]
    exact bb_congr (fun j _ => by omega) k hk
  have e2 := bb_ab (fun j => n j - fwdF b j) k hk
  have e3 := ssum_le (g := fun j => ab (n j - fwdF b j)) (h := qe t ia ir q intra) 64 hne
  have e4 := qsum_ssum (t := t) (ia := ia) (ir := ir) (q := q) (intra := intra) 64
  unfold invF
  rw [e1]
  generalize backF (backF fun j => n j - fwdF b j) k = z at *
  generalize ssum (fun j => ab (n j - fwdF b j)) 64 = s1 at *
  generalize ssum (qe t ia ir q intra) 64 = s2 at *
  generalize qsum t ia ir q intra 64 = s3 at *
  unfold ab at e2
  omega
/-- The sums of samples, or differences, that are bytes' are small; the first of samples isn't below 0. -/
theorem had8_ab (a : Nat → Int) (x : Nat) (hx : x < 8) {K : Int} (h : ∀ j, j < 8 → -K ≤ a j ∧ a j ≤ K) : -(8 * K) ≤ had8 a x ∧ had8 a x ≤ 8 * K := had8_bd h x hx
theorem fwd_small (b : Nat → Int) (hb : ∀ j, j < 64 → -255 ≤ b j ∧ b j ≤ 255) (k : Nat) (hk : k < 64) : -16320 ≤ fwdF b k ∧ fwdF b k ≤ 16320 := by
  have := rowsF_bd (rowsF_bd hb) k hk
  unfold fwdF; omega
theorem fwd_first (b : Nat → Int) (hb : ∀ j, j < 64 → 0 ≤ b j) : 0 ≤ fwdF b 0 := by
  have e := fwdF_at b 0 0 (by omega)
  rw [show 8 * 0 + 0 = 0 from rfl] at e
  rw [e]
  have s : ∀ x, x < 8 → sg 0 x = 1 := by decide
  have p : ∀ a : Nat → Int, (∀ j, j < 8 → 0 ≤ a j) → 0 ≤ had8 a 0 := fun a ha => by
    have := ha 0 (by omega); have := ha 1 (by omega); have := ha 2 (by omega); have := ha 3 (by omega)
    have := ha 4 (by omega); have := ha 5 (by omega); have := ha 6 (by omega); have := ha 7 (by omega)
    unfold had8
    rw [s 0 (by omega), s 1 (by omega), s 2 (by omega), s 3 (by omega), s 4 (by omega), s 5 (by omega), s 6 (by omega), s 7 (by omega)]
    omega
  exact p _ fun j hj => p _ fun x hx => hb _ (by omega)
/-- The document's numbers of the program's levels are the program's. -/
theorem numbers_same (c : Nat → Int) (ws : Nat → Int) (hq : 1 ≤ q ∧ q ≤ 31) (hs : ∀ k : Nat, k < 64 → 8 ≤ qstep t ia ir q k intra ∧ qstep t ia ir q k intra ≤ 7905) (hw : ∀ k : Nat, k < 64 → rstep q (ws k) = qstep t ia ir q k intra) (k : Nat) (hk : k < 64) :
    rnumF q ws intra (levF t ia ir q intra c) k = numF t ia ir q intra (levF t ia ir q intra c) k := by
  unfold rnumF numF
  by_cases h : k = 0 ∧ intra = true
  · rw [if_pos h, if_pos h]
    obtain ⟨rfl, h2⟩ := h
    have e : imin (imax q 1) 31 = q := by rw [imin_eq, imax_eq]; omega
    have h3 := flev_bd (c 0) q
    unfold fbk levF
    rw [if_pos ⟨rfl, h2⟩, e]
    congr 1
    rw [imin_eq, imax_eq]; omega
  · rw [if_neg h, if_neg h]
    unfold rnumG numG
    have h3 := levF_bd (t := t) (ia := ia) (ir := ir) (q := q) (intra := intra) c k
    have h4 := hs k hk
    rw [hw k hk]
    unfold qbk
    congr 1
    · rw [imin_eq, imax_eq]; omega
    · rw [imin_eq, imax_eq]; omega
end
end Go.Proofs.Ytbldgpemocnboaa

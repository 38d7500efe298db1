/- Plain: the nearest rows that aren't damaged, above and below; a sample between two rows; a macroblock of which some blocks are spread. Conditions: those that each theorem names. | conceal's between, walked: a sample between two rows. -/
import Derived.Test.YtbldgpemocnboaaFar
import Derived.Test.YtbldgpemocnboaaPl
namespace Go.Proofs.Ytbldgpemocnboaa
open Go.RowKit

/-- The highest of the first q rows that isn't damaged; -1: none. -/
def upR (R : Nat → Bool) : Nat → Int
  | 0 => -1
  | q + 1 => if R q = true then upR R q else (q : Int)
/-- The first row from r on that isn't damaged, of so many. -/
def dnR (R : Nat → Bool) : Nat → Nat → Nat
  | 0, r => r
  | q + 1, r => if R r = true then dnR R q (r + 1) else r
theorem upR_bd (R : Nat → Bool) (q : Nat) : -1 ≤ upR R q ∧ upR R q < q := by
  induction q with
  | zero => unfold upR; omega
  | succ q ih => unfold upR; split <;> omega
theorem dnR_bd (R : Nat → Bool) (q : Nat) : ∀ r, r ≤ dnR R q r ∧ dnR R q r ≤ r + q := by
  induction q with
  | zero => intro r; unfold dnR; omega
  | succ q ih => intro r; unfold dnR; have := ih (r + 1); split <;> omega
theorem upR_congr {R S : Nat → Bool} (q : Nat) (h : ∀ r, r < q → R r = S r) : upR R q = upR S q := by
  induction q with
  | zero => rfl
  | succ q ih => unfold upR; rw [h q (by omega), ih (fun r hr => h r (by omega))]
theorem dnR_congr {R S : Nat → Bool} (q : Nat) : ∀ r, (∀ i, r ≤ i → i < r + q → R i = S i) → dnR R q r = dnR S q r := by
  induction q with
  | zero => intro r _; rfl
  | succ q ih => intro r h; unfold dnR; rw [h r (by omega) (by omega), ih (r + 1) (fun i h1 h2 => h i (by omega) (by omega))]
/-- Both rows, around one. -/
theorem rows_around (R : Nat → Bool) {row rows : Nat} (h : row < rows) : (upR R (row + 1) = row ∧ dnR R (rows - row) row = row) ∨ (upR R (row + 1) < row ∧ row < dnR R (rows - row) row) := by
  obtain ⟨q, hq⟩ : ∃ q, rows - row = q + 1 := ⟨rows - row - 1, by omega⟩
  rw [hq]
  unfold upR dnR
  have h1 := upR_bd R row
  have h2 := dnR_bd R q (row + 1)
  cases R row <;> simp <;> omega
theorem upR_false {R : Nat → Bool} {q : Nat} (h : R q = false) : upR R (q + 1) = q := by unfold upR; rw [if_neg (by simp [h])]
theorem upR_true {R : Nat → Bool} {q : Nat} (h : R q = true) : upR R (q + 1) = upR R q := by conv => lhs; unfold upR; rw [if_pos h]
theorem dnR_false {R : Nat → Bool} {q r : Nat} (h : R r = false) : dnR R q r = r := by
  cases q <;> unfold dnR
  · rfl
  · rw [if_neg (by simp [h])]
theorem dnR_true {R : Nat → Bool} {q r : Nat} (h : R r = true) : dnR R (q + 1) r = dnR R q (r + 1) := by conv => lhs; unfold dnR; rw [if_pos h]

/-- A sample between two rows (below 0: there is none). -/
def btw (W H : Nat) (s : Nat → Int) (x y a b : Int) : Int :=
  if a < 0 ∧ b < 0 then 128 else if a < 0 then plAt W H s x b else if b < 0 then plAt W H s x a else if b - a ≤ 0 then plAt W H s x a
  else (plAt W H s x a * (b - y) + plAt W H s x b * (y - a)).tdiv (b - a)
def szk (k : Nat) : Nat := if k < 4 then 16 else 8
/-- The rows of samples. -/
def abv (u : Int) (k : Nat) : Int := if u < 0 then -1 else (u + 1) * (szk k : Int) - 1
def blw (rows d k : Nat) : Int := if d < rows then ((d * szk k : Nat) : Int) else -1
/-- What is put. -/
def sprV (f : Fr) (mb k : Nat) (u : Int) (d : Nat) (j : Nat) : Int := btw (f.pw k) (f.ph k) (f.ps k) (f.px mb k + ((j % 8 : Nat) : Int)) (f.py mb k + ((j / 8 : Nat) : Int)) (abv u k) (blw f.r d k)
/-- The first n blocks of a macroblock are spread. -/
structure SprR (f : Fr) (mb : Nat) (u : Int) (d n : Nat) (x : Fr) : Prop where
  sm : ∃ sY sU sV, x = f.put sY sU sV
  s : ∀ k, k < 6 → ∀ m, m < f.c * f.r → ∀ j, j < 64 → x.ps k (f.ix m k j) = if m = mb ∧ k < n then sat (sprV f mb k u d j) else f.ps k (f.ix m k j)

theorem mb_eq {c m mb : Nat} (h1 : m % c = mb % c) (h2 : m / c = mb / c) : m = mb := by
  have e1 := Nat.div_add_mod m c
  have e2 := Nat.div_add_mod mb c
  rw [h1, h2] at e1; omega
theorem mb_row {c r a x : Nat} (ha : a < r) (hx : x < c) : a * c + x < c * r ∧ (a * c + x) % c = x ∧ (a * c + x) / c = a := by
  refine ⟨?_, mod_of hx, div_of hx⟩
  have : (a + 1) * c ≤ r * c := Nat.mul_le_mul_right _ ha
  rw [Nat.add_mul, Nat.one_mul] at this
  rw [Nat.mul_comm c r]; omega
/-- Where a sample lies, in its plane. -/
theorem nx_row {f : Fr} {mb k a : Nat} (hc : 0 < f.c) (ha : a < f.r) (e : Nat) (he : e < 2) :
    f.nx (a * f.c + mb % f.c) (if k < 4 then 2 * e + k % 2 else k) = f.nx mb k ∧ f.ny (a * f.c + mb % f.c) (if k < 4 then 2 * e + k % 2 else k) = (if k < 4 then 16 * a + 8 * e else 8 * a) := by
  obtain ⟨h1, h2, h3⟩ := mb_row (r := f.r) ha (Nat.mod_lt mb hc)
  unfold Fr.nx Fr.ny
  rw [h2, h3]
  by_cases h4 : k < 4
  · have e1 : (2 * e + k % 2) % 2 = k % 2 := by omega
    have e2 : (2 * e + k % 2) / 2 = e := by omega
    simp only [if_pos h4, if_pos (show 2 * e + k % 2 < 4 by omega), e1, e2]; exact ⟨trivial, trivial⟩
  · simp only [if_neg h4]; exact ⟨trivial, trivial⟩
/-- A sample of the row a, at the macroblock's columns. -/
theorem plAt_row {f : Fr} {mb k a j e t : Nat} (hc : 0 < f.c) (hm : mb < f.c * f.r) (ha : a < f.r) (hk : k < 6) (he : e < 2) (ht : t < 8) (s : Nat → Int) :
    plAt (f.pw k) (f.ph k) s (f.px mb k + ((j % 8 : Nat) : Int)) (((if k < 4 then 16 * a + 8 * e + t else 8 * a + t) : Nat) : Int) = s (f.ix (a * f.c + mb % f.c) (if k < 4 then 2 * e + k % 2 else k) (8 * t + j % 8)) := by
  obtain ⟨h1, h2⟩ := f.nxy_lt hc hm hk
  obtain ⟨h3, h4⟩ := nx_row (mb := mb) hc ha e he
  have hph : (if k < 4 then 16 * a + 8 * e + t else 8 * a + t) < f.ph k := by unfold Fr.ph; split <;> omega
  have hpw : f.pw (if k < 4 then 2 * e + k % 2 else k) = f.pw k := by unfold Fr.pw; by_cases h : k < 4 <;> simp [h]; omega
  unfold plAt Fr.ix
  rw [f.px_nx, if_neg (by omega), cl_in (by omega) (by omega), cl_in (by omega) (by omega), h3, h4, hpw]
  congr 1
  rw [show (8 * t + j % 8) / 8 = t by omega, show (8 * t + j % 8) % 8 = j % 8 by omega]
  have : ((if k < 4 then 16 * a + 8 * e + t else 8 * a + t : Nat) : Int).toNat = (if k < 4 then 16 * a + 8 * e else 8 * a) + t := by
    rw [Int.toNat_natCast]; split <;> omega
  rw [this]
  congr 1
section
variable {f x : Fr} {mb d n : Nat} {u : Int}
theorem SprR.start (f : Fr) (mb : Nat) (u : Int) (d : Nat) : SprR f mb u d 0 f := ⟨⟨f.sY, f.sU, f.sV, rfl⟩, fun k _ m _ j _ => by rw [if_neg (by omega)]⟩
/-- What a block reads is as it was, if it isn't behind one that is put, or if the rows are those of other macroblocks. -/
theorem SprR.reads (H : SprR f mb u d n x) (hc : 0 < f.c) (hm : mb < f.c * f.r) {k : Nat} (hk : k < 6) (hud : (n ≤ k ∧ u = ((mb / f.c : Nat) : Int) ∧ d = mb / f.c) ∨ (u < ((mb / f.c : Nat) : Int) ∧ mb / f.c < d)) (j : Nat) :
    btw (f.pw k) (f.ph k) (x.ps k) (f.px mb k + ((j % 8 : Nat) : Int)) (f.py mb k + ((j / 8 : Nat) : Int)) (abv u k) (blw f.r d k) = sprV f mb k u d j := by
  obtain ⟨hmc, hmr⟩ := mbdm hc hm
  generalize hrow : mb / f.c = row at *
  have key : ∀ a e t, a < f.r → e < 2 → t < 8 → (a ≠ row ∨ (e = 1 ∧ n ≤ k)) → plAt (f.pw k) (f.ph k) (x.ps k) (f.px mb k + ((j % 8 : Nat) : Int)) (((if k < 4 then 16 * a + 8 * e + t else 8 * a + t) : Nat) : Int) = plAt (f.pw k) (f.ph k) (f.ps k) (f.px mb k + ((j % 8 : Nat) : Int)) (((if k < 4 then 16 * a + 8 * e + t else 8 * a + t) : Nat) : Int) := by
    intro a e t ha he ht hne
    rw [plAt_row hc hm ha hk he ht, plAt_row hc hm ha hk he ht]
    obtain ⟨h1, h2, h3⟩ := mb_row (r := f.r) ha hmc
    have hk6 : (if k < 4 then 2 * e + k % 2 else k) < 6 := by split <;> omega
    have hsp : (k < 4 ∧ (if k < 4 then 2 * e + k % 2 else k) < 4) ∨ k = (if k < 4 then 2 * e + k % 2 else k) := by
      by_cases h : k < 4
      · simp only [if_pos h]; left; omega
      · simp only [if_neg h]; right; trivial
    rw [ps_sp (f := x) hsp, ps_sp (f := f) hsp]
    rw [H.s _ hk6 _ h1 _ (by omega), if_neg ?_]
    rintro ⟨e1, e2⟩
    rcases hne with h4 | ⟨rfl, h5⟩
    · rw [e1, hrow] at h3; omega
    · split at e2 <;> omega
  have hA : 0 ≤ u → u < (f.r : Int) → (u ≠ (row : Int) ∨ n ≤ k) → plAt (f.pw k) (f.ph k) (x.ps k) (f.px mb k + ((j % 8 : Nat) : Int)) (abv u k) = plAt (f.pw k) (f.ph k) (f.ps k) (f.px mb k + ((j % 8 : Nat) : Int)) (abv u k) := by
    intro h0 h1 h2
    have h3 : u.toNat ≠ row ∨ ((1 : Nat) = 1 ∧ n ≤ k) := by
      rcases h2 with h | h
      · left; omega
      · right; exact ⟨rfl, h⟩
    have := key u.toNat 1 7 (by omega) (by omega) (by omega) h3
    have e : abv u k = (((if k < 4 then 16 * u.toNat + 8 * 1 + 7 else 8 * u.toNat + 7) : Nat) : Int) := by
      unfold abv szk; rw [if_neg (by omega)]; split <;> omega
    rw [e]; exact this
  have hB : row < d → d < f.r → plAt (f.pw k) (f.ph k) (x.ps k) (f.px mb k + ((j % 8 : Nat) : Int)) (blw f.r d k) = plAt (f.pw k) (f.ph k) (f.ps k) (f.px mb k + ((j % 8 : Nat) : Int)) (blw f.r d k) := by
    intro h0 h1
    have := key d 0 0 h1 (by omega) (by omega) (Or.inl (by omega))
    have e : blw f.r d k = (((if k < 4 then 16 * d + 8 * 0 + 0 else 8 * d + 0) : Nat) : Int) := by
      unfold blw szk; rw [if_pos h1]; split <;> omega
    rw [e]; exact this
  unfold sprV
  rcases hud with ⟨hnk, q1, q2⟩ | ⟨h1, h2⟩
  · rw [q1] at hA ⊢; rw [q2] at hB ⊢
    have ha := hA (by omega) (by omega) (Or.inr hnk)
    have e1 : blw f.r (row) k - abv (row : Int) k ≤ 0 := by
      unfold blw abv; rw [if_pos hmr, if_neg (by omega)]
      rcases (show szk k = 16 ∨ szk k = 8 by unfold szk; split <;> simp) with h | h <;> rw [h] <;> omega
    have e2 : 0 ≤ abv (row : Int) k := by unfold abv szk; rw [if_neg (by omega)]; split <;> omega
    have e3 : 0 ≤ blw f.r (row) k := by unfold blw; rw [if_pos hmr]; omega
    unfold btw
    rw [if_neg (by omega), if_neg (by omega), if_neg (by omega), if_pos e1, if_neg (by omega), if_neg (by omega), if_neg (by omega), if_pos e1, ha]
  · unfold btw
    by_cases hu0 : u < 0
    · have e1 : abv u k < 0 := by unfold abv; rw [if_pos hu0]; omega
      by_cases hd : d < f.r
      · have e2 : ¬ blw f.r d k < 0 := by unfold blw; rw [if_pos hd]; omega
        rw [if_neg (by omega), if_pos e1, if_neg (by omega), if_pos e1, hB h2 hd]
      · have e2 : blw f.r d k < 0 := by unfold blw; rw [if_neg hd]; omega
        rw [if_pos ⟨e1, e2⟩, if_pos ⟨e1, e2⟩]
    · have e1 : ¬ abv u k < 0 := by unfold abv szk; rw [if_neg hu0]; split <;> omega
      have ha := hA (by omega) (by omega) (Or.inl (by omega))
      by_cases hd : d < f.r
      · rw [ha, hB h2 hd]
      · have e2 : blw f.r d k < 0 := by unfold blw; rw [if_neg hd]; omega
        rw [if_neg (by omega), if_neg e1, if_pos e2, if_neg (by omega), if_neg e1, if_pos e2, ha]
/-- Another plane's samples. -/
def Fr.putk (f : Fr) (k : Nat) (s : Nat → Int) : Fr := f.put (if k < 4 then s else f.sY) (if k = 4 then s else f.sU) (if k = 5 then s else f.sV)
theorem ps_putk (f : Fr) {kb k : Nat} (hk : k < 6) (hkb : kb < 6) (s : Nat → Int) : (f.putk kb s).ps k = if (k < 4 ∧ kb < 4) ∨ k = kb then s else f.ps k := by
  unfold Fr.ps Fr.putk Fr.put
  by_cases h1 : k < 4
  · by_cases h2 : kb < 4
    · simp [h1, h2]
    · simp [h1, h2, show k ≠ kb by omega]
  · by_cases h3 : k = 4
    · subst h3; by_cases h2 : kb = 4
      · simp [h2]
      · simp [h2, show ¬ 4 = kb by omega]
    · obtain rfl : k = 5 := by omega
      by_cases h2 : kb = 5
      · simp [h2]
      · simp [h2, show ¬ 5 = kb by omega]
theorem Fr.Mem.putk {g : Fr} {w w' : World} (h : g.Mem w) {kb : Nat} (hkb : kb < 6) {s : Nat → Int} (hW : Wr (g.pb kb) w w') (hP : PB w' (g.pb kb) (g.pw kb * g.ph kb) s) : (g.putk kb s).Mem w' := by
  obtain ⟨h1, h2, hy, hu, hv', n1, n2, n3⟩ := h
  unfold Fr.putk
  unfold Fr.pb Fr.pw Fr.ph at *
  rcases k6 hkb with h4 | rfl | rfl
  · simp only [if_pos h4, if_neg (show ¬ kb = 4 by omega), if_neg (show ¬ kb = 5 by omega)] at *
    exact ⟨h1, h2, hP, hu.wr hW (by simpa using n1.symm), hv'.wr hW (by simpa using n2.symm), n1, n2, n3⟩
  · exact ⟨h1, h2, hy.wr hW n1, hP, hv'.wr hW n3.symm, n1, n2, n3⟩
  · exact ⟨h1, h2, hy.wr hW n2, hu.wr hW n3, hP, n1, n2, n3⟩
/-- The next block is put. -/
theorem SprR.step (H : SprR f mb u d n x) (hc : 0 < f.c) (hm : mb < f.c * f.r) (hn : n < 6) (p : Nat → Int) (hp : ∀ j, j < 64 → p j = sprV f mb n u d j) :
    SprR f mb u d (n + 1) (x.putk n (putF (f.pw n) (f.ph n) (x.ps n) (f.px mb n) (f.py mb n) p 64)) := by
  obtain ⟨sY, sU, sV, hx⟩ := H.sm
  refine ⟨?_, fun k hk m hmm j hj => ?_⟩
  · subst hx; exact ⟨_, _, _, rfl⟩
  · have hs := H.s k hk m hmm j hj
    rw [ps_putk x hk hn]
    obtain ⟨l1, l2⟩ := f.nxy_lt hc hmm hk
    by_cases hsp : (k < 4 ∧ n < 4) ∨ k = n
    · rw [if_pos hsp]
      rw [ps_sp (f := x) hsp] at hs
      have hpw := pw_sp (f := f) hsp
      have hph : f.ph k = f.ph n := by
        unfold Fr.ph
        rcases hsp with ⟨h1, h2⟩ | rfl
        · rw [if_pos h1, if_pos h2]
        · rfl
      have e0 : f.ix m k j = (f.ny m k + j / 8) * f.pw n + (f.nx m k + j % 8) := by unfold Fr.ix; rw [hpw]
      rw [hpw] at l1; rw [hph] at l2
      rw [e0, putF_at (by omega) (by omega) 64 (by omega), ← e0]
      rw [f.px_nx, f.py_ny]
      by_cases hmk : m = mb ∧ k = n
      · obtain ⟨rfl, rfl⟩ := hmk
        rw [if_pos ⟨by omega, by omega⟩, if_pos ⟨rfl, by omega⟩]
        have e1 : (8 * (((f.ny m k + j / 8 : Nat) : Int) - (f.ny m k : Int)) + ((f.nx m k + j % 8 : Nat) : Int) - (f.nx m k : Int)).toNat = j := by omega
        rw [e1, hp j hj]
      · have hout : ¬ ((f.nx mb n : Int) ≤ ((f.nx m k + j % 8 : Nat) : Int) ∧ ((f.nx m k + j % 8 : Nat) : Int) < (f.nx mb n : Int) + 8 ∧ (f.ny mb n : Int) ≤ ((f.ny m k + j / 8 : Nat) : Int) ∧ ((f.ny m k + j / 8 : Nat) : Int) < (f.ny mb n : Int) + 8) := by
          rintro ⟨h1, h2, h3, h4⟩
          apply hmk
          unfold Fr.nx at h1 h2; unfold Fr.ny at h3 h4
          rcases hsp with ⟨g1, g2⟩ | rfl
          · simp only [if_pos g1, if_pos g2] at h1 h2 h3 h4
            exact ⟨mb_eq (c := f.c) (by omega) (by omega), by omega⟩
          · refine ⟨mb_eq (c := f.c) ?_ ?_, rfl⟩
            · by_cases g : k < 4
              · simp only [if_pos g] at h1 h2; omega
              · simp only [if_neg g] at h1 h2; omega
            · by_cases g : k < 4
              · simp only [if_pos g] at h3 h4; omega
              · simp only [if_neg g] at h3 h4; omega
        rw [if_neg (fun h => hout h.1), hs]
        by_cases h1 : m = mb ∧ k < n
        · rw [if_pos h1, if_pos (by omega)]
        · rw [if_neg h1, if_neg (by omega)]
    · rw [if_neg hsp, hs]
      by_cases h1 : m = mb ∧ k < n
      · rw [if_pos h1, if_pos (by omega)]
      · rw [if_neg h1, if_neg (by omega)]
end
end Go.Proofs.Ytbldgpemocnboaa

namespace Go.Proofs.Ytbldgpemocnboaa
open Go.RowKit Go.Sort
attribute [local go_sem ↓] run_imax run_imin

theorem mul_bd255 {s z : Int} (hs : 0 ≤ s ∧ s ≤ 255) (h1 : -2097152 ≤ z) (h2 : z ≤ 2097152) : -534773760 ≤ s * z ∧ s * z ≤ 534773760 := by
  have h3 : s * z ≤ s * 2097152 := Int.mul_le_mul_of_nonneg_left h2 hs.1
  have h4 : s * (-2097152) ≤ s * z := Int.mul_le_mul_of_nonneg_left h1 hs.1
  omega
theorem tdiv_bd {n d : Int} (h1 : -1069547520 ≤ n) (h2 : n ≤ 1069547520) : -1069547520 ≤ n.tdiv d ∧ n.tdiv d ≤ 1069547520 := by
  have h := Int.natAbs_tdiv_le_natAbs n d
  omega
set_option maxHeartbeats 2000000 in
theorem conBetween_any (W H b c : Nat) (s : Nat → Int) (x y a e : Int) (w : World) (hW2 : W ≤ 1024) (hH2 : H ≤ 1024) (hP : PB w b (W * H) s)
    (hy : -1048576 ≤ y ∧ y ≤ 1048576) (ha : -1048576 ≤ a ∧ a ≤ 1048576) (he : -1048576 ≤ e ∧ e ≤ 1048576) :
    Calls Try.prog 100 #[plV W H b (W * H) c, .int .i64 x, .int .i64 y, .int .i64 a, .int .i64 e] w fun r w' => r = .returned (.int .i64 (btw W H s x y a e)) ∧ Below w.heap.size w w' := by
  have b1 := plAt_bd hP x a
  have b2 := plAt_bd hP x e
  obtain ⟨y1, y2⟩ := hy; obtain ⟨a1, a2⟩ := ha; obtain ⟨e1, e2⟩ := he
  have HO : Ob (w.alloc (.cells #[.int .i64 (W : Int), .int .i64 (H : Int), .slice (some ⟨b, 0, none⟩) (W * H) c] PLT)) w.heap.size PLT #[.int .i64 (W : Int), .int .i64 (H : Int), .slice (some ⟨b, 0, none⟩) (W * H) c] := Ob.new_at _ _ rfl
  have HW : Below w.heap.size w (w.alloc (.cells #[.int .i64 (W : Int), .int .i64 (H : Int), .slice (some ⟨b, 0, none⟩) (W * H) c] PLT)) := by ((repeat (first | exact Below.refl _ _ | assumption | refine Below.setCell ?_ (by first | omega | (simp; done) | (simp; omega)) _ | refine Below.alloc ?_ (by first | omega | (simp; done) | (simp; omega)) _ | refine below_drewN ?_ _ | refine Below.drew ?_ | refine below_setRow ?_ (by first | omega | (simp; done) | (simp; omega)) _)))
  replace hP := hP.later HW
  have hat := fun z w' (h : PB w' b (W * H) s) => at_any W H b c s x z w' hW2 hH2 h
  unfold plV at hat ⊢
  replace hat := Lib.hid hat
  unfold btw
  by_cases ha : a < 0
  · have d1 : decide (a < 0) = true := by simpa using ha
    by_cases he : e < 0
    · have d2 : decide (e < 0) = true := by simpa using he
      rw [if_pos ⟨ha, he⟩]
      go_enter Try.func100, Try.ntmps100
      go_wp2_with fail
      go_ret
      exact ⟨rfl, HW⟩
    · have d2 : decide (e < 0) = false := by simpa using he
      rw [if_neg (fun h => he h.2), if_pos ha]
      go_enter Try.func100, Try.ntmps100
      go_wp2_with (refine wpList_load_ob HO rfl _ _ rfl rfl Try.underlying41 (by kernel_rfl) ?_)
      generalize w.alloc (.cells #[.int .i64 (W : Int), .int .i64 (H : Int), .slice (some ⟨b, 0, none⟩) (W * H) c] PLT) = w1 at *
      refine (hat.out _ _ hP).mono ?_
      rintro e w2 ⟨rfl, hb⟩
      go_wp2_with fail
      go_ret
      exact ⟨rfl, below_step HW hb⟩
  · have d1 : decide (a < 0) = false := by simpa using ha
    rw [if_neg (fun h => ha h.1), if_neg ha]
    by_cases he : e < 0
    · have d2 : decide (e < 0) = true := by simpa using he
      rw [if_pos he]
      go_enter Try.func100, Try.ntmps100
      go_wp2_with (refine wpList_load_ob HO rfl _ _ rfl rfl Try.underlying41 (by kernel_rfl) ?_)
      generalize w.alloc (.cells #[.int .i64 (W : Int), .int .i64 (H : Int), .slice (some ⟨b, 0, none⟩) (W * H) c] PLT) = w1 at *
      refine (hat.out _ _ hP).mono ?_
      rintro e w2 ⟨rfl, hb⟩
      go_wp2_with fail
      go_ret
      exact ⟨rfl, below_step HW hb⟩
    · have d2 : decide (e < 0) = false := by simpa using he
      rw [if_neg he]
      by_cases h0 : e - a ≤ 0
      · have d3 : decide (e - a ≤ 0) = true := by simpa using h0
        rw [if_pos h0]
        go_enter Try.func100, Try.ntmps100
        go_wp2_with (refine wpList_load_ob HO rfl _ _ rfl rfl Try.underlying41 (by kernel_rfl) ?_)
        generalize w.alloc (.cells #[.int .i64 (W : Int), .int .i64 (H : Int), .slice (some ⟨b, 0, none⟩) (W * H) c] PLT) = w1 at *
        refine (hat.out _ _ hP).mono ?_
        rintro e w2 ⟨rfl, hb⟩
        go_wp2_with fail
        go_ret
        exact ⟨rfl, below_step HW hb⟩
      · have d3 : decide (e - a ≤ 0) = false := by simpa using h0
        have d4 : ((e - a) == 0) = false := by simp; omega
        rw [if_neg h0]
        go_enter Try.func100, Try.ntmps100
        go_wp2_with (refine wpList_load_ob HO rfl _ _ rfl rfl Try.underlying41 (by kernel_rfl) ?_)
        generalize w.alloc (.cells #[.int .i64 (W : Int), .int .i64 (H : Int), .slice (some ⟨b, 0, none⟩) (W * H) c] PLT) = w1 at *
        obtain ⟨m1, m2⟩ := mul_bd255 b1 (z := e - y) (by omega) (by omega)
        obtain ⟨m3, m4⟩ := mul_bd255 b2 (z := y - a) (by omega) (by omega)
        obtain ⟨m5, m6⟩ := tdiv_bd (d := e - a) (show -1069547520 ≤ plAt W H s x a * (e - y) + plAt W H s x e * (y - a) by omega) (by omega)
        have e0 := fun p => (HO.re p).plW
        have e1 := fun p => (HO.re p).plH
        have e2 := fun p => (HO.re p).plS
        refine wp_region_quiet_below (by kernel_rfl) (by kernel_rfl) ?_
        repeat (go_big_quiet_step ((go_at_call 35; with_reducible exact Calls.regrown_of (hat.out _ _ (hP.later (below_regrown _ _ _))))))
        refine wpQuiet_nil ?_
        intro wq hwq
        replace hwq := Cls.below hwq
        go_wp2_with fail
        go_ret
        exact ⟨rfl, below_step HW hwq⟩
end Go.Proofs.Ytbldgpemocnboaa

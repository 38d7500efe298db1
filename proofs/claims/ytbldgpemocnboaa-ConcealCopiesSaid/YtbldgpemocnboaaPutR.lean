/- Plain: a macroblock of which some blocks are put: other values. Conditions: those that each theorem names. -/
import Derived.Test.YtbldgpemocnboaaSprM
namespace Go.Proofs.Ytbldgpemocnboaa
open Go.RowKit

/-- The first n blocks of a macroblock are put. -/
structure PutR (f : Fr) (mb : Nat) (V : Nat → Nat → Int) (n : Nat) (x : Fr) : Prop where
  sm : ∃ sY sU sV, x = f.put sY sU sV
  s : ∀ k, k < 6 → ∀ m, m < f.c * f.r → ∀ j, j < 64 → x.ps k (f.ix m k j) = if m = mb ∧ k < n then sat (V k j) else f.ps k (f.ix m k j)
section
variable {f g x y : Fr} {mb n : Nat} {V : Nat → Nat → Int}
theorem PutR.refl (f : Fr) (mb : Nat) (V : Nat → Nat → Int) : PutR f mb V 0 f := ⟨⟨f.sY, f.sU, f.sV, rfl⟩, fun k hk m hm j hj => by rw [if_neg (by omega)]⟩
theorem PutR.pw (H : PutR f mb V n x) (k : Nat) : x.pw k = f.pw k ∧ x.ph k = f.ph k ∧ x.pb k = f.pb k ∧ x.pc k = f.pc k ∧ x.cells = f.cells ∧ x.c = f.c ∧ x.r = f.r := by
  obtain ⟨sY, sU, sV, rfl⟩ := H.sm; exact ⟨rfl, rfl, rfl, rfl, rfl, rfl, rfl⟩
theorem PutR.nb (H : PutR f mb V n x) : f.bY = x.bY ∧ f.bU = x.bU ∧ f.bV = x.bV := by
  obtain ⟨sY, sU, sV, rfl⟩ := H.sm; exact ⟨rfl, rfl, rfl⟩
theorem PutR.dims (H : PutR f mb V n x) : x.c = f.c ∧ x.r = f.r ∧ (∀ m k j, x.ix m k j = f.ix m k j) := by
  obtain ⟨sY, sU, sV, rfl⟩ := H.sm; exact ⟨rfl, rfl, fun _ _ _ => rfl⟩
/-- The next block is put. -/
theorem PutR.step (H : PutR f mb V n x) (hc : 0 < f.c) (hm : mb < f.c * f.r) (hn : n < 6) (p : Nat → Int) (hp : ∀ j, j < 64 → p j = V n j) :
    PutR f mb V (n + 1) (x.putk n (putF (f.pw n) (f.ph n) (x.ps n) (f.px mb n) (f.py mb n) p 64)) := by
  obtain ⟨sY, sU, sV, hx⟩ := H.sm
  refine ⟨?_, fun k hk m hmm j hj => ?_⟩
  · subst hx; exact ⟨_, _, _, rfl⟩
  · have hs := H.s k hk m hmm j hj
    rw [ps_putk x hk hn]
    obtain ⟨l1, l2⟩ := f.nxy_lt hc hmm hk
    by_cases hsp : (k < 4 ∧ n < 4) ∨ k = n
    · rw [if_pos hsp]
      rw [ps_sp (f := x) hsp] at hs
      have hpw := pw_sp (f := f) hsp
      have hph : f.ph k = f.ph n := by
        unfold Fr.ph
        rcases hsp with ⟨h1, h2⟩ | rfl
        · rw [if_pos h1, if_pos h2]
        · rfl
      have e0 : f.ix m k j = (f.ny m k + j / 8) * f.pw n + (f.nx m k + j % 8) := by unfold Fr.ix; rw [hpw]
      rw [hpw] at l1; rw [hph] at l2
      rw [e0, putF_at (by omega) (by omega) 64 (by omega), ← e0]
      rw [f.px_nx, f.py_ny]
      by_cases hmk : m = mb ∧ k = n
      · obtain ⟨rfl, rfl⟩ := hmk
        rw [if_pos ⟨by omega, by omega⟩, if_pos ⟨rfl, by omega⟩]
        have e1 : (8 * (((f.ny m k + j / 8 : Nat) : Int) - (f.ny m k : Int)) + ((f.nx m k + j % 8 : Nat) : Int) - (f.nx m k : Int)).toNat = j := by omega
        rw [e1, hp j hj]
      · have hout : ¬ ((f.nx mb n : Int) ≤ ((f.nx m k + j % 8 : Nat) : Int) ∧ ((f.nx m k + j % 8 : Nat) : Int) < (f.nx mb n : Int) + 8 ∧ (f.ny mb n : Int) ≤ ((f.ny m k + j / 8 : Nat) : Int) ∧ ((f.ny m k + j / 8 : Nat) : Int) < (f.ny mb n : Int) + 8) := by
          rintro ⟨h1, h2, h3, h4⟩
          apply hmk
          unfold Fr.nx at h1 h2; unfold Fr.ny at h3 h4
          rcases hsp with ⟨g1, g2⟩ | rfl
          · simp only [if_pos g1, if_pos g2] at h1 h2 h3 h4
            exact ⟨mb_eq (c := f.c) (by omega) (by omega), by omega⟩
          · refine ⟨mb_eq (c := f.c) ?_ ?_, rfl⟩
            · by_cases g : k < 4
              · simp only [if_pos g] at h1 h2; omega
              · simp only [if_neg g] at h1 h2; omega
            · by_cases g : k < 4
              · simp only [if_pos g] at h3 h4; omega
              · simp only [if_neg g] at h3 h4; omega
        rw [if_neg (fun h => hout h.1), hs]
        by_cases h1 : m = mb ∧ k < n
        · rw [if_pos h1, if_pos (by omega)]
        · rw [if_neg h1, if_neg (by omega)]
    · rw [if_neg hsp, hs]
      by_cases h1 : m = mb ∧ k < n
      · rw [if_pos h1, if_pos (by omega)]
      · rw [if_neg h1, if_neg (by omega)]
/-- Another macroblock is as it was. -/
theorem PutR.else (H : PutR f mb V 6 x) (h : g.Like f) (hc : 0 < f.c) {m : Nat} (hm : m < f.c * f.r) (hne : m ≠ mb) : sameAtB g x m = true := by
  obtain ⟨a1, a2, a3⟩ := H.dims
  refine sameAtB_true fun k hk j hj => ?_
  rw [mbF_ix (by rw [h.c]; exact hc) (by rw [h.c, h.r]; exact hm) hk hj, mbF_ix (by rw [a1]; exact hc) (by rw [a1, a2]; exact hm) hk hj, a3, (like_xy h m k).2.2, (like_ps h k).1, H.s k hk m hm j hj, if_neg (fun h => hne h.1)]
/-- The macroblock itself. -/
theorem PutR.here (H : PutR f mb V 6 x) (hc : 0 < f.c) (hm : mb < f.c * f.r) {k j : Nat} (hk : k < 6) (hj : j < 64) : mbF x mb k j = sat (V k j) := by
  obtain ⟨a1, a2, a3⟩ := H.dims
  rw [mbF_ix (by rw [a1]; exact hc) (by rw [a1, a2]; exact hm) hk hj, a3, H.s k hk mb hm j hj, if_pos ⟨rfl, hk⟩]
end
end Go.Proofs.Ytbldgpemocnboaa

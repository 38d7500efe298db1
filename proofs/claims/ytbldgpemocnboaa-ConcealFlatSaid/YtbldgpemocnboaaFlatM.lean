/- Plain: in a picture that is all alike nothing that is put differs from it. -/
import Derived.Test.YtbldgpemocnboaaCopy
import Derived.Test.YtbldgpemocnboaaIv
namespace Go.Proofs.Ytbldgpemocnboaa
open Go.RowKit

/-- All samples of a frame are alike. -/
def Fr.Flat (f : Fr) (v : Int) : Prop := ∀ k, f.ps k = fun _ => v
theorem frFlat_flat (c r b1 b2 b3 : Nat) (v : Int) : (frFlat c r b1 b2 b3 v).Flat v := fun k => by
  unfold Fr.ps frFlat; simp
theorem Fr.Flat.like {f g : Fr} {v : Int} (h : f.Flat v) (hl : g.Like f) : g.Flat v := fun k => by rw [(like_ps hl k).1]; exact h k
theorem plAt_const {W H : Nat} (hW : 0 < W) (hH : 0 < H) (v x y : Int) : plAt W H (fun _ => v) x y = v := by
  unfold plAt; rw [if_neg (by omega)]
theorem sat_id {v : Int} (h : 0 ≤ v ∧ v ≤ 255) : sat v = v := by unfold sat; rw [imin_eq, imax_eq]; omega
theorem pwh_pos {f : Fr} (hc : 0 < f.c) (hr : 0 < f.r) (k : Nat) : 0 < f.pw k ∧ 0 < f.ph k := by unfold Fr.pw Fr.ph; split <;> omega
theorem predB_flat {f : Fr} {v : Int} (h : f.Flat v) (hc : 0 < f.c) (hr : 0 < f.r) (mb : Nat) (X Y : Nat → Int) (d : Bool) (k j : Nat) : predB f mb X Y d k j = v := by
  unfold predB ipBlockF
  rw [h k]
  exact ipAt_flat (pwh_pos hc hr k).1 (pwh_pos hc hr k).2 _ _ _ _
theorem btw_const {W H : Nat} (hW : 0 < W) (hH : 0 < H) (v x y a b : Int) (hab : ¬ (a < 0 ∧ b < 0)) : btw W H (fun _ => v) x y a b = v := by
  unfold btw
  rw [if_neg hab]
  simp only [plAt_const hW hH]
  split
  · rfl
  · split
    · rfl
    · split
      · rfl
      · rw [← Int.mul_add, show b - y + (y - a) = b - a by omega]
        exact Int.mul_tdiv_cancel _ (by omega)
theorem sprV_flat {f : Fr} {v : Int} (h : f.Flat v) (hc : 0 < f.c) (hr : 0 < f.r) (mb k : Nat) (u : Int) (d j : Nat) (hud : ¬ (u < 0 ∧ f.r ≤ d)) : sprV f mb k u d j = v := by
  unfold sprV
  rw [h k]
  refine btw_const (pwh_pos hc hr k).1 (pwh_pos hc hr k).2 _ _ _ _ _ ?_
  rintro ⟨h1, h2⟩
  apply hud
  refine ⟨?_, ?_⟩
  · unfold abv szk at h1
    split at h1
    · assumption
    · split at h1 <;> omega
  · unfold blw at h2
    split at h2
    · omega
    · omega
theorem sprV_none {f : Fr} (mb k : Nat) (u : Int) (d j : Nat) (h1 : u < 0) (h2 : f.r ≤ d) : sprV f mb k u d j = 128 := by
  unfold sprV btw abv blw
  rw [if_pos h1, if_neg (show ¬ d < f.r by omega), if_pos (by omega)]
theorem PutR.flat {f g x : Fr} {mb : Nat} {V : Nat → Nat → Int} {v : Int} (H : PutR g mb V 6 x) (hg : g.Like f) (h : f.Flat v) (hv : 0 ≤ v ∧ v ≤ 255) (hc : 0 < f.c) (hV : ∀ k j, V k j = v) : sameB f x = true := by
  obtain ⟨a1, a2, a3⟩ := H.dims
  refine same_ix hc (by rw [a1, hg.c]) (by rw [a2, hg.r]) (fun k hk m hm j hj => ?_)
  have h1 := H.s k hk m (by rw [hg.c, hg.r]; exact hm) j hj
  rw [(like_xy hg m k).2.2] at h1
  rw [h1, hV, sat_id hv, h k, (like_ps hg k).1, h k]
  simp
theorem SprR.flat {f g x : Fr} {mb d : Nat} {u v : Int} (H : SprR g mb u d 6 x) (hg : g.Like f) (h : f.Flat v) (hv : 0 ≤ v ∧ v ≤ 255) (hc : 0 < f.c) (hr : 0 < f.r) (hud : ¬ (u < 0 ∧ f.r ≤ d)) : sameB f x = true := by
  obtain ⟨a1, a2, a3⟩ := H.dims
  refine same_ix hc (by rw [a1, hg.c]) (by rw [a2, hg.r]) (fun k hk m hm j hj => ?_)
  rw [H.of_like hg k hk m hm j hj, sprV_flat h hc hr mb k u d j hud, sat_id hv, h k]
  simp
theorem SprR.grey {f g x e : Fr} {mb d : Nat} {u : Int} (H : SprR g mb u d 6 x) (hg : g.Like f) (he : e.Flat 128) (hc : 0 < f.c) (hec : e.c = f.c) (her : e.r = f.r) (hm : mb < f.c * f.r) (h1 : u < 0) (h2 : f.r ≤ d) : sameAtB x e mb = true := by
  obtain ⟨a1, a2, a3⟩ := H.dims
  refine sameAtB_true fun k hk j hj => ?_
  rw [mbF_ix (by rw [a1, hg.c]; exact hc) (by rw [a1, a2, hg.c, hg.r]; exact hm) hk hj, a3, (like_xy hg mb k).2.2, H.of_like hg k hk mb hm j hj, if_pos rfl, sprV_none mb k u d j h1 h2]
  rw [mbF_ix (by rw [hec]; exact hc) (by rw [hec, her]; exact hm) hk hj, he k]
  rfl
/-- Is any macroblock of a column right? -/
def someTo (B : Nat → Bool) (c N : Nat) : Nat → Bool
  | 0 => false
  | k + 1 => someTo B c N k || (decide (k % c = N % c) && !B k)
theorem someTo_false {B : Nat → Bool} {c N : Nat} (n : Nat) (h : someTo B c N n = false) : ∀ k, k < n → k % c = N % c → B k = true := by
  induction n with
  | zero => intro k hk; omega
  | succ n ih =>
    unfold someTo at h
    rw [Bool.or_eq_false_iff] at h
    intro k hk e
    by_cases e2 : k = n
    · subst e2
      have := h.2
      simp [e] at this; exact this
    · exact ih h.1 k (by omega) e
theorem someTo_true {B : Nat → Bool} {c N : Nat} (n : Nat) (h : someTo B c N n = true) : ∃ k, k < n ∧ k % c = N % c ∧ B k = false := by
  induction n with
  | zero => cases h
  | succ n ih =>
    unfold someTo at h
    rw [Bool.or_eq_true] at h
    rcases h with h | h
    · obtain ⟨k, h1, h2⟩ := ih h; exact ⟨k, by omega, h2⟩
    · simp at h; exact ⟨n, by omega, h.1, h.2⟩
theorem upR_all {R : Nat → Bool} (q : Nat) (h : ∀ r, r < q → R r = true) : upR R q = -1 := by
  induction q with
  | zero => rfl
  | succ q ih => rw [upR_true (h q (by omega))]; exact ih fun r hr => h r (by omega)
theorem dnR_all {R : Nat → Bool} (q : Nat) : ∀ r, (∀ i, r ≤ i → i < r + q → R i = true) → dnR R q r = r + q := by
  induction q with
  | zero => intro r _; rfl
  | succ q ih => intro r h; rw [dnR_true (h r (by omega) (by omega)), ih (r + 1) (fun i h1 h2 => h i (by omega) (by omega))]; omega
theorem upR_some {R : Nat → Bool} {p : Nat} (q : Nat) (hp : p < q) (h : R p = false) : 0 ≤ upR R q := by
  induction q with
  | zero => omega
  | succ q ih =>
    by_cases e : p = q
    · subst e; rw [upR_false h]; omega
    · cases hq : R q
      · rw [upR_false hq]; omega
      · rw [upR_true hq]; exact ih (by omega)
theorem dnR_some {R : Nat → Bool} {p : Nat} (q : Nat) : ∀ r, r ≤ p → p < r + q → R p = false → dnR R q r < r + q := by
  induction q with
  | zero => intro r; omega
  | succ q ih =>
    intro r h1 h2 h3
    cases hr : R r
    · rw [dnR_false hr]; omega
    · rw [dnR_true hr]
      have : p ≠ r := fun e => by rw [e, hr] at h3; cases h3
      have := ih (r + 1) (by omega) (by omega) h3
      omega
theorem some_none {B : Nat → Bool} {c r N : Nat} (hc : 0 < c) (hN : N < c * r) (h : someTo B c N (c * r) = false) : upOf B c N < 0 ∧ r ≤ dnOf B c r N := by
  obtain ⟨hmc, hmr⟩ := mbdm hc hN
  have key : ∀ q, q < r → colR B c N q = true := fun q hq => by
    unfold colR
    exact someTo_false _ h _ (nat_row hq hmc) (by rw [mod_of hmc])
  unfold upOf dnOf
  rw [upR_all _ (fun q hq => key q (by omega)), dnR_all _ _ (fun i h1 h2 => key i (by omega))]
  omega
theorem some_any {B : Nat → Bool} {c r N : Nat} (hc : 0 < c) (hN : N < c * r) (h : someTo B c N (c * r) = true) : ¬ (upOf B c N < 0 ∧ r ≤ dnOf B c r N) := by
  obtain ⟨hmc, hmr⟩ := mbdm hc hN
  obtain ⟨k, hk, e, hB⟩ := someTo_true _ h
  have hkr : k / c < r := Nat.div_lt_of_lt_mul hk
  have hcol : colR B c N (k / c) = false := by
    unfold colR
    rw [← e, Nat.mul_comm, Nat.div_add_mod]; exact hB
  unfold upOf dnOf
  by_cases h1 : k / c < N / c + 1
  · have := upR_some (N / c + 1) h1 hcol; omega
  · have := dnR_some (r - N / c) (N / c) (by omega) (by omega) hcol; omega
end Go.Proofs.Ytbldgpemocnboaa

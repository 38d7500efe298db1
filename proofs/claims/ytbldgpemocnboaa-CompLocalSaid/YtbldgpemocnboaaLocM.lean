/- Samples outside of what is touched don't matter: plain laws. -/
import Derived.Test.YtbldgpemocnboaaRefM
import Derived.Test.YtbldgpemocnboaaSpr
import Derived.Test.YtbldgpemocnboaaCl1
namespace Go.Proofs.Ytbldgpemocnboaa
open Go.RowKit

/-- The macroblock of a sample of plane k. -/
def ofMb (c k a b : Nat) : Nat := b / szb k * c + a / szb k
/-- Frame x: g's size and blocks; f's samples in the macroblocks of T. -/
structure LocR (f g : Fr) (T : Nat → Prop) (x : Fr) : Prop where
  sm : ∃ sY sU sV, x = g.put sY sU sV
  ag : ∀ k, k < 6 → ∀ a b, a < f.pw k → b < f.ph k → T (ofMb f.c k a b) → x.ps k (b * f.pw k + a) = f.ps k (b * f.pw k + a)
section
variable {f g x : Fr} {T : Nat → Prop}
theorem LocR.start (h : g.Like f) : LocR f g T g := ⟨⟨g.sY, g.sU, g.sV, rfl⟩, fun k _ a b _ _ _ => by unfold Fr.ps; rw [h.y, h.u, h.v]⟩
theorem LocR.same (H : LocR f g T x) : x.c = g.c ∧ x.r = g.r ∧ x.cells = g.cells ∧ x.bY = g.bY ∧ x.bU = g.bU ∧ x.bV = g.bV ∧ ∀ k, x.pw k = g.pw k ∧ x.ph k = g.ph k ∧ x.pb k = g.pb k ∧ x.pc k = g.pc k := by
  obtain ⟨sY, sU, sV, rfl⟩ := H.sm; exact ⟨rfl, rfl, rfl, rfl, rfl, rfl, fun k => ⟨rfl, rfl, rfl, rfl⟩⟩
theorem LocR.dims (H : LocR f g T x) (h : g.Like f) : x.c = f.c ∧ x.r = f.r ∧ ∀ k, x.pw k = f.pw k ∧ x.ph k = f.ph k := by
  obtain ⟨e1, e2, _, _, _, _, e3⟩ := H.same
  refine ⟨by rw [e1, h.c], by rw [e2, h.r], fun k => ?_⟩
  rw [(e3 k).1, (e3 k).2.1]
  unfold Fr.pw Fr.ph; rw [h.c, h.r]; exact ⟨rfl, rfl⟩
theorem pwh_szb (f : Fr) (k : Nat) : f.pw k = szb k * f.c ∧ f.ph k = szb k * f.r := by unfold Fr.pw Fr.ph szb; split <;> exact ⟨rfl, rfl⟩
/-- Where a sample of a macroblock's block lies. -/
theorem pxy_mb (f : Fr) {m kb i : Nat} (hi : i < 64) : 0 ≤ f.px m kb + ((i % 8 : Nat) : Int) ∧ 0 ≤ f.py m kb + ((i / 8 : Nat) : Int) ∧
    ofMb f.c kb (f.px m kb + ((i % 8 : Nat) : Int)).toNat (f.py m kb + ((i / 8 : Nat) : Int)).toNat = m := by
  have e := Nat.div_add_mod m f.c
  have h1 : (m : Int) % (f.c : Int) = ((m % f.c : Nat) : Int) := (Int.natCast_emod m f.c).symm
  have h2 : (m : Int) / (f.c : Int) = ((m / f.c : Nat) : Int) := (Int.natCast_ediv m f.c).symm
  rw [Nat.mul_comm] at e
  unfold Fr.px Fr.py ofMb szb
  rw [h1, h2]
  generalize m % f.c = p at *
  generalize m / f.c = q at *
  split
  · refine ⟨by omega, by omega, ?_⟩
    rw [show (16 * (q : Int) + 8 * ((kb : Int) / 2) + ((i / 8 : Nat) : Int)).toNat / 16 = q by omega, show (16 * (p : Int) + 8 * ((kb : Int) % 2) + ((i % 8 : Nat) : Int)).toNat / 16 = p by omega]
    exact e
  · refine ⟨by omega, by omega, ?_⟩
    rw [show (8 * (q : Int) + ((i / 8 : Nat) : Int)).toNat / 8 = q by omega, show (8 * (p : Int) + ((i % 8 : Nat) : Int)).toNat / 8 = p by omega]
    exact e
theorem plane_eq {k kb : Nat} (h : (k < 4 ∧ kb < 4) ∨ k = kb) (f x : Fr) : f.pw k = f.pw kb ∧ f.ph k = f.ph kb ∧ szb k = szb kb ∧ x.ps k = x.ps kb := by
  rcases h with ⟨h1, h2⟩ | rfl
  · unfold Fr.pw Fr.ph szb Fr.ps; simp only [if_pos h1, if_pos h2]; exact ⟨trivial, trivial, trivial, trivial⟩
  · exact ⟨rfl, rfl, rfl, rfl⟩
/-- A sample of a macroblock that isn't of T is set. -/
theorem LocR.step (H : LocR f g T x) {m kb i : Nat} (hT : ¬ T m) (hkb : kb < 6) (hi : i < 64) (v : Int) :
    LocR f g T (x.putk kb (plSet (f.pw kb) (f.ph kb) (x.ps kb) (f.px m kb + ((i % 8 : Nat) : Int)) (f.py m kb + ((i / 8 : Nat) : Int)) v)) := by
  obtain ⟨sY, sU, sV, hx⟩ := H.sm
  refine ⟨?_, fun k hk a b ha hb hT2 => ?_⟩
  · rw [hx]; exact ⟨_, _, _, rfl⟩
  · rw [ps_putk x hk hkb]
    by_cases h : (k < 4 ∧ kb < 4) ∨ k = kb
    · rw [if_pos h]
      obtain ⟨e1, e2, e3, e4⟩ := plane_eq h f x
      have key := H.ag k hk a b ha hb hT2
      unfold plSet
      split
      · rename_i hj
        exfalso
        obtain ⟨⟨b1, b2, b3, b4⟩, hj⟩ := hj
        rw [e1] at hj ha
        obtain ⟨p1, p2, p3⟩ := pxy_mb f (m := m) (kb := kb) hi
        obtain ⟨q1, q2⟩ := idx_one ha (show (f.px m kb + ((i % 8 : Nat) : Int)).toNat < f.pw kb by omega) hj
        rw [← q1, ← q2] at p3
        unfold ofMb at hT2 p3
        rw [e3, p3] at hT2
        exact hT hT2
      · rw [e4] at key; exact key
    · rw [if_neg h]; exact H.ag k hk a b ha hb hT2
end
theorem cl_clX {c : Nat} (hc : 0 < c) (k : Nat) (v : Int) : cl v (szb k * c) = (clX c k v).toNat := by
  unfold cl clX
  rw [imin_eq, imax_eq]
  have := szc hc k
  rw [show ((szb k * c : Nat) : Int) = (szb k : Int) * (c : Int) by push_cast; rfl]
  generalize (szb k : Int) * (c : Int) = z at *
  omega
section
variable {f g x : Fr} {N : Nat} {X Y : Nat → Int}
theorem touched_smp (hc : 0 < f.c) (hr : 0 < f.r) {k i j h : Nat} (hk : k < 6) (hi : i < 64) (hj : j ≤ gH Y k) (hh : h ≤ gH X k) : touched f.c f.r N X Y (smpAt f.c f.r N X Y k i j h) := by
  by_cases h5 : k = 5
  · subst h5
    exact (sK_touched hc hr).1 ⟨4, by omega, i, hi, j, h, hj, hh, rfl⟩
  · exact (sK_touched hc hr).1 ⟨k, by omega, i, hi, j, h, hj, hh, rfl⟩
theorem loc_plAt (H : LocR f g (touched f.c f.r N X Y) x) (hc : 0 < f.c) (hr : 0 < f.r) {k i j h : Nat} (hk : k < 6) (hi : i < 64) (hj : j ≤ gH Y k) (hh : h ≤ gH X k) :
    plAt (f.pw k) (f.ph k) (x.ps k) (fX f.c f.r N X k + ((i % 8 : Nat) : Int) + h) (fY f.c f.r N Y k + ((i / 8 : Nat) : Int) + j) = plAt (f.pw k) (f.ph k) (f.ps k) (fX f.c f.r N X k + ((i % 8 : Nat) : Int) + h) (fY f.c f.r N Y k + ((i / 8 : Nat) : Int) + j) := by
  obtain ⟨e1, e2⟩ := pwh_szb f k
  have s0 : 0 < szb k := by rcases szb_or k with h | h <;> omega
  have w0 : 0 < f.pw k := by rw [e1]; exact Nat.mul_pos s0 hc
  have h0 : 0 < f.ph k := by rw [e2]; exact Nat.mul_pos s0 hr
  unfold plAt
  rw [if_neg (by omega), if_neg (by omega)]
  refine H.ag k hk _ _ (cl_lt _ w0) (cl_lt _ h0) ?_
  have e : ofMb f.c k (cl (fX f.c f.r N X k + ((i % 8 : Nat) : Int) + h) (f.pw k)) (cl (fY f.c f.r N Y k + ((i / 8 : Nat) : Int) + j) (f.ph k)) = smpAt f.c f.r N X Y k i j h := by
    unfold ofMb smpAt mbS
    rw [e1, e2, cl_clX hc, cl_clX hr]; rfl
  rw [e]
  exact touched_smp hc hr hk hi hj hh
theorem loc_predB (H : LocR f g (touched f.c f.r N X Y) x) (hl : g.Like f) (hc : 0 < f.c) (hr : 0 < f.r) (d : Bool) {k i : Nat} (hk : k < 6) (hi : i < 64) : predB x N X Y d k i = predB f N X Y d k i := by
  obtain ⟨d1, d2, d3⟩ := H.dims hl
  have hpx : x.px N k = f.px N k ∧ x.py N k = f.py N k := by unfold Fr.px Fr.py; rw [d1]; exact ⟨rfl, rfl⟩
  obtain ⟨a1, a2⟩ := fl_x (c := f.c) (r := f.r) (mb := N) (X := X) (k := k) (i % 8)
  obtain ⟨b1, b2⟩ := fl_y (c := f.c) (r := f.r) (mb := N) (Y := Y) (k := k) (i / 8)
  have p := fun {j h : Nat} => loc_plAt (j := j) (h := h) H hc hr hk hi
  have gx := gH_le X k; have gy := gH_le Y k
  unfold predB ipBlockF
  rw [(d3 k).1, (d3 k).2, hpx.1, hpx.2]
  change (2 * (f.px N k + ((i % 8 : Nat) : Int)) + vk X k) / 2 = _ at a1
  change (2 * (f.px N k + ((i % 8 : Nat) : Int)) + vk X k) % 2 = _ at a2
  change (2 * (f.py N k + ((i / 8 : Nat) : Int)) + vk Y k) / 2 = _ at b1
  change (2 * (f.py N k + ((i / 8 : Nat) : Int)) + vk Y k) % 2 = _ at b2
  unfold ipAt
  rw [a1, a2, b1, b2]
  have p00 := p (j := 0) (h := 0) (by omega) (by omega)
  rw [show ((0 : Nat) : Int) = 0 from rfl, Int.add_zero, Int.add_zero] at p00
  rw [p00]
  have cx : gH X k = 0 ∨ gH X k = 1 := by omega
  have cy : gH Y k = 0 ∨ gH Y k = 1 := by omega
  have p01 : gH X k = 1 → plAt (f.pw k) (f.ph k) (x.ps k) (fX f.c f.r N X k + ((i % 8 : Nat) : Int) + 1) (fY f.c f.r N Y k + ((i / 8 : Nat) : Int)) = plAt (f.pw k) (f.ph k) (f.ps k) (fX f.c f.r N X k + ((i % 8 : Nat) : Int) + 1) (fY f.c f.r N Y k + ((i / 8 : Nat) : Int)) := fun e => by
    have := p (j := 0) (h := 1) (by omega) (by omega)
    rwa [show ((0 : Nat) : Int) = 0 from rfl, show ((1 : Nat) : Int) = 1 from rfl, Int.add_zero] at this
  have p10 : gH Y k = 1 → plAt (f.pw k) (f.ph k) (x.ps k) (fX f.c f.r N X k + ((i % 8 : Nat) : Int)) (fY f.c f.r N Y k + ((i / 8 : Nat) : Int) + 1) = plAt (f.pw k) (f.ph k) (f.ps k) (fX f.c f.r N X k + ((i % 8 : Nat) : Int)) (fY f.c f.r N Y k + ((i / 8 : Nat) : Int) + 1) := fun e => by
    have := p (j := 1) (h := 0) (by omega) (by omega)
    rwa [show ((0 : Nat) : Int) = 0 from rfl, show ((1 : Nat) : Int) = 1 from rfl, Int.add_zero] at this
  have p11 : gH X k = 1 → gH Y k = 1 → plAt (f.pw k) (f.ph k) (x.ps k) (fX f.c f.r N X k + ((i % 8 : Nat) : Int) + 1) (fY f.c f.r N Y k + ((i / 8 : Nat) : Int) + 1) = plAt (f.pw k) (f.ph k) (f.ps k) (fX f.c f.r N X k + ((i % 8 : Nat) : Int) + 1) (fY f.c f.r N Y k + ((i / 8 : Nat) : Int) + 1) := fun e1 e2 => by
    have := p (j := 1) (h := 1) (by omega) (by omega)
    rwa [show ((1 : Nat) : Int) = 1 from rfl] at this
  rcases cx with hx | hx <;> rcases cy with hy | hy
  · simp only [hx, hy]; rfl
  · rw [p10 hy]; simp [hx, hy]
  · rw [p01 hx]; simp [hx, hy]
  · rw [p01 hx, p10 hy, p11 hx hy]
theorem loc_predF (H : LocR f g (touched f.c f.r N X Y) x) (hl : g.Like f) (hc : 0 < f.c) (hr : 0 < f.r) (d : Bool) (q : Nat) (hq : q < 384) : predF x N X Y d q = predF f N X Y d q :=
  loc_predB H hl hc hr d (by omega) (by omega)
end
end Go.Proofs.Ytbldgpemocnboaa

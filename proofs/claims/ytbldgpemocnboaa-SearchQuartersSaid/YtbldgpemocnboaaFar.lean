/- plane.Far, walked. | The plain laws of PlaneFar: a frame of which one sample differs; how far two macroblocks are from each other. -/
import Derived.Test.YtbldgpemocnboaaSameAt
import Derived.Test.YtbldgpemocnboaaRel
import Derived.Test.YtbldgpemocnboaaStr
namespace Go.Proofs.Ytbldgpemocnboaa
open Go.RowKit Go.Sort

theorem run_imax3 {P : Program} {w : World} (ts : Array TypeId) (t : TypeId) (k k' k'' : IntKind) (x y z : Int) : (Builtin.max_ ts t #[.int k x, .int k' y, .int k'' z]).run P w = .ok (.int k (imax (imax x y) z)) w := by
  have e : (Builtin.max_ ts t #[.int k x, .int k' y, .int k'' z]).run P w = (Builtin.max_ ts t #[.int k (imax x y), .int k'' z]).run P w := by
    simp [Builtin.max_, Builtin.max2, imax]
  rw [e, run_imax]
attribute [local go_sem ↓] run_imax run_imin run_imax3

/-- How far two rows of numbers are from each other, from s on. -/
def farIn (p q : Nat → Int) (s : Int) : Nat → Int
  | 0 => s
  | j + 1 => imax (imax (farIn p q s j) (p j - q j)) (q j - p j)
def farK (f g : Fr) (mb : Nat) : Nat → Int
  | 0 => 0
  | k + 1 => farIn (mbF f mb k) (mbF g mb k) (farK f g mb k) 64
theorem farIn_bd {p q : Nat → Int} {s : Int} (hs : 0 ≤ s ∧ s ≤ 255) (hp : ∀ i, 0 ≤ p i ∧ p i ≤ 255) (hq : ∀ i, 0 ≤ q i ∧ q i ≤ 255) (j : Nat) : 0 ≤ farIn p q s j ∧ farIn p q s j ≤ 255 := by
  induction j with
  | zero => exact hs
  | succ j ih =>
    have := hp j; have := hq j
    unfold farIn; rw [imax_eq, imax_eq]; omega
theorem farK_bd {f g : Fr} {w : World} (hM : f.Mem w) (hG : g.Mem w) (mb k : Nat) : 0 ≤ farK f g mb k ∧ farK f g mb k ≤ 255 := by
  induction k with
  | zero => unfold farK; omega
  | succ k ih => exact farIn_bd ih (mbF_bd hM mb k) (mbF_bd hG mb k) 64

abbrev A64 : TypeId := 27
end Go.Proofs.Ytbldgpemocnboaa

namespace Go.Proofs.Ytbldgpemocnboaa
open Go.RowKit Go.Sort

def updS (s : Nat → Int) (i : Nat) (v : Int) (j : Nat) : Int := if j = i then v else s j
theorem updS_self (s : Nat → Int) (i : Nat) : updS s i (s i) = s := by funext j; unfold updS; split <;> simp_all
/-- Another sample, in the plane of the macroblocks' block kb. -/
def Fr.upd (f : Fr) (kb i : Nat) (v : Int) : Fr := f.put (if kb < 4 then updS f.sY i v else f.sY) (if kb = 4 then updS f.sU i v else f.sU) (if kb = 5 then updS f.sV i v else f.sV)
theorem ps_upd (f : Fr) {kb k : Nat} (hk : k < 6) (hkb : kb < 6) (i : Nat) (v : Int) : (f.upd kb i v).ps k = if (k < 4 ∧ kb < 4) ∨ k = kb then updS (f.ps k) i v else f.ps k := by
  unfold Fr.ps Fr.upd Fr.put
  by_cases h1 : k < 4
  · by_cases h2 : kb < 4
    · simp [h1, h2]
    · simp [h1, h2, show k ≠ kb by omega]
  · by_cases h3 : k = 4
    · subst h3; by_cases h2 : kb = 4
      · simp [h2]
      · simp [h2, show ¬ 4 = kb by omega]
    · obtain rfl : k = 5 := by omega
      by_cases h2 : kb = 5
      · simp [h2]
      · simp [h2, show ¬ 5 = kb by omega]
theorem Fr.Mem.upd {f : Fr} {w : World} (h : f.Mem w) {kb : Nat} (hkb : kb < 6) (i : Nat) (v : Int) (hv : 0 ≤ v ∧ v ≤ 255) : (f.upd kb i v).Mem (w.setCell ⟨f.pb kb, i, none⟩ (.int .u8 v)) := by
  obtain ⟨h1, h2, hy, hu, hv', n1, n2, n3⟩ := h
  unfold Fr.upd Fr.pb
  rcases k6 hkb with h4 | rfl | rfl
  · simp only [if_pos h4, if_neg (show ¬ kb = 4 by omega), if_neg (show ¬ kb = 5 by omega)]
    exact ⟨h1, h2, hy.set i v hv, hu.other n1 i _, hv'.other n2 i _, n1, n2, n3⟩
  · exact ⟨h1, h2, hy.other n1.symm i _, hu.set i v hv, hv'.other n3 i _, n1, n2, n3⟩
  · exact ⟨h1, h2, hy.other n2.symm i _, hu.other n3.symm i _, hv'.set i v hv, n1, n2, n3⟩

def Fr.nx (f : Fr) (mb k : Nat) : Nat := if k < 4 then 16 * (mb % f.c) + 8 * (k % 2) else 8 * (mb % f.c)
def Fr.ny (f : Fr) (mb k : Nat) : Nat := if k < 4 then 16 * (mb / f.c) + 8 * (k / 2) else 8 * (mb / f.c)
theorem Fr.px_nx (f : Fr) (mb k : Nat) : f.px mb k = (f.nx mb k : Int) := by unfold Fr.px Fr.nx; split <;> simp
theorem Fr.py_ny (f : Fr) (mb k : Nat) : f.py mb k = (f.ny mb k : Int) := by unfold Fr.py Fr.ny; split <;> simp
theorem mbdm {c r mb : Nat} (hc : 0 < c) (h : mb < c * r) : mb % c < c ∧ mb / c < r := ⟨Nat.mod_lt _ hc, Nat.div_lt_of_lt_mul h⟩
theorem Fr.nxy_lt {f : Fr} {mb k : Nat} (hc : 0 < f.c) (h : mb < f.c * f.r) (hk : k < 6) : f.nx mb k + 7 < f.pw k ∧ f.ny mb k + 7 < f.ph k := by
  obtain ⟨h1, h2⟩ := mbdm hc h
  unfold Fr.nx Fr.ny Fr.pw Fr.ph; split <;> omega
/-- Where sample j of a macroblock's block lies in its plane. -/
def Fr.ix (f : Fr) (mb k j : Nat) : Nat := (f.ny mb k + j / 8) * f.pw k + (f.nx mb k + j % 8)
theorem mbF_ix {f : Fr} {mb k j : Nat} (hc : 0 < f.c) (h : mb < f.c * f.r) (hk : k < 6) (hj : j < 64) : mbF f mb k j = f.ps k (f.ix mb k j) := by
  obtain ⟨h1, h2⟩ := f.nxy_lt hc h hk
  unfold mbF blockF Fr.ix plAt
  rw [f.px_nx, f.py_ny, if_neg (by omega), cl_in (by omega) (by omega), cl_in (by omega) (by omega)]
  congr 1
def Fr.tch (f : Fr) (kb i sz : Nat) : Nat := i / f.pw kb / sz * f.c + i % f.pw kb / sz
theorem upd_pw (f : Fr) (kb i k : Nat) (v : Int) : (f.upd kb i v).pw k = f.pw k := rfl
theorem upd_ph (f : Fr) (kb i k : Nat) (v : Int) : (f.upd kb i v).ph k = f.ph k := rfl
theorem upd_ix (f : Fr) (kb i mb k j : Nat) (v : Int) : (f.upd kb i v).ix mb k j = f.ix mb k j := rfl
theorem mod_of {W x y : Nat} (h : x < W) : (y * W + x) % W = x := by rw [Nat.mul_comm, Nat.mul_add_mod]; exact Nat.mod_eq_of_lt h
theorem div_of {W x y : Nat} (h : x < W) : (y * W + x) / W = y := by rw [Nat.mul_comm, Nat.mul_add_div (by omega), Nat.div_eq_of_lt h]; rfl
theorem pw_sp {f : Fr} {k kb : Nat} (h : (k < 4 ∧ kb < 4) ∨ k = kb) : f.pw k = f.pw kb := by
  unfold Fr.pw
  rcases h with ⟨h1, h2⟩ | rfl
  · rw [if_pos h1, if_pos h2]
  · rfl
theorem ps_sp {f : Fr} {k kb : Nat} (h : (k < 4 ∧ kb < 4) ∨ k = kb) : f.ps k = f.ps kb := by
  unfold Fr.ps
  rcases h with ⟨h1, h2⟩ | rfl
  · rw [if_pos h1, if_pos h2]
  · rfl
theorem tch_ix {f : Fr} {mb k kb j sz : Nat} (hc : 0 < f.c) (h : mb < f.c * f.r) (hk : k < 6) (hj : j < 64) (hkb : kb < 6) (hsp : (k < 4 ∧ kb < 4) ∨ k = kb) (hsz : sz = if kb < 4 then 16 else 8) : f.tch kb (f.ix mb k j) sz = mb := by
  obtain ⟨h1, h2⟩ := f.nxy_lt hc h hk
  unfold Fr.tch Fr.ix
  rw [← pw_sp hsp, div_of (by omega), mod_of (by omega)]
  have e1 : (f.ny mb k + j / 8) / sz = mb / f.c := by
    unfold Fr.ny; subst hsz
    by_cases h4 : k < 4
    · rw [if_pos h4, if_pos (by omega)]; omega
    · rw [if_neg h4, if_neg (by omega)]; omega
  have e2 : (f.nx mb k + j % 8) / sz = mb % f.c := by
    unfold Fr.nx; subst hsz
    by_cases h4 : k < 4
    · rw [if_pos h4, if_pos (by omega)]; omega
    · rw [if_neg h4, if_neg (by omega)]; omega
  rw [e1, e2, Nat.mul_comm]; exact Nat.div_add_mod mb f.c
theorem ix_tch {f : Fr} {kb i sz mb : Nat} (hc : 0 < f.c) (hkb : kb = 0 ∨ kb = 4 ∨ kb = 5) (hsz : sz = if kb < 4 then 16 else 8) (hi : i < f.pw kb * f.ph kb) (hm : mb = f.tch kb i sz) :
    ∃ k j, k < 6 ∧ j < 64 ∧ ((k < 4 ∧ kb < 4) ∨ k = kb) ∧ f.ix mb k j = i := by
  have hW : f.pw kb = sz * f.c := by subst hsz; unfold Fr.pw; split <;> rfl
  have hs : 0 < sz := by subst hsz; split <;> omega
  have hx : i % f.pw kb < f.pw kb := Nat.mod_lt _ (by rw [hW]; exact Nat.mul_pos hs hc)
  have hd := Nat.div_add_mod i (f.pw kb)
  unfold Fr.tch at hm
  generalize i % f.pw kb = x at *
  generalize i / f.pw kb = y at *
  have hxs : x / sz < f.c := Nat.div_lt_of_lt_mul (by rw [← hW]; exact hx)
  have m1 : mb % f.c = x / sz := by rw [hm]; exact mod_of hxs
  have m2 : mb / f.c = y / sz := by rw [hm]; exact div_of hxs
  rcases hkb with rfl | rfl | rfl
  · simp only [show (0 : Nat) < 4 by omega, if_true] at hsz
    subst hsz
    refine ⟨2 * (y % 16 / 8) + x % 16 / 8, 8 * (y % 8) + x % 8, by omega, by omega, Or.inl ⟨by omega, by omega⟩, ?_⟩
    unfold Fr.ix Fr.nx Fr.ny
    rw [if_pos (by omega), if_pos (by omega), m1, m2, show f.pw (2 * (y % 16 / 8) + x % 16 / 8) = f.pw 0 by unfold Fr.pw; rw [if_pos (by omega), if_pos (by omega)]]
    rw [show 16 * (y / 16) + 8 * ((2 * (y % 16 / 8) + x % 16 / 8) / 2) + (8 * (y % 8) + x % 8) / 8 = y by omega, show 16 * (x / 16) + 8 * ((2 * (y % 16 / 8) + x % 16 / 8) % 2) + (8 * (y % 8) + x % 8) % 8 = x by omega, Nat.mul_comm]
    exact hd
  all_goals
    simp only [show ¬ (4 : Nat) < 4 by omega, show ¬ (5 : Nat) < 4 by omega, if_false] at hsz
    subst hsz
    first
      | refine ⟨4, 8 * (y % 8) + x % 8, by omega, by omega, Or.inr rfl, ?_⟩
      | refine ⟨5, 8 * (y % 8) + x % 8, by omega, by omega, Or.inr rfl, ?_⟩
    unfold Fr.ix Fr.nx Fr.ny
    rw [if_neg (by omega), if_neg (by omega), m1, m2]
    rw [show 8 * (y / 8) + (8 * (y % 8) + x % 8) / 8 = y by omega, show 8 * (x / 8) + (8 * (y % 8) + x % 8) % 8 = x by omega, Nat.mul_comm]
    exact hd
theorem sameAtB_true {f g : Fr} {mb : Nat} (h : ∀ k, k < 6 → ∀ j, j < 64 → mbF f mb k j = mbF g mb k j) : sameAtB f g mb = true := by
  unfold sameAtB; rw [List.all_eq_true]; intro k hk
  rw [List.all_eq_true]; intro j hj
  simpa using h k (by simpa using hk) j (by simpa using hj)
theorem sameAtB_iff {f g : Fr} {mb : Nat} : sameAtB f g mb = true ↔ ∀ k, k < 6 → ∀ j, j < 64 → mbF f mb k j = mbF g mb k j := by
  refine ⟨fun h k hk j hj => ?_, sameAtB_true⟩
  unfold sameAtB at h; rw [List.all_eq_true] at h
  have h2 := h k (by simpa using hk)
  rw [List.all_eq_true] at h2
  simpa using h2 j (by simpa using hj)
/-- Of which macroblock the other sample is. -/
theorem sameAt_upd {f h : Fr} {kb i sz mb : Nat} {v : Int} (hlk : h.Like f) (hc : 0 < f.c) (hkb : kb = 0 ∨ kb = 4 ∨ kb = 5) (hsz : sz = if kb < 4 then 16 else 8) (hi : i < f.pw kb * f.ph kb) (hm : mb < f.c * f.r) (b : Bool) (hb : v = f.ps kb i ↔ b = true) :
    sameAtB f (h.upd kb i v) mb = (b || decide (mb ≠ f.tch kb i sz)) := by
  have hk6 : kb < 6 := by omega
  have e : ∀ k j, mbF (h.upd kb i v) mb k j = mbF (f.upd kb i v) mb k j := by
    intro k j
    unfold mbF blockF Fr.pw Fr.ph Fr.px Fr.py Fr.ps Fr.upd Fr.put
    simp only [hlk.c, hlk.r, hlk.y, hlk.u, hlk.v]
  have key : sameAtB f (f.upd kb i v) mb = (b || decide (mb ≠ f.tch kb i sz)) := by
    by_cases h1 : v = f.ps kb i
    · rw [hb.1 h1]
      simp only [Bool.true_or]
      refine sameAtB_true fun k hk j hj => ?_
      rw [mbF_ix hc hm hk hj, mbF_ix (f := f.upd kb i v) hc hm hk hj, upd_ix, ps_upd f hk hk6]
      split
      · rename_i hsp; rw [h1, ← ps_sp hsp, updS_self]
      · rfl
    · have hb2 : b = false := by
        cases b with
        | false => rfl
        | true => exact absurd (hb.2 rfl) h1
      subst hb2
      simp only [Bool.false_or]
      by_cases h2 : mb = f.tch kb i sz
      · obtain ⟨k, j, hk, hj, hsp, hix⟩ := ix_tch hc hkb hsz hi h2
        rw [decide_eq_false (by simpa using h2), Bool.eq_false_iff]
        intro h3
        have h4 := sameAtB_iff.1 h3 k hk j hj
        rw [mbF_ix hc hm hk hj, mbF_ix (f := f.upd kb i v) hc hm hk hj, upd_ix, ps_upd f hk hk6, if_pos hsp, hix] at h4
        unfold updS at h4
        rw [if_pos rfl, ps_sp hsp] at h4
        exact h1 h4.symm
      · rw [decide_eq_true (by simpa using h2)]
        refine sameAtB_true fun k hk j hj => ?_
        rw [mbF_ix hc hm hk hj, mbF_ix (f := f.upd kb i v) hc hm hk hj, upd_ix, ps_upd f hk hk6]
        split
        · rename_i hsp
          unfold updS
          rw [if_neg]
          intro hx
          exact h2 (by rw [← hx]; exact (tch_ix hc hm hk hj hk6 hsp hsz).symm)
        · rfl
  rw [← key, Bool.eq_iff_iff, sameAtB_iff, sameAtB_iff]
  exact ⟨fun H k hk j hj => by rw [H k hk j hj, e], fun H k hk j hj => by rw [H k hk j hj, e]⟩
theorem same_upd {f h : Fr} {kb i : Nat} {v : Int} {w : World} (hM : f.Mem w) (hU : (h.upd kb i v).Mem w) (hlk : h.Like f) (hkb : kb = 0 ∨ kb = 4 ∨ kb = 5) (hi : i < f.pw kb * f.ph kb) (b : Bool) (hb : v = f.ps kb i ↔ b = true) : sameB f (h.upd kb i v) = b := by
  cases b with
  | true =>
    have hv := hb.2 rfl
    subst hv
    refine sameB_of hlk.c.symm hlk.r.symm (fun k _ => ?_) (fun k _ => ?_) (fun k _ => ?_)
    all_goals
      rcases hkb with rfl | rfl | rfl <;> simp [Fr.upd, Fr.put, Fr.ps, hlk.y, hlk.u, hlk.v, updS_self]
  | false =>
    rw [Bool.eq_false_iff]
    intro h2
    obtain ⟨-, -, h3, h4, h5⟩ := sameB_only hM hU h2
    have hv : v ≠ f.ps kb i := fun e => by have := hb.1 e; cases this
    rcases hkb with rfl | rfl | rfl
    · have := h3 i (by simpa [Fr.pw, Fr.ph] using hi)
      simp [Fr.upd, Fr.put, updS] at this
      exact hv (by simp [Fr.ps, this])
    · have := h4 i (by simpa [Fr.pw, Fr.ph] using hi)
      simp [Fr.upd, Fr.put, updS] at this
      exact hv (by simp [Fr.ps, this])
    · have := h5 i (by simpa [Fr.pw, Fr.ph] using hi)
      simp [Fr.upd, Fr.put, updS] at this
      exact hv (by simp [Fr.ps, this])
theorem farIn_zero {p q : Nat → Int} {s : Int} (hs : 0 ≤ s) (j : Nat) : 0 ≤ farIn p q s j ∧ (farIn p q s j = 0 ↔ s = 0 ∧ ∀ i, i < j → p i = q i) := by
  induction j with
  | zero => exact ⟨hs, by simp [farIn]⟩
  | succ j ih =>
    obtain ⟨h1, h2⟩ := ih
    unfold farIn
    rw [imax_eq, imax_eq]
    refine ⟨by omega, ⟨fun h => ?_, fun ⟨h3, h4⟩ => ?_⟩⟩
    · have h5 := h2.1 (by omega)
      refine ⟨h5.1, fun i hi => ?_⟩
      by_cases e : i = j
      · subst e; omega
      · exact h5.2 i (by omega)
    · have h5 := h2.2 ⟨h3, fun i hi => h4 i (by omega)⟩
      have := h4 j (by omega)
      omega
theorem farK_zero (f g : Fr) (mb k : Nat) : 0 ≤ farK f g mb k ∧ (farK f g mb k = 0 ↔ ∀ k', k' < k → ∀ j, j < 64 → mbF f mb k' j = mbF g mb k' j) := by
  induction k with
  | zero => exact ⟨by unfold farK; omega, by simp [farK]⟩
  | succ k ih =>
    obtain ⟨h1, h2⟩ := ih
    obtain ⟨h3, h4⟩ := farIn_zero (p := mbF f mb k) (q := mbF g mb k) h1 64
    refine ⟨h3, ?_⟩
    unfold farK
    rw [h4, h2]
    refine ⟨fun ⟨a, b⟩ k' hk' => ?_, fun h => ⟨fun k' hk' => h k' (by omega), h k (by omega)⟩⟩
    by_cases e : k' = k
    · subst e; exact b
    · exact a k' (by omega)
theorem far_same (f g : Fr) (mb : Nat) : sameAtB f g mb = (farK f g mb 6 == 0) := by
  rw [Bool.eq_iff_iff, sameAtB_iff, beq_iff_eq]; exact (farK_zero f g mb 6).2.symm
theorem xor_u8 (s b : Int) (hs : 0 ≤ s ∧ s ≤ 255) (hb : 0 ≤ b ∧ b ≤ 255) : ∃ v, bits .xor .u8 s b = v ∧ (0 ≤ v ∧ v ≤ 255) ∧ (v = s ↔ (b == 0) = true) := by
  obtain ⟨m, rfl⟩ : ∃ m : Nat, s = m := ⟨s.toNat, by omega⟩
  obtain ⟨n, rfl⟩ : ∃ n : Nat, b = n := ⟨b.toNat, by omega⟩
  have h1 : (BitVec.ofInt IntKind.u8.bits (m : Int)).toNat = m := by simp [IntKind.bits]; omega
  have h2 : (BitVec.ofInt IntKind.u8.bits (n : Int)).toNat = n := by simp [IntKind.bits]; omega
  have h3 : m ^^^ n < 2 ^ 8 := Nat.xor_lt_two_pow (by omega) (by omega)
  refine ⟨((m ^^^ n : Nat) : Int), ?_, by omega, ?_⟩
  · unfold bits
    simp only [BitVec.toNat_xor, h1, h2]
    simp [IntKind.wrap, IntKind.bits, IntKind.signed]; omega
  · have h4 : m ^^^ n = m ↔ n = 0 := by
      refine ⟨fun h => ?_, fun h => by subst h; simp⟩
      have : m ^^^ (m ^^^ n) = n := by rw [← Nat.xor_assoc]; simp
      rw [h] at this; simpa using this.symm
    rw [beq_iff_eq]; omega
end Go.Proofs.Ytbldgpemocnboaa

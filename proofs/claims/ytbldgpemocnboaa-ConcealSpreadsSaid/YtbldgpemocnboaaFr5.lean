/- plane.Frame's Fill, walked. -/
import Derived.Test.YtbldgpemocnboaaFr4
namespace Go.Proofs.Ytbldgpemocnboaa
open Go.RowKit
attribute [local go_sem ↓] run_imax run_imin

/-- Of what was there at most the blocks a, b, c have changed. -/
structure WrF (a b c : Nat) (w w' : World) : Prop where
  os : w'.os = w.os
  tape : w'.tape = w.tape
  output : w'.output = w.output
  size : w.heap.size ≤ w'.heap.size
  block : ∀ k, k < w.heap.size → k ≠ a → k ≠ b → k ≠ c → w'.heap[k]? = w.heap[k]?
section
variable {a b c d : Nat} {w w1 w2 : World}
theorem WrF.refl (a b c : Nat) (w : World) : WrF a b c w w := ⟨rfl, rfl, rfl, Nat.le_refl _, fun _ _ _ _ _ => rfl⟩
theorem WrF.of_below (h : Below w.heap.size w w1) : WrF a b c w w1 := ⟨h.os, h.tape, h.output, h.size, fun k hk _ _ _ => h.block k hk⟩
theorem WrF.trans (h : WrF a b c w w1) (h2 : WrF a b c w1 w2) : WrF a b c w w2 :=
  ⟨h2.os.trans h.os, h2.tape.trans h.tape, h2.output.trans h.output, Nat.le_trans h.size h2.size, fun k hk e1 e2 e3 => (h2.block k (Nat.lt_of_lt_of_le hk h.size) e1 e2 e3).trans (h.block k hk e1 e2 e3)⟩
theorem WrF.of_wr (h : Wr d w w1) (hd : d = a ∨ d = b ∨ d = c) : WrF a b c w w1 := ⟨h.os, h.tape, h.output, h.size, fun k hk e1 e2 e3 => h.block k hk (by rcases hd with rfl | rfl | rfl <;> assumption)⟩
theorem WrF.wr (h : WrF a b c w w1) (h2 : Wr d w1 w2) (hd : d = a ∨ d = b ∨ d = c) : WrF a b c w w2 := h.trans (.of_wr h2 hd)
theorem WrF.alloc (h : WrF a b c w w1) (o : Obj) : WrF a b c w (w1.alloc o) := h.trans (.of_below ((Below.refl _ _).alloc (Nat.le_refl _) _))
theorem WrF.step (h : WrF a b c w w1) (hb : Below w1.heap.size w1 w2) : WrF a b c w w2 := h.trans (.of_below hb)
theorem WrF.below {B : Nat} (h : WrF a b c w1 w2) (hw : Below B w w1) (hB : B ≤ w1.heap.size) (ha : B ≤ a) (hb : B ≤ b) (hc : B ≤ c) : Below B w w2 :=
  ⟨h.os.trans hw.os, h.tape.trans hw.tape, h.output.trans hw.output, Nat.le_trans hw.size h.size, fun k hk => (h.block k (by omega) (by omega) (by omega) (by omega)).trans (hw.block k hk)⟩
theorem Ob.wrf {q : Nat} {T : TypeId} {cs : Array Value} (h : Ob w q T cs) (hw : WrF a b c w w1) (h1 : q ≠ a) (h2 : q ≠ b) (h3 : q ≠ c) : Ob w1 q T cs := by
  unfold Ob; rw [hw.block q h.lt h1 h2 h3]; exact h
theorem VB.wrf {q n : Nat} {T : TypeId} {f : Nat → Value} (h : VB w q T n f) (hw : WrF a b c w w1) (h1 : q ≠ a) (h2 : q ≠ b) (h3 : q ≠ c) : VB w1 q T n f := by
  obtain ⟨m, F, hm, hk, hF⟩ := h
  refine ⟨m, F, hm, ?_, hF⟩
  unfold Blk
  rw [hw.block q hk.lt h1 h2 h3]; exact hk
theorem PB.wrf {q n : Nat} {s : Nat → Int} (h : PB w q n s) (hw : WrF a b c w w1) (h1 : q ≠ a) (h2 : q ≠ b) (h3 : q ≠ c) : PB w1 q n s := ⟨h.vb.wrf hw h1 h2 h3, h.bd⟩
end
theorem Fr.Mem.wrf {f : Fr} {a b c : Nat} {w w1 : World} (h : f.Mem w) (hw : WrF a b c w w1) (hy : f.bY ≠ a ∧ f.bY ≠ b ∧ f.bY ≠ c) (hu : f.bU ≠ a ∧ f.bU ≠ b ∧ f.bU ≠ c) (hv : f.bV ≠ a ∧ f.bV ≠ b ∧ f.bV ≠ c) : f.Mem w1 :=
  ⟨h.hc, h.hr, h.y.wrf hw hy.1 hy.2.1 hy.2.2, h.u.wrf hw hu.1 hu.2.1 hu.2.2, h.v.wrf hw hv.1 hv.2.1 hv.2.2, h.yu, h.yv, h.uv⟩
/-- The same frame, with other samples. -/
def Fr.put (f : Fr) (sY sU sV : Nat → Int) : Fr := ⟨f.c, f.r, f.bY, f.bU, f.bV, f.cY, f.cU, f.cV, sY, sU, sV⟩

theorem idx_inj {W a b i j : Nat} (ha : a < W) (hi : i < W) (h : b * W + a = j * W + i) : a = i ∧ b = j := by
  have h1 : (b * W + a) % W = a := by rw [Nat.mul_comm, Nat.mul_add_mod]; exact Nat.mod_eq_of_lt ha
  have h2 : (j * W + i) % W = i := by rw [Nat.mul_comm, Nat.mul_add_mod]; exact Nat.mod_eq_of_lt hi
  have h3 : (b * W + a) / W = b := by rw [Nat.mul_comm, Nat.mul_add_div (by omega), Nat.div_eq_of_lt ha]; rfl
  have h4 : (j * W + i) / W = j := by rw [Nat.mul_comm, Nat.mul_add_div (by omega), Nat.div_eq_of_lt hi]; rfl
  exact ⟨by rw [← h1, h, h2], by rw [← h3, h, h4]⟩

/-- In the square, and done. -/
def inSq (x0 y0 : Nat) (mx my : Int) (j i : Nat) (a b : Nat) : Prop := x0 ≤ a ∧ (a : Int) < mx ∧ y0 ≤ b ∧ (b : Int) < my ∧ (b < j ∨ (b = j ∧ a < i))
/-- The samples so far. -/
structure FillS (W H : Nat) (x0 y0 : Nat) (mx my : Int) (l b r : Int) (j i : Nat) (s sY sU sV : Nat → Int) (W' : Nat) : Prop where
  y : ∀ a c, a < W → c < H → inSq x0 y0 mx my j i a c → sY (c * W + a) = l
  n : ∀ a c, a < W → c < H → ¬ inSq x0 y0 mx my j i a c → sY (c * W + a) = s (c * W + a)
  u : ∀ a c, a < W → c < H → inSq x0 y0 mx my j i a c → sU (c / 2 * W' + a / 2) = b
  v : ∀ a c, a < W → c < H → inSq x0 y0 mx my j i a c → sV (c / 2 * W' + a / 2) = r
section
variable {W H x0 y0 j i W' H' : Nat} {mx my l b r : Int} {s sY sU sV : Nat → Int}
theorem FillS.start : FillS W H x0 y0 mx my l b r y0 0 s s sU sV W' :=
  ⟨fun a c _ _ h => by unfold inSq at h; omega, fun _ _ _ _ _ => rfl, fun a c _ _ h => by unfold inSq at h; omega, fun a c _ _ h => by unfold inSq at h; omega⟩
theorem inSq_row (hi : i ≤ x0) (a c : Nat) : inSq x0 y0 mx my j i a c ↔ inSq x0 y0 mx my j 0 a c := by unfold inSq; omega
theorem inSq_next (hi : mx ≤ i) (a c : Nat) : inSq x0 y0 mx my j i a c ↔ inSq x0 y0 mx my (j + 1) 0 a c := by unfold inSq; omega
theorem FillS.iff {j' i' : Nat} (h : FillS W H x0 y0 mx my l b r j i s sY sU sV W') (e : ∀ a c, inSq x0 y0 mx my j i a c ↔ inSq x0 y0 mx my j' i' a c) : FillS W H x0 y0 mx my l b r j' i' s sY sU sV W' :=
  ⟨fun a c h1 h2 h3 => h.y a c h1 h2 ((e a c).2 h3), fun a c h1 h2 h3 => h.n a c h1 h2 (fun h4 => h3 ((e a c).1 h4)), fun a c h1 h2 h3 => h.u a c h1 h2 ((e a c).2 h3), fun a c h1 h2 h3 => h.v a c h1 h2 ((e a c).2 h3)⟩
theorem FillS.step (h : FillS W H x0 y0 mx my l b r j i s sY sU sV W') (hi : x0 ≤ i) (hj : y0 ≤ j) (him : (i : Int) < mx) (hjm : (j : Int) < my) (hiW : i < W) (hjH : j < H) (hu : i / 2 < W' ∧ j / 2 < H') :
    FillS W H x0 y0 mx my l b r j (i + 1) s (plSet W H sY (i : Int) (j : Int) l) (plSet W' H' sU ((i : Int) / 2) ((j : Int) / 2) b) (plSet W' H' sV ((i : Int) / 2) ((j : Int) / 2) r) W' := by
  have e1 : ((i : Int) / 2).toNat = i / 2 := by omega
  have e2 : ((j : Int) / 2).toNat = j / 2 := by omega
  rw [plSet_in (by omega), plSet_in (by omega), plSet_in (by omega)]
  simp only [Int.toNat_natCast, e1, e2]
  have hsq : ∀ a c, inSq x0 y0 mx my j (i + 1) a c → inSq x0 y0 mx my j i a c ∨ (a = i ∧ c = j) := by intro a c; unfold inSq; omega
  refine ⟨fun a c h1 h2 h3 => ?_, fun a c h1 h2 h3 => ?_, fun a c h1 h2 h3 => ?_, fun a c h1 h2 h3 => ?_⟩
  · split
    · rfl
    · rename_i hne
      rcases hsq a c h3 with h4 | ⟨rfl, rfl⟩
      · exact h.y a c h1 h2 h4
      · exact absurd rfl hne
  · split
    · rename_i he
      obtain ⟨rfl, rfl⟩ := idx_inj h1 hiW he
      exact absurd (by unfold inSq; omega) h3
    · exact h.n a c h1 h2 (fun h4 => h3 (by unfold inSq at *; omega))
  · split
    · rfl
    · rename_i hne
      rcases hsq a c h3 with h4 | ⟨rfl, rfl⟩
      · exact h.u a c h1 h2 h4
      · exact absurd rfl hne
  · split
    · rfl
    · rename_i hne
      rcases hsq a c h3 with h4 | ⟨rfl, rfl⟩
      · exact h.v a c h1 h2 h4
      · exact absurd rfl hne
end
end Go.Proofs.Ytbldgpemocnboaa

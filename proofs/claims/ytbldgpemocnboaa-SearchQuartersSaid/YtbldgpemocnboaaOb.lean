/- Blocks of memory with their cells written out (structs), and what a call that leaves old memory alone does to each. Arrays of 64 ints. Nothing of the program is named here but types. | append of a whole slice onto an empty one: a copy. -/
import Derived.Test.YtbldgpemocnboaaArr
import Derived.Deep.QuietTactic
import Derived.BigQuiet
import Derived.Lib.QuietBelow
import Derived.Deep.RegionLaw
import Derived.Deep.RegionLawGrows
namespace Go.Proofs.Ytbldgpemocnboaa
open Go.RowKit

theorem below_drewN {B : Nat} {a w : World} (h : Below B a w) (q : Nat) : Below B a (w.drewN q) := ⟨h.os, h.tape, h.output, h.size, h.block⟩
theorem below_step {w w1 w2 : World} (h : Below w.heap.size w w1) (hb : Below w1.heap.size w1 w2) : Below w.heap.size w w2 := h.trans (hb.mono h.size)
theorem Blk.later {w w' : World} {b n : Nat} {T : TypeId} {f : Nat → Value} (h : Blk w b T n f) (hb : Below w.heap.size w w') : Blk w' b T n f := h.below hb h.lt

/-- Block b holds these cells; none of it is frozen. -/
def Ob (w : World) (b : Nat) (T : TypeId) (cs : Array Value) : Prop := w.heap[b]? = some (.cells cs T (0, 0))
section
variable {w w' : World} {b : Nat} {T : TypeId} {cs : Array Value}
theorem Ob.cell (h : Ob w b T cs) (k : Nat) {v : Value} (hk : cs[k]? = some v) : w.cell? ⟨b, k, none⟩ = some v := by
  rw [cell_of_row w b k _ _ _ h]; exact hk
theorem Ob.free (h : Ob w b T cs) (k : Nat) : w.frozen? ⟨b, k, none⟩ = false := frozen_of_row w b k _ _ h
theorem Ob.lt (h : Ob w b T cs) : b < w.heap.size := lt_of_block h
theorem Ob.below {B : Nat} (h : Ob w b T cs) (hb : Below B w w') (hB : b < B) : Ob w' b T cs := by
  unfold Ob; rw [hb.block b hB]; exact h
theorem Ob.later (h : Ob w b T cs) (hb : Below w.heap.size w w') : Ob w' b T cs := h.below hb h.lt
theorem Ob.alloc (h : Ob w b T cs) (o : Obj) : Ob (w.alloc o) b T cs := by
  unfold Ob; rw [Below.heap_alloc w o b h.lt]; exact h
theorem Ob.drew (h : Ob w b T cs) : Ob w.drew b T cs := h
theorem Ob.drewN (h : Ob w b T cs) (q : Nat) : Ob (w.drewN q) b T cs := h
theorem Ob.other (h : Ob w b T cs) {c : Nat} (hc : c ≠ b) (k : Nat) (v : Value) : Ob (w.setCell ⟨c, k, none⟩ v) b T cs := by
  unfold Ob; rw [heap_setCell_other w _ b v (fun e => hc e.symm)]; exact h
theorem Ob.set (h : Ob w b T cs) (k : Nat) (v : Value) : Ob (w.setCell ⟨b, k, none⟩ v) b T (cs.setIfInBounds k v) := by
  unfold Ob; exact heap_setCell_same w b k _ _ v h
theorem Ob.setRow (h : Ob w b T cs) {c : Nat} (hc : c ≠ b) (ds : Array Value) : Ob (w.setRow c ds) b T cs := by
  unfold Ob; rw [setRow_other w c b ds (fun e => hc e.symm)]; exact h
theorem Ob.setRow_same (h : Ob w b T cs) (ds : Array Value) : Ob (w.setRow b ds) b T ds := setRow_heap w b _ _ _ _ h
theorem Ob.new_at {w : World} {b : Nat} (T : TypeId) (cs : Array Value) (hb : b = w.heap.size) : Ob (w.alloc (.cells cs T)) b T cs := by
  subst hb; exact heap_alloc_new w _
end

section
variable {P : Program} {ops : Array Oper} {rest : List Oper} {o : Oper} {a : Act} {w : World} {Q : Exit → Act → World → Prop} {b : Nat} {T : TypeId} {cs : Array Value} {fs : Array Field}
/-- A whole struct read out of its block; stored into it; as a result that lies in its block. -/
theorem wpList_load_ob (H : Ob w b T cs) (hgd : o.guard = none) (ty : TypeId) (x : Operand) (ho : o.op = .load ty x) (hx : a.eval x = .pointer (some ⟨b, 0, none⟩))
    (hu : P.underlying ty = some (.struct fs)) (hi : (P.info? ty).map (·.size) = some cs.size)
    (h : wpList P ops Q rest (a.put o.dst (.agg cs)) w) : wpList P ops Q (o :: rest) a w :=
  wpList_load_row hgd ty x ho b hx T cs (0, 0) _ H hu rfl hi h
theorem wpList_load_ob_g (H : Ob w b T cs) (hw : Region.wanted o (yielded ops a.tmps) = true) (ty : TypeId) (x : Operand) (ho : o.op = .load ty x) (hx : a.eval x = .pointer (some ⟨b, 0, none⟩))
    (hu : P.underlying ty = some (.struct fs)) (hi : (P.info? ty).map (·.size) = some cs.size)
    (h : wpList P ops Q rest (a.put o.dst (.agg cs)) w) : wpList P ops Q (o :: rest) a w :=
  wpList_step fun K hK => by
    rw [if_pos hw]
    exact wp_load_row ty x ho b hx T cs (0, 0) _ H hu rfl hi (hK _ _ h)
theorem wpList_store_ob (H : Ob w b T cs) (hgd : o.guard = none) (ty : TypeId) (x y : Operand) (ho : o.op = .store ty x y) (hx : a.eval x = .pointer (some ⟨b, 0, none⟩)) (ds : Array Value) (hy : a.eval y = .agg ds)
    (hi : (P.info? ty).map (·.size) = some ds.size) (hs : cs.size = ds.size) (h1 : ds.toList.all (·.oneCell') = true)
    (h : wpList P ops Q rest (a.put o.dst undef) (w.setRow b ds)) : wpList P ops Q (o :: rest) a w :=
  wpList_store_row hgd ty x y ho b ds hx hy T cs H hi hs (by rw [← Array.all_toList]; exact h1) h
theorem results_ob {fn : Func} {p : Tmp} {ty : TypeId} (h : fn.results = #[.cell p ty]) (tmps : Array Value)
    (H : Ob w b T cs) (hp : tmps.getD p undef = .pointer (some ⟨b, 0, none⟩)) (hu : P.underlying ty = some (.struct fs)) (hi : (P.info? ty).map (·.size) = some cs.size) :
    (results fn tmps).run P w = .ok (.agg cs) w :=
  results_cell_row h tmps w b T cs (0, 0) _ hp H hu rfl hi
end

/-- The first n cells of block b, of type T, are f's; the block may be longer; none of it is frozen. -/
def VB (w : World) (b : Nat) (T : TypeId) (n : Nat) (f : Nat → Value) : Prop := ∃ c F, n ≤ c ∧ Blk w b T c F ∧ ∀ k, k < n → F k = f k
section
variable {w w' : World} {b n : Nat} {T : TypeId} {f : Nat → Value}
theorem VB.cell (h : VB w b T n f) {k : Nat} (hk : k < n) : w.cell? ⟨b, k, none⟩ = some (f k) := by
  obtain ⟨c, F, hc, hB, hF⟩ := h
  rw [hB.cell (by omega), hF k hk]
theorem VB.free (h : VB w b T n f) (k : Nat) : w.frozen? ⟨b, k, none⟩ = false := by
  obtain ⟨c, F, hc, hB, hF⟩ := h; exact hB.free k
theorem VB.lt (h : VB w b T n f) : b < w.heap.size := by
  obtain ⟨c, F, hc, hB, hF⟩ := h; exact hB.lt
theorem VB.below {B : Nat} (h : VB w b T n f) (hb : Below B w w') (hB : b < B) : VB w' b T n f := by
  obtain ⟨c, F, hc, hk, hF⟩ := h; exact ⟨c, F, hc, hk.below hb hB, hF⟩
theorem VB.later (h : VB w b T n f) (hb : Below w.heap.size w w') : VB w' b T n f := h.below hb h.lt
theorem VB.alloc (h : VB w b T n f) (o : Obj) : VB (w.alloc o) b T n f := by
  obtain ⟨c, F, hc, hk, hF⟩ := h; exact ⟨c, F, hc, hk.alloc o, hF⟩
theorem VB.drew (h : VB w b T n f) : VB w.drew b T n f := h
theorem VB.drewN (h : VB w b T n f) (q : Nat) : VB (w.drewN q) b T n f := h
theorem VB.other (h : VB w b T n f) {c : Nat} (hc : c ≠ b) (k : Nat) (v : Value) : VB (w.setCell ⟨c, k, none⟩ v) b T n f := by
  obtain ⟨c', F, hc', hk, hF⟩ := h; exact ⟨c', F, hc', hk.other hc k v, hF⟩
theorem VB.setRow (h : VB w b T n f) {c : Nat} (hc : c ≠ b) (cs : Array Value) : VB (w.setRow c cs) b T n f := by
  obtain ⟨c', F, hc', hk, hF⟩ := h; exact ⟨c', F, hc', hk.setRow hc cs, hF⟩
theorem VB.set (h : VB w b T n f) (k : Nat) (v : Value) : VB (w.setCell ⟨b, k, none⟩ v) b T n (fun j => if j = k then v else f j) := by
  obtain ⟨c, F, hc, hk, hF⟩ := h
  refine ⟨c, _, hc, hk.set k _, fun j hj => ?_⟩
  by_cases e : j = k
  · simp [e]
  · simp only [if_neg e]; exact hF j hj
theorem VB.congr {f' : Nat → Value} (h : VB w b T n f) (e : ∀ k, k < n → f k = f' k) : VB w b T n f' := by
  obtain ⟨c, F, hc, hk, hF⟩ := h
  exact ⟨c, F, hc, hk, fun j hj => by rw [← e j hj]; exact hF j hj⟩
theorem VB.less {m : Nat} (h : VB w b T n f) (hm : m ≤ n) : VB w b T m f := by
  obtain ⟨c, F, hc, hk, hF⟩ := h
  exact ⟨c, F, by omega, hk, fun j hj => hF j (by omega)⟩
/-- A row that the call owns holds its cells. -/
theorem VB.of_owns {base : Nat} {g m cap : Nat} {xs : List Value} (h : w.ownsRow base T 1 (.slice (some ⟨g, 0, none⟩) m cap) m xs) (hs : ∀ k, k < m → xs[k]? = some (f k)) : VB w g T m f ∧ base ≤ g ∧ m ≤ cap ∧ cap ≤ maxLen := by
  obtain ⟨h1, h2⟩ := h
  rcases h2 with ⟨h2, _⟩ | ⟨g', cap', cur, hv, hg, hh, hc1, hc2, hsz, ht⟩
  · simp at h2
  · simp only [Value.slice.injEq, Option.some.injEq, Addr.mk.injEq, and_true, true_and] at hv
    obtain ⟨rfl, rfl⟩ := hv
    refine ⟨⟨cur.size, fun j => cur.getD j undef, by omega, ?_, fun k hk => ?_⟩, hg, hc1, hc2⟩
    · unfold Blk; rw [← fcells_of]; exact hh
    · have h3 := hs k hk
      rw [← ht, List.getElem?_take, if_pos (by omega)] at h3
      simp only [Array.getElem?_toList] at h3
      show cur.getD k undef = _
      rw [Array.getD_eq_getD_getElem?, h3]; rfl
end
/-- Of what was there at most block b has changed. -/
structure Wr (b : Nat) (w w' : World) : Prop where
  os : w'.os = w.os
  tape : w'.tape = w.tape
  output : w'.output = w.output
  size : w.heap.size ≤ w'.heap.size
  block : ∀ k, k < w.heap.size → k ≠ b → w'.heap[k]? = w.heap[k]?
theorem Wr.of_below {b : Nat} {w w' : World} (h : Below w.heap.size w w') : Wr b w w' := ⟨h.os, h.tape, h.output, h.size, fun k hk _ => h.block k hk⟩
theorem Wr.refl (b : Nat) (w : World) : Wr b w w := .of_below (Below.refl _ _)
theorem Wr.trans {b : Nat} {w w1 w2 : World} (h : Wr b w w1) (h2 : Wr b w1 w2) : Wr b w w2 :=
  ⟨h2.os.trans h.os, h2.tape.trans h.tape, h2.output.trans h.output, Nat.le_trans h.size h2.size, fun k hk hb => (h2.block k (Nat.lt_of_lt_of_le hk h.size) hb).trans (h.block k hk hb)⟩
theorem Wr.alloc {b : Nat} {w w1 : World} (h : Wr b w w1) (o : Obj) : Wr b w (w1.alloc o) := h.trans (.of_below ((Below.refl _ _).alloc (Nat.le_refl _) _))
theorem Wr.drew {b : Nat} {w w1 : World} (h : Wr b w w1) : Wr b w w1.drew := ⟨h.os, h.tape, h.output, h.size, h.block⟩
theorem Wr.setCell {b : Nat} {w w1 : World} (h : Wr b w w1) (k : Nat) (v : Value) : Wr b w (w1.setCell ⟨b, k, none⟩ v) :=
  ⟨h.os, h.tape, h.output, by simp [World.setCell]; exact h.size, fun j hj hb => by rw [Below.heap_setCell _ _ _ _ hb]; exact h.block j hj hb⟩
/-- A store into a block that the call made. -/
theorem Wr.setNew {b : Nat} {w w1 : World} (h : Wr b w w1) {c : Nat} (hc : w.heap.size ≤ c) (k : Nat) (v : Value) : Wr b w (w1.setCell ⟨c, k, none⟩ v) :=
  ⟨h.os, h.tape, h.output, by simp [World.setCell]; exact h.size, fun j hj hb => by rw [Below.heap_setCell _ _ _ _ (by show j ≠ c; omega)]; exact h.block j hj hb⟩
theorem Wr.setRowNew {b : Nat} {w w1 : World} (h : Wr b w w1) {c : Nat} (hc : w.heap.size ≤ c) (cs : Array Value) : Wr b w (w1.setRow c cs) :=
  ⟨h.os, h.tape, h.output, by simp; exact h.size, fun j hj hb => by rw [setRow_other w1 c j cs (by omega)]; exact h.block j hj hb⟩
theorem Wr.step {b : Nat} {w w1 w2 : World} (h : Wr b w w1) (hb : Below w1.heap.size w1 w2) : Wr b w w2 := h.trans (.of_below hb)
/-- A write into a block that a longer call made. -/
theorem Wr.below {b : Nat} {w w1 w2 : World} (h : Wr b w1 w2) (hw : Below w.heap.size w w1) (hb : w.heap.size ≤ b) : Below w.heap.size w w2 :=
  ⟨h.os.trans hw.os, h.tape.trans hw.tape, h.output.trans hw.output, Nat.le_trans hw.size h.size, fun k hk => (h.block k (Nat.lt_of_lt_of_le hk hw.size) (by omega)).trans (hw.block k hk)⟩
section
variable {w w' : World} {b c n : Nat} {T : TypeId} {cs : Array Value} {f : Nat → Value}
theorem Ob.wr (h : Ob w c T cs) (hw : Wr b w w') (hc : c ≠ b) : Ob w' c T cs := by
  unfold Ob; rw [hw.block c h.lt hc]; exact h
theorem Blk.wr (h : Blk w c T n f) (hw : Wr b w w') (hc : c ≠ b) : Blk w' c T n f := by
  unfold Blk; rw [hw.block c h.lt hc]; exact h
theorem VB.wr (h : VB w c T n f) (hw : Wr b w w') (hc : c ≠ b) : VB w' c T n f := by
  obtain ⟨c', F, hc', hk, hF⟩ := h; exact ⟨c', F, hc', hk.wr hw hc, hF⟩
end
theorem below_grown {w w' : World} (hg : w.grownBy w' none) : Below w.heap.size w w' := (Below.refl _ _).grown hg (Nat.le_refl _) (fun _ h => by cases h)
/-- make of n elements of one cell each. -/
theorem wpList_make_vb {P : Program} {w : World} {ops : Array Oper} {rest : List Oper} {o : Oper} {a : Act} {Q : Exit → Act → World → Prop}
    (hg : o.guard = none) (l c : Operand) (t : TypeId) (hop : o.op = Op.makeSlice t l c)
    (e : TypeId) (z : Value) (bytes : Nat) (h1 : P.underlying t = some (.slice e)) (h2 : (P.info? e).map (fun i => (i.zero, i.size, i.bytes)) = some (some z, 1, bytes)) (hz : z.cells = #[z])
    (kl kc : IntKind) (L C : Int) (n : Nat) (hl : a.eval l = .int kl L) (hc : a.eval c = .int kc C) (hL : L = (n : Int)) (hC : C = (n : Int)) (b2 : bytes * n ≤ 281474976710656) (b3 : n ≤ maxLen)
    (hK : ∀ w', VB w' w.heap.size e n (fun _ => z) → Below w.heap.size w w' → wpList P ops Q rest (a.put o.dst (.slice (some ⟨w.heap.size, 0, none⟩) n n)) w') :
    wpList P ops Q (o :: rest) a w := by
  obtain ⟨i, hi, hi1, hi2, hi3⟩ := info_parts h2
  refine wpList_make_full w hg l c t hop w.heap.size e i z 1 h1 hi hi1 hi2 kl kc L C n hl hc hL hC (by rw [hi3]; exact b2) b3 (Nat.le_refl _) (fun w' hown hgrow => hK w' (VB.of_owns hown (fun k hk => ?_)).1 (below_grown hgrow))
  rw [hz]
  simp only [madeCells, Array.toList_map, Array.toList_range, List.getElem?_map, Nat.mul_one]
  rw [List.getElem?_range hk]
  simp [Nat.mod_one]

/-- A slice that came in: empty, or n cells that hold f. -/
def SL (w : World) (p : Option Addr) (n : Nat) (f : Nat → Value) : Prop := n = 0 ∨ ∃ b o, p = some ⟨b, o, none⟩ ∧ b < w.heap.size ∧ ∀ k, k < n → w.cell? ⟨b, o + k, none⟩ = some (f k)
theorem Ob.ne_vb {w : World} {b c n : Nat} {T T' : TypeId} {cs : Array Value} {f : Nat → Value} (h : Ob w b T cs) (h' : VB w c T' n f) (hT : T ≠ T') : b ≠ c := by
  rintro rfl
  obtain ⟨m, F, _, hB, _⟩ := h'
  unfold Ob at h; unfold Blk at hB
  rw [h] at hB
  simp only [Option.some.injEq, Obj.cells.injEq] at hB
  exact hT hB.2.1
/-- In every world that leaves the blocks of w as they are. -/
theorem Ob.re {w : World} {b : Nat} {T : TypeId} {cs : Array Value} (h : Ob w b T cs) (p : Regrown) : Ob (Sort.grow (redrawn w p.d) p.os) b T cs := h.later (below_regrown _ _ _)
theorem Blk.re {w : World} {b n : Nat} {T : TypeId} {f : Nat → Value} (h : Blk w b T n f) (p : Regrown) : Blk (Sort.grow (redrawn w p.d) p.os) b T n f := h.later (below_regrown _ _ _)
theorem VB.re {w : World} {b n : Nat} {T : TypeId} {f : Nat → Value} (h : VB w b T n f) (p : Regrown) : VB (Sort.grow (redrawn w p.d) p.os) b T n f := h.later (below_regrown _ _ _)

/-- 64 ints in their block, as a value. -/
def ival (f : Nat → Int) (j : Nat) : Value := .int .i64 (f j)
theorem und28 : Try.prog.underlying 27 = some (.array 64 3) := by kernel_rfl
theorem alloc28 (w : World) : (Instr.alloc 27 true (.tuple #[])).run Try.prog w = .ok (.pointer (some ⟨w.heap.size, 0, none⟩)) (w.alloc (.cells (fcells 64 (ival fun _ => 0)) 27)) := by kernel_rfl
end Go.Proofs.Ytbldgpemocnboaa

namespace Go.Proofs.Ytbldgpemocnboaa
open Go.RowKit

section
variable {P : Program} {w : World} {ops : Array Oper} {rest : List Oper} {o : Oper} {a : Act} {Q : Exit → Act → World → Prop}

/-- append(empty, src..): src's elements, in a block of their own (or the empty slice's, if there are none). -/
theorem wpList_append_copy (hg : o.guard = none) (s x : Operand) (t : TypeId) (hop : o.op = Op.call { callee := Callee.builtin Builtin.append, args := #[s, x], argTypes := #[t, t] })
    (e : TypeId) (z : Value) (bytes : Nat) (h1 : P.underlying t = some (.slice e)) (h2 : (P.info? e).map (fun i => (i.zero, i.size, i.bytes)) = some (some z, 1, bytes)) (hz : z.cells = #[z])
    (g : Nat) (hs : a.eval s = .slice (some ⟨g, 0, none⟩) 0 0) (G : Nat → Value) (hG : VB w g e 0 G) (b m c : Nat) (f : Nat → Value) (hx : a.eval x = .slice (some ⟨b, 0, none⟩) m c) (hV : VB w b e m f) (h1c : ∀ k, k < m → (f k).oneCell' = true)
    (b1 : m ≤ maxLen) (b2 : m * bytes ≤ 140737488355328)
    (hK : ∀ g' cap w', (g' = g ∨ w.heap.size ≤ g') → VB w' g' e m f → Below w.heap.size w w' → wpList P ops Q rest (a.put o.dst (.slice (some ⟨g', 0, none⟩) m cap)) w') :
    wpList P ops Q (o :: rest) a w := by
  obtain ⟨i, hi, hi1, hi2, hi3⟩ := info_parts h2
  have hcell : ∀ j u, ((List.range m).map f)[j]? = some u → w.cell? ((⟨b, 0, none⟩ : Addr).add j) = some u := by
    intro j u hu
    have hj : j < m := by
      rcases Nat.lt_or_ge j m with h | h
      · exact h
      · rw [List.getElem?_eq_none (by simp; omega)] at hu; cases hu
    rw [List.getElem?_map, List.getElem?_range hj] at hu
    have : f j = u := by simpa using hu
    have h3 := hV.cell hj
    rw [this] at h3
    rw [Addr.add_lit, Nat.zero_add]; exact h3
  have hone : ∀ u ∈ (List.range m).map f, u.oneCell' = true := by
    intro u hu
    obtain ⟨j, hj, rfl⟩ := List.mem_map.1 hu
    exact h1c j (List.mem_range.1 hj)
  refine wpList_step fun K hK' => ?_
  by_cases hm : m = 0
  · subst hm
    refine step_append_room hg s x t hop e i 1 h1 hi hi2 g 0 0 0 hs ⟨b, 0, none⟩ 0 c [] hx rfl (fun j u hu => by simp at hu) (fun u hu => by simp at hu) (by omega) (fun j hj => by simp at hj) ?_
    exact hK' _ _ (hK g 0 w (Or.inl rfl) (hG.congr (fun k hk => by omega)) (Below.refl _ _))
  · refine step_append_grows hg s x t hop e i z 1 bytes h1 hi hi1 hi2 hi3 (by rw [hz]; rfl) (by omega) (some ⟨g, 0, none⟩) 0 0 [] hs (fun h => by cases h) rfl (fun _ _ j u hu => by simp at hu)
      ⟨b, 0, none⟩ m c ((List.range m).map f) hx (by simp) hcell hone (by omega) (by omega) (by simpa using b2) (fun v' w' hown hgr => ?_)
    simp only [Nat.zero_add, List.nil_append] at hown
    have hsh : ∃ g' cap, v' = .slice (some ⟨g', 0, none⟩) m cap ∧ w.heap.size ≤ g' := by
      rcases hown.2 with ⟨_, h⟩ | ⟨g', cap', cur, hv, hg', _⟩
      · omega
      · exact ⟨g', cap', hv, hg'⟩
    obtain ⟨g', cap, rfl, hg'⟩ := hsh
    have := hK' _ _ (hK g' cap w' (Or.inr hg') (VB.of_owns hown (fun k hk => by rw [List.getElem?_map, List.getElem?_range hk]; rfl)).1 (below_grown hgr))
    simpa using this
end
end Go.Proofs.Ytbldgpemocnboaa

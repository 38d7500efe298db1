/- quant.Table as 129 cells; walks of its Step and of the document's Step. -/
import Derived.Test.YtbldgpemocnboaaArr
import Derived.Test.YtbldgpemocnboaaQ1
import Derived.StillTailTactics
import Derived.BigQuiet
import Derived.Deep.QuietTactic
namespace Go.Proofs.Ytbldgpemocnboaa
open Go.RowKit
attribute [local go_sem ↓] run_imax run_imin

/-- A table's cells: whether it is weighted, 64 weights for blocks made by themselves, 64 for the others. -/
def tabV (t : Bool) (ia ir : Nat → Int) (j : Nat) : Value := if j = 0 then .bool t else if j < 65 then .int .u8 (ia (j - 1)) else .int .u8 (ir (j - 65))
def tabA (t : Bool) (ia ir : Nat → Int) : Value := .agg (fcells 129 (tabV t ia ir))
theorem tabV_ia {t : Bool} {ia ir : Nat → Int} {i : Nat} (h : i < 64) : tabV t ia ir (1 + i) = .int .u8 (ia i) := by
  unfold tabV; rw [if_neg (by omega), if_pos (by omega)]; congr 2; omega
theorem tabV_ir {t : Bool} {ia ir : Nat → Int} {i : Nat} : tabV t ia ir (65 + i) = .int .u8 (ir i) := by
  unfold tabV; rw [if_neg (by omega), if_neg (by omega)]; congr 2; omega
abbrev TAB : TypeId := 24
section
variable {w : World} {b : Nat} {t : Bool} {ia ir : Nat → Int}
theorem Blk.tab0 (h : Blk w b TAB 129 (tabV t ia ir)) : w.cell? ⟨b, 0, none⟩ = some (.bool t) := h.cell (by omega)
theorem Blk.tabA (h : Blk w b TAB 129 (tabV t ia ir)) {i : Nat} (hi : i < 64) : w.cell? ⟨b, 1 + i, none⟩ = some (.int .u8 (ia i)) := by
  rw [← tabV_ia (t := t) (ir := ir) hi]; exact h.cell (by omega)
theorem Blk.tabR (h : Blk w b TAB 129 (tabV t ia ir)) {i : Nat} (hi : i < 64) : w.cell? ⟨b, 65 + i, none⟩ = some (.int .u8 (ir i)) := by
  rw [← tabV_ir (t := t) (ia := ia)]; exact h.cell (by omega)
end
/-- A whole struct read out of its block; stored into it. -/
theorem wpList_load_blkS {P : Program} {ops : Array Oper} {rest : List Oper} {o : Oper} {a : Act} {w : World} {Q : Exit → Act → World → Prop} {b n : Nat} {T : TypeId} {fs : Array Field} {f : Nat → Value}
    (H : Blk w b T n f) (hgd : o.guard = none) (ty : TypeId) (x : Operand) (ho : o.op = .load ty x) (hx : a.eval x = .pointer (some ⟨b, 0, none⟩))
    (hu : P.underlying ty = some (.struct fs)) (hi : (P.info? ty).map (·.size) = some n)
    (h : wpList P ops Q rest (a.put o.dst (.agg (fcells n f))) w) : wpList P ops Q (o :: rest) a w :=
  wpList_load_row hgd ty x ho b hx T (fcells n f) (0, 0) _ H hu rfl (by rw [fcells_size]; exact hi) h
theorem results_blkS {P : Program} {fn : Func} {p : Tmp} {ty : TypeId} (h : fn.results = #[.cell p ty]) (tmps : Array Value) {w : World} {b n : Nat} {T : TypeId} {fs : Array Field} {f : Nat → Value}
    (H : Blk w b T n f) (hp : tmps.getD p undef = .pointer (some ⟨b, 0, none⟩)) (hu : P.underlying ty = some (.struct fs)) (hi : (P.info? ty).map (·.size) = some n) :
    (results fn tmps).run P w = .ok (.agg (fcells n f)) w :=
  results_cell_row h tmps w b T (fcells n f) (0, 0) _ hp H hu rfl (by rw [fcells_size]; exact hi)

def wgt (t : Bool) (ia ir : Nat → Int) (i : Int) (intra : Bool) : Int := if t = true ∧ 0 ≤ i ∧ i < 64 then (if intra = true then ia i.toNat else ir i.toNat) else 16
def qstep (t : Bool) (ia ir : Nat → Int) (q i : Int) (intra : Bool) : Int := imin (imax q 1) 31 * imax (wgt t ia ir i intra) 8
theorem wgt_bd {t : Bool} {ia ir : Nat → Int} (ha : ∀ j, j < 64 → 0 ≤ ia j ∧ ia j ≤ 255) (hr : ∀ j, j < 64 → 0 ≤ ir j ∧ ir j ≤ 255) (i : Int) (intra : Bool) : 0 ≤ wgt t ia ir i intra ∧ wgt t ia ir i intra ≤ 255 := by
  unfold wgt
  split
  · rename_i h
    have h1 := ha i.toNat (by omega)
    have h2 := hr i.toNat (by omega)
    split <;> omega
  · omega
theorem qstep_bd {t : Bool} {ia ir : Nat → Int} (ha : ∀ j, j < 64 → 0 ≤ ia j ∧ ia j ≤ 255) (hr : ∀ j, j < 64 → 0 ≤ ir j ∧ ir j ≤ 255) (q i : Int) (intra : Bool) : 8 ≤ qstep t ia ir q i intra ∧ qstep t ia ir q i intra ≤ 7905 := by
  have h1 := qp_bd q
  have h2 := wgt_bd (t := t) ha hr i intra
  have h3 : 8 ≤ imax (wgt t ia ir i intra) 8 ∧ imax (wgt t ia ir i intra) 8 ≤ 255 := by rw [imax_eq]; omega
  unfold qstep
  have h4 := mul_bd (imin (imax q 1) 31) (imax (wgt t ia ir i intra) 8) 31 255 (by omega) (by omega) (by omega) (by omega) (by omega)
  have h5 : 1 * 8 ≤ imin (imax q 1) 31 * imax (wgt t ia ir i intra) 8 := Int.mul_le_mul h1.1 h3.1 (by omega) (by omega)
  omega

set_option maxHeartbeats 1000000 in
theorem step_any (t : Bool) (ia ir : Nat → Int) (q i : Int) (intra : Bool) (w : World) (ha : ∀ j, j < 64 → 0 ≤ ia j ∧ ia j ≤ 255) (hr : ∀ j, j < 64 → 0 ≤ ir j ∧ ir j ≤ 255) :
    Calls Try.prog 89 #[.agg (fcells 129 (tabV t ia ir)), .int .i64 q, .int .i64 i, .bool intra] w fun e w' => e = .returned (.int .i64 (qstep t ia ir q i intra)) ∧ Below w.heap.size w w' := by
  have hq := qp_bd q
  have hB := qstep_bd (t := t) ha hr q i intra
  have HT : Blk (w.alloc (.cells (fcells 129 (tabV t ia ir)) TAB)) w.heap.size TAB 129 (tabV t ia ir) := Blk.new_at _ _ _ rfl
  have HW : Below w.heap.size w (w.alloc (.cells (fcells 129 (tabV t ia ir)) TAB)) := (Below.refl _ _).alloc (Nat.le_refl _) _
  have c0 := HT.tab0
  have hx8 : 8 ≤ imax (wgt t ia ir i intra) 8 ∧ imax (wgt t ia ir i intra) 8 ≤ 255 := by have := wgt_bd (t := t) ha hr i intra; rw [imax_eq]; omega
  by_cases hi : 0 ≤ i ∧ i < 64
  · obtain ⟨k, rfl⟩ : ∃ k : Nat, i = k := ⟨i.toNat, by omega⟩
    have hk : k < 64 := by omega
    have c1 := HT.tabA hk
    have c2 := HT.tabR hk
    have b1 := ha k hk
    have b2 := hr k hk
    unfold qstep wgt at *
    clear ha hr
    cases t <;> cases intra <;> simp only [hi, and_self, if_true, Int.toNat_natCast, false_and, if_false, Bool.false_eq_true] at * <;>
    · go_enter Try.func89, Try.ntmps89
      go_wp2_with fail
      go_ret
      exact ⟨rfl, HW⟩
  · unfold qstep wgt at *
    rw [if_neg (by omega)] at *
    clear ha hr
    cases t <;>
    · go_enter Try.func89, Try.ntmps89
      go_wp2_with fail
      all_goals
        go_ret
        exact ⟨rfl, HW⟩
end Go.Proofs.Ytbldgpemocnboaa

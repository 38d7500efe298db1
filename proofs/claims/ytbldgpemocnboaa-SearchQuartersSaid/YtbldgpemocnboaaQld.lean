/- A part of an array's block loaded whole in a region that draws its order. -/
import Derived.Test.YtbldgpemocnboaaOb
import Derived.Deep.MidRow
namespace Go.Proofs.Ytbldgpemocnboaa
open Go.RowKit Go.Sort

theorem blk_range {w : World} {b n q m : Nat} {T : TypeId} {f : Nat → Value} (H : Blk w b T n f) (h : q + m ≤ n) : w.rangeAt b q ((List.range m).map fun j => f (q + j)) := by
  intro j v hj
  have hjm : j < m := by
    rcases Nat.lt_or_ge j m with h1 | h1
    · exact h1
    · rw [List.getElem?_eq_none (by simp; exact h1)] at hj; cases hj
  rw [List.getElem?_map, List.getElem?_range hjm] at hj
  simp only [Option.map_some, Option.some.injEq] at hj
  rw [← hj]
  exact H.cell (by omega)
theorem quiet_load_part {P : Program} {o : Oper} {a : Act} {w1 : World} {K : Act → Prop} {b n m q len : Nat} {T E : TypeId} {f : Nat → Value} (H : Blk w1 b T n f) (ty : TypeId) (x : Operand) (ho : o.op = .load ty x) (hx : a.eval x = .pointer (some ⟨b, q, none⟩))
    (hu : P.underlying ty = some (.array len E)) (hi : (P.info? ty).map (·.size) = some m) (hq : q + m ≤ n) (A : Array Value) (hA : (fcells m fun j => f (q + j)) = A) (h : K (a.put o.dst (.agg A))) :
    o.quiet P a (fun w' => ∃ p : Regrown, w' = grow (redrawn w1 p.d) p.os) K := by
  subst hA
  refine ⟨_, ?_, h⟩
  rintro w ⟨p, rfl⟩
  have h1 := run_loadVar_mid (P := P) (grow (redrawn w1 p.d) p.os) b q ty _ _ (blk_range (H.re p) hq) hu rfl (by rw [hi]; simp)
  unfold Oper.quietAt execOp
  simp only [ho, hx, Instr.loadAt, Instr.sureAddr, Sem.run_bind, Sem.run_pure, Result.andThen_ok, h1]
  exact ⟨rfl, rfl⟩
/-- Whole cells of a block from a place on, of whatever type has so many. -/
theorem quiet_load_row {P : Program} {o : Oper} {a : Act} {w1 : World} {K : Act → Prop} {b n m q : Nat} {T : TypeId} {f : Nat → Value} (H : Blk w1 b T n f) (ty : TypeId) (x : Operand) (ho : o.op = .load ty x) (hx : a.eval x = .pointer (some ⟨b, q, none⟩))
    (d : TypeDesc) (hu : P.underlying ty = some d) (hd : d.isRow = true) (hi : (P.info? ty).map (·.size) = some m) (hq : q + m ≤ n) (A : Array Value) (hA : (fcells m fun j => f (q + j)) = A) (h : K (a.put o.dst (.agg A))) :
    o.quiet P a (fun w' => ∃ p : Regrown, w' = grow (redrawn w1 p.d) p.os) K := by
  subst hA
  refine ⟨_, ?_, h⟩
  rintro w ⟨p, rfl⟩
  have h1 := run_loadVar_mid (P := P) (grow (redrawn w1 p.d) p.os) b q ty _ _ (blk_range (H.re p) hq) hu hd (by rw [hi]; simp)
  unfold Oper.quietAt execOp
  simp only [ho, hx, Instr.loadAt, Instr.sureAddr, Sem.run_bind, Sem.run_pure, Result.andThen_ok, h1]
  exact ⟨rfl, rfl⟩
theorem wpList_load_partX {P : Program} {ops : Array Oper} {rest : List Oper} {o : Oper} {a : Act} {w : World} {Q : Exit → Act → World → Prop} {b n m q : Nat} {T : TypeId} {f : Nat → Value}
    (H : Blk w b T n f) (hgd : o.guard = none) (ty : TypeId) (x : Operand) (ho : o.op = .load ty x) (hx : a.eval x = .pointer (some ⟨b, q, none⟩))
    (d : TypeDesc) (hu : P.underlying ty = some d) (hd : d.isRow = true) (hi : (P.info? ty).map (·.size) = some m) (hq : q + m ≤ n) (A : Array Value) (hA : (fcells m fun j => f (q + j)) = A)
    (h : wpList P ops Q rest (a.put o.dst (.agg A)) w) : wpList P ops Q (o :: rest) a w := by
  subst hA
  exact wpList_load_mid hgd ty x ho b q hx _ d (blk_range H hq) hu hd (by rw [hi]; simp) h
/-- A zero value is built. -/
theorem quiet_build {P : Program} {o : Oper} {a : Act} {C : World → Prop} {K : Act → Prop} (T : TypeId) (ho : o.op = .build T #[]) (v : Value) (hz : ∀ w : World, (Instr.build T #[]).run P w = .ok v w) (h : K (a.put o.dst v)) : o.quiet P a C K := by
  refine ⟨v, ?_, h⟩
  intro w _
  unfold Oper.quietAt execOp
  simp only [ho, List.map_toArray, List.map_nil, hz, Sem.run_bind, Sem.run_pure, Result.andThen_ok]
  exact ⟨rfl, rfl⟩
theorem fcells_from (m : Nat) (f : Nat → Value) : (fcells m fun j => f (0 + j)) = fcells m f := fcells_congr fun j _ => by rw [Nat.zero_add]
end Go.Proofs.Ytbldgpemocnboaa

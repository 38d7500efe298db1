/- A part of an array's block loaded whole in a region that draws its order. -/
import Derived.Test.YtbldgpemocnboaaOb
import Derived.Deep.MidRow
namespace Go.Proofs.Ytbldgpemocnboaa
open Go.RowKit Go.Sort

theorem blk_range {w : World} {b n q m : Nat} {T : TypeId} {f : Nat → Value} (H : Blk w b T n f) (h : q + m ≤ n) : w.rangeAt b q ((List.range m).map fun j => f (q + j)) := by
  intro j v hj
  have hjm : j < m := by
    rcases Nat.lt_or_ge j m with h1 | h1
    · exact h1
    · rw [List.getElem?_eq_none (by simp; exact h1)] at hj; cases hj
  rw [List.getElem?_map, List.getElem?_range hjm] at hj
  simp only [Option.map_some, Option.some.injEq] at hj
  rw [← hj]
  exact H.cell (by omega)
theorem quiet_load_part {P : Program} {o : Oper} {a : Act} {w1 : World} {K : Act → Prop} {b n m q len : Nat} {T E : TypeId} {f : Nat → Value} (H : Blk w1 b T n f) (ty : TypeId) (x : Operand) (ho : o.op = .load ty x) (hx : a.eval x = .pointer (some ⟨b, q, none⟩))
    (hu : P.underlying ty = some (.array len E)) (hi : (P.info? ty).map (·.size) = some m) (hq : q + m ≤ n) (A : Array Value) (hA : (fcells m fun j => f (q + j)) = A) (h : K (a.put o.dst (.agg A))) :
    o.quiet P a (fun w' => ∃ p : Regrown, w' = grow (redrawn w1 p.d) p.os) K := by
  subst hA
  refine ⟨_, ?_, h⟩
  rintro w ⟨p, rfl⟩
  have h1 := run_loadVar_mid (P := P) (grow (redrawn w1 p.d) p.os) b q ty _ _ (blk_range (H.re p) hq) hu rfl (by rw [hi]; simp)
  unfold Oper.quietAt execOp
  simp only [ho, hx, Instr.loadAt, Instr.sureAddr, Sem.run_bind, Sem.run_pure, Result.andThen_ok, h1]
  exact ⟨rfl, rfl⟩
end Go.Proofs.Ytbldgpemocnboaa

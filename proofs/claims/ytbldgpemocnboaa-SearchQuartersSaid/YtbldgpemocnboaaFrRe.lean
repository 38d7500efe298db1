/- The cells of a frame's block in whatever world a quiet region makes. -/
import Derived.Test.YtbldgpemocnboaaMv1
import Derived.Test.YtbldgpemocnboaaStr
import Derived.Test.YtbldgpemocnboaaRel
namespace Go.Proofs.Ytbldgpemocnboaa
open Go.RowKit Go.Sort
theorem Ob.fC {w : World} {q : Nat} {f : Fr} (h : Ob w q FRT f.cells) : w.cell? ⟨q, 0, none⟩ = some (.int .i64 (f.c : Int)) := h.cell 0 rfl
theorem Ob.fR {w : World} {q : Nat} {f : Fr} (h : Ob w q FRT f.cells) : w.cell? ⟨q, 1, none⟩ = some (.int .i64 (f.r : Int)) := h.cell 1 rfl
theorem mvS_zero {W H : Nat} {s : Nat → Int} {k : Nat} (hk : k < W * H) : mvS W H s 0 0 k = s k := by
  have hW : 0 < W := by rcases Nat.eq_zero_or_pos W with h | h; · rw [h, Nat.zero_mul] at hk; omega
                        · exact h
  have h2 : k / W < H := Nat.div_lt_of_lt_mul hk
  have h3 : k % W < W := Nat.mod_lt _ hW
  have h4 := Nat.div_add_mod k W
  unfold mvS plAt
  generalize k / W = b at *
  generalize k % W = a at *
  rw [if_neg (by omega), Int.sub_zero, Int.sub_zero, cl_in (by omega) (by omega), cl_in (by omega) (by omega)]
  simp only [Int.toNat_natCast]
  rw [Nat.mul_comm b W, h4]
/-- What is known of a frame that was moved nowhere. -/
def MovS (f : Fr) (v : Value) (W : World) : Prop := ∃ g : Fr, v = g.val ∧ MovedF g f 0 0 ∧ g.Mem W
theorem movS_later {f : Fr} {v : Value} {W W' : World} (h : MovS f v W) (hb : Below W.heap.size W W') : MovS f v W' := by
  obtain ⟨g, h1, h2, h3⟩ := h; exact ⟨g, h1, h2, h3.later hb⟩
theorem same_moved {f g : Fr} (h : MovedF g f 0 0) : sameB g f = true := by
  have e1 := h.y; have e2 := h.u; have e3 := h.v
  have e0 : (0 : Int) / 2 = 0 := rfl
  rw [e0] at e2 e3
  refine sameB_of h.c h.r (fun k hk => ?_) (fun k hk => ?_) (fun k hk => ?_)
  · rw [h.c, h.r] at hk; rw [e1]; exact mvS_zero hk
  · rw [h.c, h.r] at hk; rw [e2]; exact mvS_zero hk
  · rw [h.c, h.r] at hk; rw [e3]; exact mvS_zero hk
end Go.Proofs.Ytbldgpemocnboaa

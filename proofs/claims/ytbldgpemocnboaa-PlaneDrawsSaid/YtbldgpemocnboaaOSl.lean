/- A slot of a region that draws its order which is to hold a new block: whether the block is made, whether it is stored into. -/
import Derived.Test.YtbldgpemocnboaaReg
import Derived.Test.YtbldgpemocnboaaOb
namespace Go.Proofs.Ytbldgpemocnboaa
open Go.RowKit

/-- m: made; s: stored into. -/
def OSl (T : TypeId) (w : World) (m s : Bool) (x : Value) (B : Nat) (F : Array Value) : Prop :=
  (s = true → m = true) ∧ (m = true → ∃ b cs, x = .pointer (some ⟨b, 0, none⟩) ∧ B ≤ b ∧ Ob w b T cs ∧ cs.size = F.size ∧ (s = true → cs = F))
section
variable {T : TypeId} {w : World} {m s : Bool} {x : Value} {B : Nat} {F : Array Value}
theorem OSl.none (T : TypeId) (w : World) (x : Value) (B : Nat) (F : Array Value) : OSl T w false false x B F := ⟨fun h => h, fun h => by cases h⟩
theorem OSl.later {w' : World} (h : OSl T w m s x B F) (hb : Below w.heap.size w w') : OSl T w' m s x B F :=
  ⟨h.1, fun hm => let ⟨b, cs, e, l, H, z, f⟩ := h.2 hm; ⟨b, cs, e, l, H.later hb, z, f⟩⟩
theorem OSl.alloc (h : OSl T w m s x B F) (o : Obj) : OSl T (w.alloc o) m s x B F :=
  ⟨h.1, fun hm => let ⟨b, cs, e, l, H, z, f⟩ := h.2 hm; ⟨b, cs, e, l, H.alloc o, z, f⟩⟩
theorem OSl.setRow (h : OSl T w m s x B F) {c : Nat} (hc : m = true → x ≠ .pointer (some ⟨c, 0, Option.none⟩)) (ds : Array Value) : OSl T (w.setRow c ds) m s x B F :=
  ⟨h.1, fun hm => let ⟨b, cs, e, l, H, z, f⟩ := h.2 hm; ⟨b, cs, e, l, H.setRow (fun q => hc hm (by rw [e, q])) ds, z, f⟩⟩
theorem OSl.new (h : OSl T w false s x B F) (hz : B ≤ w.heap.size) (cs : Array Value) (hs : cs.size = F.size) : OSl T (w.alloc (.cells cs T)) true s (.pointer (some ⟨w.heap.size, 0, Option.none⟩)) B F :=
  ⟨fun _ => rfl, fun _ => ⟨_, cs, rfl, hz, Ob.new_at _ _ rfl, hs, fun hs => by have := h.1 hs; cases this⟩⟩
/-- A new block is no other slot's. -/
theorem OSl.fresh (h : OSl T w m s x B F) (hm : m = true) : x ≠ .pointer (some ⟨w.heap.size, 0, Option.none⟩) := by
  obtain ⟨b, cs, e, _, H, _⟩ := h.2 hm
  rw [e]
  intro q
  have hb := H.lt
  injection q with q
  injection q with q
  injection q with q
  omega
end
end Go.Proofs.Ytbldgpemocnboaa

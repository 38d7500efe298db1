/- A slot that a region's new array takes, while its operations come up in whatever order. -/
import Derived.Test.YtdgdpicfloekeaaHad5
import Derived.Test.YtdgdpicfloekeaaHadN
import Derived.Test.YtdgdpicfloekeaaReg
namespace Go.Proofs.Ytdgdpicfloekeaa
open Go.RowKit

/-- 64 ints as a value. -/
def av (f : Nat → Int) : Value := .agg (fcells 64 (ival f))

/-- Slot x holds, once made (m), a new block behind bz; once stored (s), it holds F. -/
def Slot (w : World) (m s : Bool) (x : Value) (bz : Nat) (F : Nat → Value) : Prop :=
  (s = true → m = true) ∧ (m = true → ∃ b g, x = .pointer (some ⟨b, 0, none⟩) ∧ bz < b ∧ Blk w b 28 64 g ∧ (s = true → g = F))
section
variable {w : World} {m s : Bool} {x : Value} {bz : Nat} {F : Nat → Value}
theorem Slot.none (w : World) (x : Value) (bz : Nat) (F : Nat → Value) : Slot w false false x bz F := ⟨fun h => h, fun h => by cases h⟩
theorem Slot.below {w' : World} (h : Slot w m s x bz F) (hb : Below w.heap.size w w') : Slot w' m s x bz F :=
  ⟨h.1, fun hm => let ⟨b, g, e, l, B, f⟩ := h.2 hm; ⟨b, g, e, l, B.below hb B.lt, f⟩⟩
theorem Slot.alloc (h : Slot w m s x bz F) (o : Obj) : Slot (w.alloc o) m s x bz F :=
  ⟨h.1, fun hm => let ⟨b, g, e, l, B, f⟩ := h.2 hm; ⟨b, g, e, l, B.alloc o, f⟩⟩
theorem Slot.setRow (h : Slot w m s x bz F) {c : Nat} (hc : m = true → x ≠ .pointer (some ⟨c, 0, Option.none⟩)) (cs : Array Value) : Slot (w.setRow c cs) m s x bz F :=
  ⟨h.1, fun hm => let ⟨b, g, e, l, B, f⟩ := h.2 hm; ⟨b, g, e, l, B.setRow (fun q => hc hm (by rw [e, q])) cs, f⟩⟩
theorem Slot.new (h : Slot w false s x bz F) (hz : bz < w.heap.size) (f : Nat → Value) : Slot (w.alloc (.cells (fcells 64 f) 28)) true s (.pointer (some ⟨w.heap.size, 0, Option.none⟩)) bz F :=
  ⟨fun _ => rfl, fun _ => ⟨_, f, rfl, hz, Blk.new_at _ _ _ rfl, fun hs => by have := h.1 hs; cases this⟩⟩
/-- A new block is no other slot's. -/
theorem Slot.fresh (h : Slot w m s x bz F) (hm : m = true) : x ≠ .pointer (some ⟨w.heap.size, 0, Option.none⟩) := by
  obtain ⟨b, g, e, _, B, _⟩ := h.2 hm
  rw [e]
  intro q
  have hb := B.lt
  have hne := Nat.ne_of_lt hb
  exact hne (by injection q with q; injection q with q; injection q)
end
def i16val (f : Nat → Int) (j : Nat) : Value := .int .i16 (f j)
theorem und27 : Try.prog.underlying 27 = some (.array 64 26) := by kernel_rfl
end Go.Proofs.Ytdgdpicfloekeaa

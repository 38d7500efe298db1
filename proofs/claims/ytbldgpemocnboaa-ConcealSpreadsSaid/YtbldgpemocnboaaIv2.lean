/- interp.At and Plane.At of a plane of 16 times c, 16 times r samples; plain laws of interp.At. -/
import Derived.Test.YtbldgpemocnboaaIv1
import Derived.Test.YtbldgpemocnboaaFr3
namespace Go.Proofs.Ytbldgpemocnboaa
open Go.RowKit

abbrev pl16 (c r b m : Nat) : Array Value := #[.int .i64 (16 * (c : Int)), .int .i64 (16 * (r : Int)), .slice (some ⟨b, 0, none⟩) (16 * c * (16 * r)) m]
abbrev pl8 (c r b m : Nat) : Array Value := #[.int .i64 (8 * (c : Int)), .int .i64 (8 * (r : Int)), .slice (some ⟨b, 0, none⟩) (8 * c * (8 * r)) m]
theorem at16_any (c r b m : Nat) (s : Nat → Int) (x y : Int) (w : World) (hc : c ≤ 8) (hr : r ≤ 8) (hP : PB w b (16 * c * (16 * r)) s) :
    Calls Try.prog 35 #[.agg (pl16 c r b m), .int .i64 x, .int .i64 y] w fun e w' => e = .returned (.int .u8 (plAt (16 * c) (16 * r) s x y)) ∧ Below w.heap.size w w' := by
  rw [pl16, ← plV_16]; exact at_any (16 * c) (16 * r) b m s x y w (by omega) (by omega) hP
theorem at8_any (c r b m : Nat) (s : Nat → Int) (x y : Int) (w : World) (hc : c ≤ 8) (hr : r ≤ 8) (hP : PB w b (8 * c * (8 * r)) s) :
    Calls Try.prog 35 #[.agg (pl8 c r b m), .int .i64 x, .int .i64 y] w fun e w' => e = .returned (.int .u8 (plAt (8 * c) (8 * r) s x y)) ∧ Below w.heap.size w w' := by
  rw [pl8, ← plV_8]; exact at_any (8 * c) (8 * r) b m s x y w (by omega) (by omega) hP
theorem ipAt16_any (c r b m : Nat) (s : Nat → Int) (x y : Int) (down : Bool) (w : World) (hc : c ≤ 8) (hr : r ≤ 8) (hP : PB w b (16 * c * (16 * r)) s)
    (hx : -9223372036854775808 ≤ x) (hx2 : x ≤ 9223372036854775807) (hy : -9223372036854775808 ≤ y) (hy2 : y ≤ 9223372036854775807) :
    Calls Try.prog 124 #[.agg (pl16 c r b m), .int .i64 x, .int .i64 y, .bool down] w fun e w' => e = .returned (.int .i64 (ipAt (16 * c) (16 * r) s x y down)) ∧ Below w.heap.size w w' := by
  rw [pl16, ← plV_16]; exact ipAt_any (16 * c) (16 * r) b m s x y down w (by omega) (by omega) hP hx hx2 hy hy2
theorem ipAt8_any (c r b m : Nat) (s : Nat → Int) (x y : Int) (down : Bool) (w : World) (hc : c ≤ 8) (hr : r ≤ 8) (hP : PB w b (8 * c * (8 * r)) s)
    (hx : -9223372036854775808 ≤ x) (hx2 : x ≤ 9223372036854775807) (hy : -9223372036854775808 ≤ y) (hy2 : y ≤ 9223372036854775807) :
    Calls Try.prog 124 #[.agg (pl8 c r b m), .int .i64 x, .int .i64 y, .bool down] w fun e w' => e = .returned (.int .i64 (ipAt (8 * c) (8 * r) s x y down)) ∧ Below w.heap.size w w' := by
  rw [pl8, ← plV_8]; exact ipAt_any (8 * c) (8 * r) b m s x y down w (by omega) (by omega) hP hx hx2 hy hy2

/-- The planes of a Frame that is a value. -/
theorem frame_fieldY (a0 a1 a2 a3 a4 a5 a6 a7 a8 a9 a10 : Value) (w : World) : (Instr.field FRT (.agg #[a0, a1, a2, a3, a4, a5, a6, a7, a8, a9, a10]) 2).run Try.prog w = .ok (.agg #[a2, a3, a4]) w := by kernel_rfl
theorem frame_fieldU (a0 a1 a2 a3 a4 a5 a6 a7 a8 a9 a10 : Value) (w : World) : (Instr.field FRT (.agg #[a0, a1, a2, a3, a4, a5, a6, a7, a8, a9, a10]) 3).run Try.prog w = .ok (.agg #[a5, a6, a7]) w := by kernel_rfl
theorem frame_fieldV (a0 a1 a2 a3 a4 a5 a6 a7 a8 a9 a10 : Value) (w : World) : (Instr.field FRT (.agg #[a0, a1, a2, a3, a4, a5, a6, a7, a8, a9, a10]) 4).run Try.prog w = .ok (.agg #[a8, a9, a10]) w := by kernel_rfl

theorem ipAt_flat {W H : Nat} (hW : 0 < W) (hH : 0 < H) (v x y : Int) (d : Bool) : ipAt W H (fun _ => v) x y d = v := by
  unfold ipAt
  simp only [plAt_flat hW hH]
  cases d <;> simp only [Bool.false_eq_true, if_true, if_false] <;> split <;> (try split) <;> (try split) <;> omega
/-- Down is at most one less than up. -/
theorem ipAt_near (W H : Nat) (s : Nat → Int) (x y : Int) : ipAt W H s x y true ≤ ipAt W H s x y false ∧ ipAt W H s x y false ≤ ipAt W H s x y true + 1 := by
  unfold ipAt
  simp only [Bool.false_eq_true, if_true, if_false]
  split <;> (try split) <;> (try split) <;> omega
theorem ipAt_lo (W H : Nat) (s : Nat → Int) (x y lo : Int) (h1 : lo ≤ plAt W H s (x / 2) (y / 2)) (h2 : lo ≤ plAt W H s (x / 2 + 1) (y / 2)) (h3 : lo ≤ plAt W H s (x / 2) (y / 2 + 1)) (h4 : lo ≤ plAt W H s (x / 2 + 1) (y / 2 + 1)) : lo ≤ ipAt W H s x y true := by
  unfold ipAt
  simp only [if_true]
  split <;> (try split) <;> (try split) <;> omega
theorem ipAt_hi (W H : Nat) (s : Nat → Int) (x y hi : Int) (h1 : plAt W H s (x / 2) (y / 2) ≤ hi) (h2 : plAt W H s (x / 2 + 1) (y / 2) ≤ hi) (h3 : plAt W H s (x / 2) (y / 2 + 1) ≤ hi) (h4 : plAt W H s (x / 2 + 1) (y / 2 + 1) ≤ hi) : ipAt W H s x y false ≤ hi := by
  unfold ipAt
  simp only [Bool.false_eq_true, if_false]
  split <;> (try split) <;> (try split) <;> omega
end Go.Proofs.Ytbldgpemocnboaa

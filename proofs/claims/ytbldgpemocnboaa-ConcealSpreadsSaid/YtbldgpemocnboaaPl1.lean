/- Bytes in a block of memory; plane's clamp, At, walked: what they return for all planes of at most 1024 by 1024 samples, at any place. -/
import Derived.Test.YtbldgpemocnboaaOb
import Derived.Deep.QuietTactic
import Derived.BigQuiet
namespace Go.Proofs.Ytbldgpemocnboaa
open Go.RowKit
attribute [local go_sem ↓] run_imax run_imin

/-- The first n cells of block b hold the bytes s; it may be longer; none of it is frozen. -/
def u8v (s : Nat → Int) (k : Nat) : Value := .int .u8 (s k)
structure PB (w : World) (b n : Nat) (s : Nat → Int) : Prop where
  vb : VB w b 5 n (u8v s)
  bd : ∀ {k}, k < n → 0 ≤ s k ∧ s k ≤ 255
section
variable {w w' : World} {b n : Nat} {s : Nat → Int}
theorem PB.cell (h : PB w b n s) {k : Nat} (hk : k < n) : w.cell? ⟨b, k, none⟩ = some (.int .u8 (s k)) := h.vb.cell hk
theorem PB.free (h : PB w b n s) (k : Nat) : w.frozen? ⟨b, k, none⟩ = false := h.vb.free k
theorem PB.lt (h : PB w b n s) : b < w.heap.size := h.vb.lt
theorem PB.below {B : Nat} (h : PB w b n s) (hb : Below B w w') (hB : b < B) : PB w' b n s := ⟨h.vb.below hb hB, h.bd⟩
theorem PB.later (h : PB w b n s) (hb : Below w.heap.size w w') : PB w' b n s := h.below hb h.lt
theorem PB.alloc (h : PB w b n s) (o : Obj) : PB (w.alloc o) b n s := ⟨h.vb.alloc o, h.bd⟩
theorem PB.drew (h : PB w b n s) : PB w.drew b n s := ⟨h.vb, h.bd⟩
theorem PB.drewN (h : PB w b n s) (q : Nat) : PB (w.drewN q) b n s := ⟨h.vb, h.bd⟩
theorem PB.other (h : PB w b n s) {c : Nat} (hc : c ≠ b) (k : Nat) (v : Value) : PB (w.setCell ⟨c, k, none⟩ v) b n s := ⟨h.vb.other hc k v, h.bd⟩
theorem PB.setRow (h : PB w b n s) {c : Nat} (hc : c ≠ b) (cs : Array Value) : PB (w.setRow c cs) b n s := ⟨h.vb.setRow hc cs, h.bd⟩
theorem PB.set (h : PB w b n s) (k : Nat) (x : Int) (hx : 0 ≤ x ∧ x ≤ 255) : PB (w.setCell ⟨b, k, none⟩ (.int .u8 x)) b n (fun j => if j = k then x else s j) := by
  refine ⟨(h.vb.set k (.int .u8 x)).congr fun j _ => ?_, fun {j} hj => ?_⟩
  · by_cases e : j = k <;> simp [u8v, e]
  · split
    · exact hx
    · exact h.bd hj
theorem PB.congr {s' : Nat → Int} (h : PB w b n s) (e : ∀ k, k < n → s k = s' k) : PB w b n s' :=
  ⟨h.vb.congr fun k hk => by unfold u8v; rw [e k hk], fun {k} hk => by rw [← e k hk]; exact h.bd hk⟩
theorem PB.wr {c : Nat} (h : PB w c n s) (hw : Wr b w w') (hc : c ≠ b) : PB w' c n s := ⟨h.vb.wr hw hc, h.bd⟩
theorem PB.less {m : Nat} (h : PB w b n s) (hm : m ≤ n) : PB w b m s := ⟨h.vb.less hm, fun hk => h.bd (by omega)⟩
end

/-- The nearest number from 0 to below e. -/
def cl (n : Int) (e : Nat) : Nat := (max (min n ((e : Int) - 1)) 0).toNat
theorem cl_lt (n : Int) {e : Nat} (h : 0 < e) : cl n e < e := by unfold cl; omega
theorem cl_in {n : Int} {e : Nat} (h : 0 ≤ n) (h2 : n < e) : cl n e = n.toNat := by unfold cl; omega
theorem cl_zero (n : Int) : cl n 0 = 0 := by unfold cl; omega

/-- A plane's value. -/
def plV (W H b n c : Nat) : Value := .agg #[.int .i64 (W : Int), .int .i64 (H : Int), .slice (some ⟨b, 0, none⟩) n c]
/-- Its sample at a place, beyond the edges that at the edge; 0: there are none. -/
def plAt (W H : Nat) (s : Nat → Int) (x y : Int) : Int := if W = 0 ∨ H = 0 then 0 else s (cl y H * W + cl x W)

set_option maxHeartbeats 400000 in
theorem clamp_any (n : Int) (e : Nat) (w : World) (he : e ≤ 1048576) :
    Calls Try.prog 96 #[.int .i64 n, .int .i64 (e : Int)] w fun r w' => r = .returned (.int .i64 (cl n e : Nat)) ∧ w = w' := by
  go_enter Try.func96, Try.ntmps96
  go_wp2
  go_ret
  exact ⟨ret_int (by unfold cl; rw [imax_eq, imin_eq]; omega), rfl⟩

theorem idx_lt {W H : Nat} (x y : Int) (hW : 0 < W) (hH : 0 < H) : cl y H * W + cl x W < W * H := by
  have h1 := cl_lt x hW
  have h2 := cl_lt y hH
  calc cl y H * W + cl x W < cl y H * W + W := by omega
    _ = (cl y H + 1) * W := by rw [Nat.add_mul, Nat.one_mul]
    _ ≤ H * W := Nat.mul_le_mul_right _ (by omega)
    _ = W * H := Nat.mul_comm _ _
theorem size_le {W H : Nat} (hW : W ≤ 1024) (hH : H ≤ 1024) : W * H ≤ 1048576 := by
  calc W * H ≤ 1024 * 1024 := Nat.mul_le_mul hW hH
    _ = 1048576 := by decide

theorem plAt_bd {w : World} {W H b : Nat} {s : Nat → Int} (hP : PB w b (W * H) s) (x y : Int) : 0 ≤ plAt W H s x y ∧ plAt W H s x y ≤ 255 := by
  unfold plAt
  split
  · omega
  · exact hP.bd (idx_lt x y (by omega) (by omega))

set_option maxHeartbeats 1000000 in
theorem at_in (W H b c : Nat) (s : Nat → Int) (x y : Int) (w : World) (hW : 0 < W) (hH : 0 < H) (hW2 : W ≤ 1024) (hH2 : H ≤ 1024) (hP : PB w b (W * H) s) :
    Calls Try.prog 35 #[plV W H b (W * H) c, .int .i64 x, .int .i64 y] w fun r w' => r = .returned (.int .u8 (plAt W H s x y)) ∧ Below w.heap.size w w' := by
  have hi := idx_lt x y hW hH
  have hsz := size_le hW2 hH2
  have hx := cl_lt x hW
  have hy := cl_lt y hH
  have hc := hP.cell hi
  have hr : plAt W H s x y = s (cl y H * W + cl x W) := by unfold plAt; rw [if_neg (by omega)]
  rw [hr]
  clear hr
  have hm : cl y H * W ≤ 1048576 := by omega
  have d1 : ¬ W = 0 := by omega
  have d2 : ¬ H = 0 := by omega
  have hlt := hP.lt
  generalize hcx : cl x W = cx at *
  generalize hcy : cl y H = cy at *
  have hcx := Lib.hid hcx
  have hcy := Lib.hid hcy
  unfold plV
  go_enter Try.func35, Try.ntmps35
  go_wp2_with fail
  go_quiet ((go_at_call 96; exact Calls.quiet_of_same ((clamp_any _ _ _ (by omega)).mono fun _ _ h => ⟨h.1, h.2.symm⟩)))
  have d3 : decide ((W : Int) * (H : Int) ≤ (cy : Int) * (W : Int) + (cx : Int)) = false := by
    have : (((cy * W + cx : Nat)) : Int) < ((W * H : Nat) : Int) := by omega
    simpa using this
  go_wp2_with fail
  go_ret
  exact ⟨rfl, below_drewN ((Below.refl _ _).alloc (Nat.le_refl _) _) _⟩

set_option maxHeartbeats 1000000 in
theorem at_none (W H n c : Nat) (p : Option Addr) (x y : Int) (w : World) (hW2 : W ≤ 1024) (hH2 : H ≤ 1024) (h0 : W = 0 ∨ H = 0) :
    Calls Try.prog 35 #[.agg #[.int .i64 (W : Int), .int .i64 (H : Int), .slice p n c], .int .i64 x, .int .i64 y] w fun r w' => r = .returned (.int .u8 0) ∧ Below w.heap.size w w' := by
  have hm := size_le hW2 hH2
  have hcm : cl y H * W + cl x W ≤ 1048576 := by
    rcases h0 with rfl | rfl
    · simp [cl_zero]
    · rw [cl_zero]
      by_cases e : W = 0
      · subst e; simp [cl_zero]
      · have := cl_lt x (show 0 < W by omega); omega
  have hcm2 : cl y H * W ≤ 1048576 := by omega
  generalize hcx : cl x W = cx at *
  generalize hcy : cl y H = cy at *
  have hcx := Lib.hid hcx
  have hcy := Lib.hid hcy
  by_cases d1 : W = 0
  · subst d1
    go_enter Try.func35, Try.ntmps35
    go_wp2_with fail
    go_quiet ((go_at_call 96; first | exact Calls.quiet_of_same ((clamp_any _ _ _ (by omega)).mono fun _ _ h => ⟨h.1.trans (by rw [hcy.out]), h.2.symm⟩) | exact Calls.quiet_of_same ((clamp_any _ 0 _ (by omega)).mono fun _ _ h => ⟨h.1, h.2.symm⟩)))
    go_wp2_with fail
    go_ret
    exact ⟨rfl, below_drewN ((Below.refl _ _).alloc (Nat.le_refl _) _) _⟩
  · obtain rfl : H = 0 := by omega
    go_enter Try.func35, Try.ntmps35
    go_wp2_with fail
    go_quiet ((go_at_call 96; first | exact Calls.quiet_of_same ((clamp_any _ _ _ (by omega)).mono fun _ _ h => ⟨h.1.trans (by rw [hcx.out]), h.2.symm⟩) | exact Calls.quiet_of_same ((clamp_any _ 0 _ (by omega)).mono fun _ _ h => ⟨h.1, h.2.symm⟩)))
    go_wp2_with fail
    go_ret
    exact ⟨rfl, below_drewN ((Below.refl _ _).alloc (Nat.le_refl _) _) _⟩

/-- A sample at any place of any plane. -/
theorem at_any (W H b c : Nat) (s : Nat → Int) (x y : Int) (w : World) (hW2 : W ≤ 1024) (hH2 : H ≤ 1024) (hP : PB w b (W * H) s) :
    Calls Try.prog 35 #[plV W H b (W * H) c, .int .i64 x, .int .i64 y] w fun r w' => r = .returned (.int .u8 (plAt W H s x y)) ∧ Below w.heap.size w w' := by
  by_cases h0 : W = 0 ∨ H = 0
  · have := at_none W H (W * H) c (some ⟨b, 0, none⟩) x y w hW2 hH2 h0
    unfold plAt; rw [if_pos h0]; exact this
  · exact at_in W H b c s x y w (by omega) (by omega) hW2 hH2 hP
end Go.Proofs.Ytbldgpemocnboaa

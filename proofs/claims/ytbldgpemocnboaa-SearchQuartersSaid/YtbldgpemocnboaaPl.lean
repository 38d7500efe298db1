/- Bytes in a block of memory; plane's clamp, At, walked: what they return for all planes of at most 1024 by 1024 samples, at any place. | plane.Plane's Block, walked: eight by eight samples from a place on. | plane.New, Plane.Set, Plane.Put, walked. | Plane.Put, walked. -/
import Derived.Test.YtbldgpemocnboaaOb
import Derived.Deep.QuietTactic
import Derived.BigQuiet
namespace Go.Proofs.Ytbldgpemocnboaa
open Go.RowKit
attribute [local go_sem ↓] run_imax run_imin

/-- The first n cells of block b hold the bytes s; it may be longer; none of it is frozen. -/
def u8v (s : Nat → Int) (k : Nat) : Value := .int .u8 (s k)
structure PB (w : World) (b n : Nat) (s : Nat → Int) : Prop where
  vb : VB w b 5 n (u8v s)
  bd : ∀ {k}, k < n → 0 ≤ s k ∧ s k ≤ 255
section
variable {w w' : World} {b n : Nat} {s : Nat → Int}
theorem PB.cell (h : PB w b n s) {k : Nat} (hk : k < n) : w.cell? ⟨b, k, none⟩ = some (.int .u8 (s k)) := h.vb.cell hk
theorem PB.free (h : PB w b n s) (k : Nat) : w.frozen? ⟨b, k, none⟩ = false := h.vb.free k
theorem PB.lt (h : PB w b n s) : b < w.heap.size := h.vb.lt
theorem PB.below {B : Nat} (h : PB w b n s) (hb : Below B w w') (hB : b < B) : PB w' b n s := ⟨h.vb.below hb hB, h.bd⟩
theorem PB.later (h : PB w b n s) (hb : Below w.heap.size w w') : PB w' b n s := h.below hb h.lt
theorem PB.alloc (h : PB w b n s) (o : Obj) : PB (w.alloc o) b n s := ⟨h.vb.alloc o, h.bd⟩
theorem PB.drew (h : PB w b n s) : PB w.drew b n s := ⟨h.vb, h.bd⟩
theorem PB.drewN (h : PB w b n s) (q : Nat) : PB (w.drewN q) b n s := ⟨h.vb, h.bd⟩
theorem PB.other (h : PB w b n s) {c : Nat} (hc : c ≠ b) (k : Nat) (v : Value) : PB (w.setCell ⟨c, k, none⟩ v) b n s := ⟨h.vb.other hc k v, h.bd⟩
theorem PB.setRow (h : PB w b n s) {c : Nat} (hc : c ≠ b) (cs : Array Value) : PB (w.setRow c cs) b n s := ⟨h.vb.setRow hc cs, h.bd⟩
theorem PB.set (h : PB w b n s) (k : Nat) (x : Int) (hx : 0 ≤ x ∧ x ≤ 255) : PB (w.setCell ⟨b, k, none⟩ (.int .u8 x)) b n (fun j => if j = k then x else s j) := by
  refine ⟨(h.vb.set k (.int .u8 x)).congr fun j _ => ?_, fun {j} hj => ?_⟩
  · by_cases e : j = k <;> simp [u8v, e]
  · split
    · exact hx
    · exact h.bd hj
theorem PB.congr {s' : Nat → Int} (h : PB w b n s) (e : ∀ k, k < n → s k = s' k) : PB w b n s' :=
  ⟨h.vb.congr fun k hk => by unfold u8v; rw [e k hk], fun {k} hk => by rw [← e k hk]; exact h.bd hk⟩
theorem PB.wr {c : Nat} (h : PB w c n s) (hw : Wr b w w') (hc : c ≠ b) : PB w' c n s := ⟨h.vb.wr hw hc, h.bd⟩
theorem PB.less {m : Nat} (h : PB w b n s) (hm : m ≤ n) : PB w b m s := ⟨h.vb.less hm, fun hk => h.bd (by omega)⟩
end

/-- The nearest number from 0 to below e. -/
def cl (n : Int) (e : Nat) : Nat := (max (min n ((e : Int) - 1)) 0).toNat
theorem cl_lt (n : Int) {e : Nat} (h : 0 < e) : cl n e < e := by unfold cl; omega
theorem cl_in {n : Int} {e : Nat} (h : 0 ≤ n) (h2 : n < e) : cl n e = n.toNat := by unfold cl; omega
theorem cl_zero (n : Int) : cl n 0 = 0 := by unfold cl; omega

/-- A plane's value. -/
def plV (W H b n c : Nat) : Value := .agg #[.int .i64 (W : Int), .int .i64 (H : Int), .slice (some ⟨b, 0, none⟩) n c]
/-- Its sample at a place, beyond the edges that at the edge; 0: there are none. -/
def plAt (W H : Nat) (s : Nat → Int) (x y : Int) : Int := if W = 0 ∨ H = 0 then 0 else s (cl y H * W + cl x W)

set_option maxHeartbeats 400000 in
theorem clamp_any (n : Int) (e : Nat) (w : World) (he : e ≤ 1048576) :
    Calls Try.prog 96 #[.int .i64 n, .int .i64 (e : Int)] w fun r w' => r = .returned (.int .i64 (cl n e : Nat)) ∧ w = w' := by
  go_enter Try.func96, Try.ntmps96
  go_wp2
  go_ret
  exact ⟨ret_int (by unfold cl; rw [imax_eq, imin_eq]; omega), rfl⟩

theorem idx_lt {W H : Nat} (x y : Int) (hW : 0 < W) (hH : 0 < H) : cl y H * W + cl x W < W * H := by
  have h1 := cl_lt x hW
  have h2 := cl_lt y hH
  calc cl y H * W + cl x W < cl y H * W + W := by omega
    _ = (cl y H + 1) * W := by rw [Nat.add_mul, Nat.one_mul]
    _ ≤ H * W := Nat.mul_le_mul_right _ (by omega)
    _ = W * H := Nat.mul_comm _ _
theorem size_le {W H : Nat} (hW : W ≤ 1024) (hH : H ≤ 1024) : W * H ≤ 1048576 := by
  calc W * H ≤ 1024 * 1024 := Nat.mul_le_mul hW hH
    _ = 1048576 := by decide

theorem plAt_bd {w : World} {W H b : Nat} {s : Nat → Int} (hP : PB w b (W * H) s) (x y : Int) : 0 ≤ plAt W H s x y ∧ plAt W H s x y ≤ 255 := by
  unfold plAt
  split
  · omega
  · exact hP.bd (idx_lt x y (by omega) (by omega))

set_option maxHeartbeats 1000000 in
theorem at_in (W H b c : Nat) (s : Nat → Int) (x y : Int) (w : World) (hW : 0 < W) (hH : 0 < H) (hW2 : W ≤ 1024) (hH2 : H ≤ 1024) (hP : PB w b (W * H) s) :
    Calls Try.prog 35 #[plV W H b (W * H) c, .int .i64 x, .int .i64 y] w fun r w' => r = .returned (.int .u8 (plAt W H s x y)) ∧ Below w.heap.size w w' := by
  have hi := idx_lt x y hW hH
  have hsz := size_le hW2 hH2
  have hx := cl_lt x hW
  have hy := cl_lt y hH
  have hc := hP.cell hi
  have hr : plAt W H s x y = s (cl y H * W + cl x W) := by unfold plAt; rw [if_neg (by omega)]
  rw [hr]
  clear hr
  have hm : cl y H * W ≤ 1048576 := by omega
  have d1 : ¬ W = 0 := by omega
  have d2 : ¬ H = 0 := by omega
  have hlt := hP.lt
  generalize hcx : cl x W = cx at *
  generalize hcy : cl y H = cy at *
  have hcx := Lib.hid hcx
  have hcy := Lib.hid hcy
  unfold plV
  go_enter Try.func35, Try.ntmps35
  go_wp2_with fail
  go_quiet ((go_at_call 96; exact Calls.quiet_of_same ((clamp_any _ _ _ (by omega)).mono fun _ _ h => ⟨h.1, h.2.symm⟩)))
  have d3 : decide ((W : Int) * (H : Int) ≤ (cy : Int) * (W : Int) + (cx : Int)) = false := by
    have : (((cy * W + cx : Nat)) : Int) < ((W * H : Nat) : Int) := by omega
    simpa using this
  go_wp2_with fail
  go_ret
  exact ⟨rfl, below_drewN ((Below.refl _ _).alloc (Nat.le_refl _) _) _⟩

set_option maxHeartbeats 1000000 in
theorem at_none (W H n c : Nat) (p : Option Addr) (x y : Int) (w : World) (hW2 : W ≤ 1024) (hH2 : H ≤ 1024) (h0 : W = 0 ∨ H = 0) :
    Calls Try.prog 35 #[.agg #[.int .i64 (W : Int), .int .i64 (H : Int), .slice p n c], .int .i64 x, .int .i64 y] w fun r w' => r = .returned (.int .u8 0) ∧ Below w.heap.size w w' := by
  have hm := size_le hW2 hH2
  have hcm : cl y H * W + cl x W ≤ 1048576 := by
    rcases h0 with rfl | rfl
    · simp [cl_zero]
    · rw [cl_zero]
      by_cases e : W = 0
      · subst e; simp [cl_zero]
      · have := cl_lt x (show 0 < W by omega); omega
  have hcm2 : cl y H * W ≤ 1048576 := by omega
  generalize hcx : cl x W = cx at *
  generalize hcy : cl y H = cy at *
  have hcx := Lib.hid hcx
  have hcy := Lib.hid hcy
  by_cases d1 : W = 0
  · subst d1
    go_enter Try.func35, Try.ntmps35
    go_wp2_with fail
    go_quiet ((go_at_call 96; first | exact Calls.quiet_of_same ((clamp_any _ _ _ (by omega)).mono fun _ _ h => ⟨h.1.trans (by rw [hcy.out]), h.2.symm⟩) | exact Calls.quiet_of_same ((clamp_any _ 0 _ (by omega)).mono fun _ _ h => ⟨h.1, h.2.symm⟩)))
    go_wp2_with fail
    go_ret
    exact ⟨rfl, below_drewN ((Below.refl _ _).alloc (Nat.le_refl _) _) _⟩
  · obtain rfl : H = 0 := by omega
    go_enter Try.func35, Try.ntmps35
    go_wp2_with fail
    go_quiet ((go_at_call 96; first | exact Calls.quiet_of_same ((clamp_any _ _ _ (by omega)).mono fun _ _ h => ⟨h.1.trans (by rw [hcx.out]), h.2.symm⟩) | exact Calls.quiet_of_same ((clamp_any _ 0 _ (by omega)).mono fun _ _ h => ⟨h.1, h.2.symm⟩)))
    go_wp2_with fail
    go_ret
    exact ⟨rfl, below_drewN ((Below.refl _ _).alloc (Nat.le_refl _) _) _⟩

/-- A sample at any place of any plane. -/
theorem at_any (W H b c : Nat) (s : Nat → Int) (x y : Int) (w : World) (hW2 : W ≤ 1024) (hH2 : H ≤ 1024) (hP : PB w b (W * H) s) :
    Calls Try.prog 35 #[plV W H b (W * H) c, .int .i64 x, .int .i64 y] w fun r w' => r = .returned (.int .u8 (plAt W H s x y)) ∧ Below w.heap.size w w' := by
  by_cases h0 : W = 0 ∨ H = 0
  · have := at_none W H (W * H) c (some ⟨b, 0, none⟩) x y w hW2 hH2 h0
    unfold plAt; rw [if_pos h0]; exact this
  · exact at_in W H b c s x y w (by omega) (by omega) hW2 hH2 hP
end Go.Proofs.Ytbldgpemocnboaa

namespace Go.Proofs.Ytbldgpemocnboaa
open Go.RowKit
attribute [local go_sem ↓] run_imax run_imin

def blockF (W H : Nat) (s : Nat → Int) (x y : Int) (i : Nat) : Int := plAt W H s (x + (i % 8 : Nat)) (y + (i / 8 : Nat))

set_option maxHeartbeats 1000000 in
theorem block_any (W H b c : Nat) (s : Nat → Int) (x y : Int) (w : World) (hW2 : W ≤ 1024) (hH2 : H ≤ 1024) (hP : PB w b (W * H) s)
    (hx : -2199023255552 ≤ x) (hx2 : x ≤ 2199023255552) (hy : -2199023255552 ≤ y) (hy2 : y ≤ 2199023255552) :
    Calls Try.prog 67 #[plV W H b (W * H) c, .int .i64 x, .int .i64 y] w fun r w' => r = .returned (.agg (fcells 64 (ival (blockF W H s x y)))) ∧ Below w.heap.size w w' := by
  unfold plV
  go_enter Try.func67, Try.ntmps67
  go_wp2_with (refine wpList_alloc_blk rfl 27 rfl _ _ alloc28 ?_)
  generalize hw2 : ((w.alloc (.cells #[.int .i64 (W : Int), .int .i64 (H : Int), .slice (some ⟨b, 0, none⟩) (W * H) c] 41)).alloc (.cells (fcells 64 (ival fun _ => 0)) 27)).alloc (.cells (fcells 64 (ival fun _ => 0)) 27) = w2
  have HO : Ob w2 w.heap.size 41 #[.int .i64 (W : Int), .int .i64 (H : Int), .slice (some ⟨b, 0, none⟩) (W * H) c] := by rw [← hw2]; exact ((Ob.new_at _ _ rfl).alloc _).alloc _
  have HR : Blk w2 (w.heap.size + 1) 27 64 (ival fun _ => 0) := by rw [← hw2]; exact (Blk.new_at _ _ _ (by simp)).alloc _
  have HZ : Blk w2 (w.heap.size + 1 + 1) 27 64 (ival fun _ => 0) := by rw [← hw2]; exact Blk.new_at _ _ _ (by simp)
  have HW : Below w.heap.size w w2 := by rw [← hw2]; exact (((Below.refl _ _).alloc (Nat.le_refl _) _).alloc (by simp) _).alloc (by simp; omega) _
  have HP : PB w2 b (W * H) s := hP.later HW
  have hlt := hP.lt
  clear hw2 hP
  go_loopw [9] (fun i wr => ∃ k : Nat, k ≤ 64 ∧ i = .int .i64 k ∧ Ob wr w.heap.size 41 #[.int .i64 (W : Int), .int .i64 (H : Int), .slice (some ⟨b, 0, none⟩) (W * H) c] ∧ Blk wr (w.heap.size + 1) 27 64 (ival fun _ => 0) ∧
      Blk wr (w.heap.size + 1 + 1) 27 64 (fillV k (ival (blockF W H s x y)) (ival fun _ => 0)) ∧ PB wr b (W * H) s ∧ Below w.heap.size w wr) (fun i _ => 64 - (intOf i).toNat)
  case atStart => exact ⟨0, by omega, rfl, HO, HR, HZ.fill_none, HP, HW⟩
  case round =>
    clear HO HR HZ HP HW
    obtain ⟨k, hk, rfl, HO, HR, HZ, HP, HW⟩ := hrel
    by_cases hk8 : k < 64
    · have hd : decide ((k : Int) < 64) = true := by simp; omega
      have i1 : (0 : Int) ≤ k := by omega
      have i2 : (k : Int) < 64 := by omega
      have hbd := plAt_bd HP (x + (k : Int) % 8) (y + (k : Int) / 8)
      obtain ⟨hbd1, hbd2⟩ := hbd
      go_wp2_with (refine wpList_load_ob HO rfl _ _ rfl rfl Try.underlying41 (by kernel_rfl) ?_)
      refine (at_any W H b c s _ _ _ hW2 hH2 HP).mono ?_
      rintro e w3 ⟨rfl, hb⟩
      replace HO := HO.later hb; replace HR := HR.later hb; replace HZ := HZ.later hb; replace HP := HP.later hb; replace HW := below_step HW hb
      clear hb
      have c1 := HZ.fill_cell hk8
      have f1 := HZ.free k
      go_wp2_with fail
      exact ⟨⟨k + 1, by omega, by go_num, HO.other (by omega) _ _, HR.other (by omega) _ _, HZ.fill, HP.other (by omega) _ _, HW.setCell (by simp; omega) _⟩, by simp [intOf]; omega⟩
    · obtain rfl : k = 64 := by omega
      go_wp2_with (first | (refine wpList_load_blk HZ.fill_all rfl _ _ rfl rfl und28 (by kernel_rfl) ?_) | (refine wpList_store_blk HR rfl _ _ _ rfl rfl rfl (by kernel_rfl) (fun j _ => rfl) ?_))
      exact bodyPost_ret (results_blk rfl _ (HR.setRow_same rfl) rfl und28 (by kernel_rfl)) rfl ⟨rfl, below_setRow HW (by omega) _⟩
end Go.Proofs.Ytbldgpemocnboaa

namespace Go.Proofs.Ytbldgpemocnboaa
open Go.RowKit
attribute [local go_sem ↓] run_imax run_imin

abbrev PLT : TypeId := 41
def plC (W H b n c : Nat) : Array Value := #[.int .i64 (W : Int), .int .i64 (H : Int), .slice (some ⟨b, 0, none⟩) n c]
section
variable {w : World} {W H b n c p : Nat}
theorem Ob.plW (h : Ob w p PLT (plC W H b n c)) : w.cell? ⟨p, 0, none⟩ = some (.int .i64 (W : Int)) := h.cell 0 rfl
theorem Ob.plH (h : Ob w p PLT (plC W H b n c)) : w.cell? ⟨p, 1, none⟩ = some (.int .i64 (H : Int)) := h.cell 1 rfl
theorem Ob.plS (h : Ob w p PLT (plC W H b n c)) : w.cell? ⟨p, 2, none⟩ = some (.slice (some ⟨b, 0, none⟩) n c) := h.cell 2 rfl
end
theorem infoU8 : (Try.prog.info? 5).map (fun i => (i.zero, i.size, i.bytes)) = some (some (.int .u8 0), 1, 1) := by kernel_rfl

/-- What New gives: a new block of bytes, all of one value. -/
def NewP (W H : Nat) (v : Int) (w : World) (r : Ending) (w' : World) : Prop :=
  ∃ b, r = .returned (plV W H b (W * H) (W * H)) ∧ w.heap.size ≤ b ∧ PB w' b (W * H) (fun _ => v) ∧ Below w.heap.size w w'

set_option maxHeartbeats 1000000 in
theorem new_any (x y v : Int) (W H : Nat) (w : World) (hx : imin (imax x 0) 1024 = W) (hy : imin (imax y 0) 1024 = H) (hv : 0 ≤ v ∧ v ≤ 255) :
    Calls Try.prog 99 #[.int .i64 x, .int .i64 y, .int .u8 v] w (NewP W H v w) := by
  have hW2 : W ≤ 1024 := by rw [imin_eq, imax_eq] at hx; omega
  have hH2 : H ≤ 1024 := by rw [imin_eq, imax_eq] at hy; omega
  have hm := size_le hW2 hH2
  go_enter Try.func99, Try.ntmps99
  go_wp2_with (refine wpList_make_vb rfl _ _ _ rfl 5 (.int .u8 0) 1 Try.underlying36 infoU8 rfl _ _ _ _ (W * H) rfl rfl (by simp) (by simp) (by omega) (by unfold maxLen; omega) ?_)
  replace hx := Lib.hid hx; replace hy := Lib.hid hy
  intro w1 hvb hb
  go_wp2_with fail
  have HB : PB w1 (w.heap.size + 1) (W * H) (fun j => if j < 0 then v else 0) := ⟨(show VB w1 (w.heap.size + 1) 5 (W * H) (fun _ => .int .u8 0) by simpa using hvb).congr (fun _ _ => by simp [u8v]), fun {k} _ => by simp⟩
  have hb1 : Below w.heap.size w w1 := ((Below.refl _ _).alloc (Nat.le_refl _) _).trans (hb.mono (by simp))
  have HZ : Ob w1 w.heap.size PLT #[.int .i64 0, .int .i64 0, .slice none 0 0] := (Ob.new_at _ _ rfl).below hb (by simp)
  have hsz : w.heap.size + 1 < w1.heap.size := HB.lt
  clear hvb hb
  generalize hw2 : w1.alloc (.cells #[.int .i64 (W : Int), .int .i64 (H : Int), .slice (some ⟨w.heap.size + 1, 0, none⟩) (W * H) (W * H)] PLT) = w2
  have HO : Ob w2 w1.heap.size PLT (plC W H (w.heap.size + 1) (W * H) (W * H)) := by rw [← hw2]; exact Ob.new_at _ _ rfl
  replace HB : PB w2 (w.heap.size + 1) (W * H) (fun j => if j < 0 then v else 0) := by rw [← hw2]; exact HB.alloc _
  replace HZ : Ob w2 w.heap.size PLT #[.int .i64 0, .int .i64 0, .slice none 0 0] := by rw [← hw2]; exact HZ.alloc _
  have HW : Below w.heap.size w w2 := by rw [← hw2]; exact hb1.alloc hb1.size _
  clear hw2 hb1
  generalize w1.heap.size = p at *
  clear w1
  go_loopw [25] (fun i wr => ∃ k : Nat, k ≤ W * H ∧ i = .int .i64 k ∧ Ob wr p PLT (plC W H (w.heap.size + 1) (W * H) (W * H)) ∧ PB wr (w.heap.size + 1) (W * H) (fun j => if j < k then v else 0) ∧
      Ob wr w.heap.size PLT #[.int .i64 0, .int .i64 0, .slice none 0 0] ∧ Below w.heap.size w wr) (fun i _ => W * H - (intOf i).toNat)
  case atStart => exact ⟨0, by omega, rfl, HO, HB, HZ, HW⟩
  case round =>
    clear HO HB HZ HW
    obtain ⟨k, hk, rfl, HO, HB, HZ, HW⟩ := hrel
    by_cases hlt : k < W * H
    · have hd : decide ((k : Int) < (W : Int) * (H : Int)) = true := by
        have : ((k : Nat) : Int) < ((W * H : Nat) : Int) := by omega
        simpa using this
      have c1 := HO.plS
      have c2 := HB.cell hlt
      have f2 := HB.free k
      go_wp2_with fail
      exact ⟨⟨k + 1, by omega, by go_num, HO.other (by omega) _ _, (HB.set k v hv).congr (fun j _ => by
        by_cases e : j = k
        · simp [e]
        · by_cases e2 : j < k
          · simp [e, e2, show j < k + 1 by omega]
          · simp [e, e2, show ¬ j < k + 1 by omega]), HZ.other (by omega) _ _, HW.setCell (by simp) _⟩, by simp [intOf]; omega⟩
    · obtain rfl : k = W * H := by omega
      go_wp2_with (first | (refine wpList_load_ob HO rfl _ _ rfl rfl Try.underlying41 (by kernel_rfl) ?_) | (refine wpList_store_ob HZ rfl _ _ _ rfl rfl _ rfl (by kernel_rfl) rfl rfl ?_))
      exact bodyPost_ret (results_ob rfl _ (HZ.setRow_same _) rfl Try.underlying41 (by kernel_rfl)) rfl ⟨_, rfl, by omega, (HB.setRow (by omega) _).congr (fun j hj => by simp [hj]), below_setRow HW (Nat.le_refl _) _⟩

theorem set_idx {W H : Nat} {x y : Int} (h : 0 ≤ x ∧ x < W ∧ 0 ≤ y ∧ y < H) : y.toNat * W + x.toNat < W * H := by
  have h1 := idx_lt x y (W := W) (H := H) (by omega) (by omega)
  rwa [cl_in h.1 h.2.1, cl_in h.2.2.1 h.2.2.2] at h1

/-- A sample's place is set; elsewhere nothing is. -/
def plSet (W H : Nat) (s : Nat → Int) (x y v : Int) : Nat → Int := fun j => if (0 ≤ x ∧ x < W ∧ 0 ≤ y ∧ y < H) ∧ j = y.toNat * W + x.toNat then v else s j

theorem plSet_in {W H : Nat} {s : Nat → Int} {x y v : Int} (h : 0 ≤ x ∧ x < W ∧ 0 ≤ y ∧ y < H) : plSet W H s x y v = fun j => if j = y.toNat * W + x.toNat then v else s j := by
  funext j; unfold plSet; simp [h]
theorem plSet_out {W H : Nat} {s : Nat → Int} {x y v : Int} (h : ¬ (0 ≤ x ∧ x < W ∧ 0 ≤ y ∧ y < H)) : plSet W H s x y v = s := by
  funext j; unfold plSet; rw [if_neg (fun e => h e.1)]

/-- A call that writes bytes of one old block alone, and gives nothing. -/
def WroteP (b n : Nat) (s : Nat → Int) (w : World) (r : Ending) (w' : World) : Prop := r = .returned (.tuple #[]) ∧ PB w' b n s ∧ Wr b w w'

set_option maxHeartbeats 1000000 in
theorem set_any (W H b c : Nat) (s : Nat → Int) (x y v : Int) (w : World) (hW2 : W ≤ 1024) (hH2 : H ≤ 1024) (hv : 0 ≤ v ∧ v ≤ 255) (hP : PB w b (W * H) s) :
    Calls Try.prog 85 #[plV W H b (W * H) c, .int .i64 x, .int .i64 y, .int .u8 v] w (WroteP b (W * H) (plSet W H s x y v) w) := by
  have hlt := hP.lt
  have hm := size_le hW2 hH2
  by_cases hin : 0 ≤ x ∧ x < W ∧ 0 ≤ y ∧ y < H
  · rw [plSet_in hin]
    have hi := set_idx hin
    obtain ⟨h1, h2, h3, h4⟩ := hin
    obtain ⟨i, rfl⟩ : ∃ i : Nat, x = i := ⟨x.toNat, by omega⟩
    obtain ⟨j, rfl⟩ : ∃ j : Nat, y = j := ⟨y.toNat, by omega⟩
    simp only [Int.toNat_natCast] at hi ⊢
    have hc := hP.cell hi
    have hf := hP.free (j * W + i)
    have h2 : i < W := by omega
    have h4 : j < H := by omega
    have hd : decide ((j : Int) * (W : Int) + (i : Int) < (W : Int) * (H : Int)) = true := by
      have : ((j * W + i : Nat) : Int) < ((W * H : Nat) : Int) := by omega
      simpa using this
    unfold plV
    go_enter Try.func85, Try.ntmps85
    go_wp2_with fail
    go_end0
    exact ⟨rfl, (hP.set _ _ hv).alloc _, ((Wr.refl _ _).setCell _ _).alloc _⟩
  · rw [plSet_out hin]
    unfold plV
    by_cases h1 : 0 ≤ x
    · by_cases h2 : x < W
      · by_cases h3 : 0 ≤ y
        · have h4 : ¬ y < H := by omega
          have e1 : decide (y < (H : Int)) = false := by simpa using h4
          clear hin
          go_enter Try.func85, Try.ntmps85
          go_wp2_with fail
          go_end0
          exact ⟨rfl, hP.alloc _, (Wr.refl _ _).alloc _⟩
        · have e1 : decide (0 ≤ y) = false := by simpa using h3
          clear hin
          go_enter Try.func85, Try.ntmps85
          go_wp2_with fail
          go_end0
          exact ⟨rfl, hP.alloc _, (Wr.refl _ _).alloc _⟩
      · have e1 : decide (x < (W : Int)) = false := by simpa using h2
        clear hin
        go_enter Try.func85, Try.ntmps85
        go_wp2_with fail
        go_end0
        exact ⟨rfl, hP.alloc _, (Wr.refl _ _).alloc _⟩
    · have e1 : decide (0 ≤ x) = false := by simpa using h1
      clear hin
      go_enter Try.func85, Try.ntmps85
      go_wp2_with fail
      go_end0
      exact ⟨rfl, hP.alloc _, (Wr.refl _ _).alloc _⟩
end Go.Proofs.Ytbldgpemocnboaa

namespace Go.Proofs.Ytbldgpemocnboaa
open Go.RowKit
attribute [local go_sem ↓] run_imax run_imin

def sat (n : Int) : Int := imax (imin n 255) 0
theorem sat_bd (n : Int) : 0 ≤ sat n ∧ sat n ≤ 255 := by unfold sat; rw [imax_eq, imin_eq]; omega
/-- The first k of eight by eight samples are put. -/
def putF (W H : Nat) (s : Nat → Int) (x y : Int) (p : Nat → Int) : Nat → Nat → Int
  | 0 => s
  | k + 1 => plSet W H (putF W H s x y p k) (x + (k : Int) % 8) (y + (k : Int) / 8) (sat (p k))

set_option maxHeartbeats 1000000 in
theorem put_any (W H b c : Nat) (s p : Nat → Int) (x y : Int) (w : World) (hW2 : W ≤ 1024) (hH2 : H ≤ 1024) (hP : PB w b (W * H) s)
    (hx : -2199023255552 ≤ x) (hx2 : x ≤ 2199023255552) (hy : -2199023255552 ≤ y) (hy2 : y ≤ 2199023255552) :
    Calls Try.prog 101 #[plV W H b (W * H) c, .int .i64 x, .int .i64 y, .agg (fcells 64 (ival p))] w (WroteP b (W * H) (putF W H s x y p 64) w) := by
  unfold plV
  go_enter Try.func101, Try.ntmps101
  have HZ : Blk ((w.alloc (.cells (plC W H b (W * H) c) PLT)).alloc (.cells (fcells 64 (ival p)) 27)) (w.heap.size + 1) 27 64 (ival p) := Blk.new_at _ _ _ (by simp)
  have HO : Ob ((w.alloc (.cells (plC W H b (W * H) c) PLT)).alloc (.cells (fcells 64 (ival p)) 27)) w.heap.size PLT (plC W H b (W * H) c) := (Ob.new_at _ _ rfl).alloc _
  have hlt := hP.lt
  replace hP : PB ((w.alloc (.cells (plC W H b (W * H) c) PLT)).alloc (.cells (fcells 64 (ival p)) 27)) b (W * H) s := (hP.alloc _).alloc _
  have hW : Wr b w ((w.alloc (.cells (plC W H b (W * H) c) PLT)).alloc (.cells (fcells 64 (ival p)) 27)) := ((Wr.refl _ _).alloc _).alloc _
  unfold plC at HZ HO hP hW
  go_wp2_with (refine wpList_load_blk HZ rfl _ _ rfl rfl und28 (by kernel_rfl) ?_)
  generalize (w.alloc (.cells #[.int .i64 (W : Int), .int .i64 (H : Int), .slice (some ⟨b, 0, none⟩) (W * H) c] PLT)).alloc (.cells (fcells 64 (ival p)) 27) = w2 at *
  clear HZ
  go_loopw [11] (fun i wr => ∃ k : Nat, k ≤ 64 ∧ i = .int .i64 k ∧ Ob wr w.heap.size PLT (plC W H b (W * H) c) ∧ PB wr b (W * H) (putF W H s x y p k) ∧ Wr b w wr) (fun i _ => 64 - (intOf i).toNat)
  case atStart => exact ⟨0, by omega, rfl, HO, hP, hW⟩
  case round =>
    clear HO hP hW
    obtain ⟨k, hk, rfl, HO, hP, hW⟩ := hrel
    by_cases hk8 : k < 64
    · have hd : decide ((k : Int) < 64) = true := by simp; omega
      have i1 : (0 : Int) ≤ k := by omega
      have i2 : (k : Int) < 64 := by omega
      have hix : ∀ W, (Instr.index 27 (.agg (fcells 64 (ival p))) (.int .i64 (k : Int))).run Try.prog W = .ok (.int .i64 (p k)) W := fun W =>
        run_index_fcells W _ _ 64 (ival p) k und28 (by kernel_rfl) (by kernel_rfl) (by omega) (by omega)
      obtain ⟨hs1, hs2⟩ := sat_bd (p k)
      have hsat := Lib.hid (show imax (imin (p k) 255) 0 = sat (p k) from rfl)
      unfold sat at hs1 hs2
      go_wp2_with (refine wpList_load_ob HO rfl _ _ rfl rfl Try.underlying41 (by kernel_rfl) ?_)
      rw [hsat.out]
      refine (set_any W H b c _ _ _ _ _ hW2 hH2 (sat_bd _) hP).mono ?_
      rintro e w3 ⟨rfl, hP3, hW3⟩
      replace HO := HO.wr hW3 (by omega); replace hW := hW.trans hW3
      clear hP hW3
      go_wp2_with fail
      exact ⟨⟨k + 1, by omega, by go_num, HO, hP3, hW⟩, by simp [intOf]; omega⟩
    · obtain rfl : k = 64 := by omega
      go_wp2_with fail
      go_end0
      exact ⟨rfl, hP, hW⟩

theorem idx_one {W i j x y : Nat} (hi : i < W) (hx : x < W) (h : j * W + i = y * W + x) : j = y ∧ i = x := by
  have h1 : (j * W + i) / W = j := by rw [Nat.mul_comm, Nat.mul_add_div (by omega), Nat.div_eq_of_lt hi, Nat.add_zero]
  have h2 : (y * W + x) / W = y := by rw [Nat.mul_comm, Nat.mul_add_div (by omega), Nat.div_eq_of_lt hx, Nat.add_zero]
  rw [h] at h1
  obtain rfl : j = y := h1.symm.trans h2
  exact ⟨rfl, by omega⟩
/-- What a sample is behind k of the 64. -/
theorem putF_at {W H : Nat} {s p : Nat → Int} {px py : Int} {i j : Nat} (hi : i < W) (hj : j < H) (k : Nat) (hk : k ≤ 64) :
    putF W H s px py p k (j * W + i) = if (px ≤ i ∧ i < px + 8 ∧ py ≤ j ∧ j < py + 8) ∧ 8 * ((j : Int) - py) + i - px < k then sat (p (8 * ((j : Int) - py) + i - px).toNat) else s (j * W + i) := by
  induction k with
  | zero => rw [if_neg (by omega)]; rfl
  | succ k ih =>
    have ih := ih (by omega)
    unfold putF plSet
    by_cases h : (0 ≤ px + (k : Int) % 8 ∧ px + (k : Int) % 8 < W ∧ 0 ≤ py + (k : Int) / 8 ∧ py + (k : Int) / 8 < H) ∧ j * W + i = (py + (k : Int) / 8).toNat * W + (px + (k : Int) % 8).toNat
    · obtain ⟨h1, h2⟩ := h
      obtain ⟨e1, e2⟩ := idx_one hi (by omega) h2
      rw [if_pos ⟨h1, h2⟩, if_pos (by omega)]
      congr 2
      omega
    · rw [if_neg h, ih]
      by_cases h3 : (px ≤ i ∧ i < px + 8 ∧ py ≤ j ∧ j < py + 8) ∧ 8 * ((j : Int) - py) + i - px < k
      · rw [if_pos h3, if_pos (by omega)]
      · rw [if_neg h3, if_neg ?_]
        rintro ⟨h4, h5⟩
        have e : 8 * ((j : Int) - py) + i - px = k := by omega
        have e1 : (i : Int) = px + (k : Int) % 8 := by omega
        have e2 : (j : Int) = py + (k : Int) / 8 := by omega
        refine h ⟨by omega, ?_⟩
        rw [← e1, ← e2]; simp
end Go.Proofs.Ytbldgpemocnboaa

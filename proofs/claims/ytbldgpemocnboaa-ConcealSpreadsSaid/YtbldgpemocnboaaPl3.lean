/- plane.New, Plane.Set, Plane.Put, walked. -/
import Derived.Test.YtbldgpemocnboaaPl2
namespace Go.Proofs.Ytbldgpemocnboaa
open Go.RowKit
attribute [local go_sem ↓] run_imax run_imin

abbrev PLT : TypeId := 41
def plC (W H b n c : Nat) : Array Value := #[.int .i64 (W : Int), .int .i64 (H : Int), .slice (some ⟨b, 0, none⟩) n c]
section
variable {w : World} {W H b n c p : Nat}
theorem Ob.plW (h : Ob w p PLT (plC W H b n c)) : w.cell? ⟨p, 0, none⟩ = some (.int .i64 (W : Int)) := h.cell 0 rfl
theorem Ob.plH (h : Ob w p PLT (plC W H b n c)) : w.cell? ⟨p, 1, none⟩ = some (.int .i64 (H : Int)) := h.cell 1 rfl
theorem Ob.plS (h : Ob w p PLT (plC W H b n c)) : w.cell? ⟨p, 2, none⟩ = some (.slice (some ⟨b, 0, none⟩) n c) := h.cell 2 rfl
end
theorem infoU8 : (Try.prog.info? 5).map (fun i => (i.zero, i.size, i.bytes)) = some (some (.int .u8 0), 1, 1) := by kernel_rfl

/-- What New gives: a new block of bytes, all of one value. -/
def NewP (W H : Nat) (v : Int) (w : World) (r : Ending) (w' : World) : Prop :=
  ∃ b, r = .returned (plV W H b (W * H) (W * H)) ∧ w.heap.size ≤ b ∧ PB w' b (W * H) (fun _ => v) ∧ Below w.heap.size w w'

set_option maxHeartbeats 1000000 in
theorem new_any (x y v : Int) (W H : Nat) (w : World) (hx : imin (imax x 0) 1024 = W) (hy : imin (imax y 0) 1024 = H) (hv : 0 ≤ v ∧ v ≤ 255) :
    Calls Try.prog 99 #[.int .i64 x, .int .i64 y, .int .u8 v] w (NewP W H v w) := by
  have hW2 : W ≤ 1024 := by rw [imin_eq, imax_eq] at hx; omega
  have hH2 : H ≤ 1024 := by rw [imin_eq, imax_eq] at hy; omega
  have hm := size_le hW2 hH2
  go_enter Try.func99, Try.ntmps99
  go_wp2_with (refine wpList_make_vb rfl _ _ _ rfl 5 (.int .u8 0) 1 Try.underlying36 infoU8 rfl _ _ _ _ (W * H) rfl rfl (by simp) (by simp) (by omega) (by unfold maxLen; omega) ?_)
  replace hx := Lib.hid hx; replace hy := Lib.hid hy
  intro w1 hvb hb
  go_wp2_with fail
  have HB : PB w1 (w.heap.size + 1) (W * H) (fun j => if j < 0 then v else 0) := ⟨(show VB w1 (w.heap.size + 1) 5 (W * H) (fun _ => .int .u8 0) by simpa using hvb).congr (fun _ _ => by simp [u8v]), fun {k} _ => by simp⟩
  have hb1 : Below w.heap.size w w1 := ((Below.refl _ _).alloc (Nat.le_refl _) _).trans (hb.mono (by simp))
  have HZ : Ob w1 w.heap.size PLT #[.int .i64 0, .int .i64 0, .slice none 0 0] := (Ob.new_at _ _ rfl).below hb (by simp)
  have hsz : w.heap.size + 1 < w1.heap.size := HB.lt
  clear hvb hb
  generalize hw2 : w1.alloc (.cells #[.int .i64 (W : Int), .int .i64 (H : Int), .slice (some ⟨w.heap.size + 1, 0, none⟩) (W * H) (W * H)] PLT) = w2
  have HO : Ob w2 w1.heap.size PLT (plC W H (w.heap.size + 1) (W * H) (W * H)) := by rw [← hw2]; exact Ob.new_at _ _ rfl
  replace HB : PB w2 (w.heap.size + 1) (W * H) (fun j => if j < 0 then v else 0) := by rw [← hw2]; exact HB.alloc _
  replace HZ : Ob w2 w.heap.size PLT #[.int .i64 0, .int .i64 0, .slice none 0 0] := by rw [← hw2]; exact HZ.alloc _
  have HW : Below w.heap.size w w2 := by rw [← hw2]; exact hb1.alloc hb1.size _
  clear hw2 hb1
  generalize w1.heap.size = p at *
  clear w1
  go_loopw [25] (fun i wr => ∃ k : Nat, k ≤ W * H ∧ i = .int .i64 k ∧ Ob wr p PLT (plC W H (w.heap.size + 1) (W * H) (W * H)) ∧ PB wr (w.heap.size + 1) (W * H) (fun j => if j < k then v else 0) ∧
      Ob wr w.heap.size PLT #[.int .i64 0, .int .i64 0, .slice none 0 0] ∧ Below w.heap.size w wr) (fun i _ => W * H - (intOf i).toNat)
  case atStart => exact ⟨0, by omega, rfl, HO, HB, HZ, HW⟩
  case round =>
    clear HO HB HZ HW
    obtain ⟨k, hk, rfl, HO, HB, HZ, HW⟩ := hrel
    by_cases hlt : k < W * H
    · have hd : decide ((k : Int) < (W : Int) * (H : Int)) = true := by
        have : ((k : Nat) : Int) < ((W * H : Nat) : Int) := by omega
        simpa using this
      have c1 := HO.plS
      have c2 := HB.cell hlt
      have f2 := HB.free k
      go_wp2_with fail
      exact ⟨⟨k + 1, by omega, by go_num, HO.other (by omega) _ _, (HB.set k v hv).congr (fun j _ => by
        by_cases e : j = k
        · simp [e]
        · by_cases e2 : j < k
          · simp [e, e2, show j < k + 1 by omega]
          · simp [e, e2, show ¬ j < k + 1 by omega]), HZ.other (by omega) _ _, HW.setCell (by simp) _⟩, by simp [intOf]; omega⟩
    · obtain rfl : k = W * H := by omega
      go_wp2_with (first | (refine wpList_load_ob HO rfl _ _ rfl rfl Try.underlying41 (by kernel_rfl) ?_) | (refine wpList_store_ob HZ rfl _ _ _ rfl rfl _ rfl (by kernel_rfl) rfl rfl ?_))
      exact bodyPost_ret (results_ob rfl _ (HZ.setRow_same _) rfl Try.underlying41 (by kernel_rfl)) rfl ⟨_, rfl, by omega, (HB.setRow (by omega) _).congr (fun j hj => by simp [hj]), below_setRow HW (Nat.le_refl _) _⟩

theorem set_idx {W H : Nat} {x y : Int} (h : 0 ≤ x ∧ x < W ∧ 0 ≤ y ∧ y < H) : y.toNat * W + x.toNat < W * H := by
  have h1 := idx_lt x y (W := W) (H := H) (by omega) (by omega)
  rwa [cl_in h.1 h.2.1, cl_in h.2.2.1 h.2.2.2] at h1

/-- A sample's place is set; elsewhere nothing is. -/
def plSet (W H : Nat) (s : Nat → Int) (x y v : Int) : Nat → Int := fun j => if (0 ≤ x ∧ x < W ∧ 0 ≤ y ∧ y < H) ∧ j = y.toNat * W + x.toNat then v else s j

theorem plSet_in {W H : Nat} {s : Nat → Int} {x y v : Int} (h : 0 ≤ x ∧ x < W ∧ 0 ≤ y ∧ y < H) : plSet W H s x y v = fun j => if j = y.toNat * W + x.toNat then v else s j := by
  funext j; unfold plSet; simp [h]
theorem plSet_out {W H : Nat} {s : Nat → Int} {x y v : Int} (h : ¬ (0 ≤ x ∧ x < W ∧ 0 ≤ y ∧ y < H)) : plSet W H s x y v = s := by
  funext j; unfold plSet; rw [if_neg (fun e => h e.1)]

/-- A call that writes bytes of one old block alone, and gives nothing. -/
def WroteP (b n : Nat) (s : Nat → Int) (w : World) (r : Ending) (w' : World) : Prop := r = .returned (.tuple #[]) ∧ PB w' b n s ∧ Wr b w w'

set_option maxHeartbeats 1000000 in
theorem set_any (W H b c : Nat) (s : Nat → Int) (x y v : Int) (w : World) (hW2 : W ≤ 1024) (hH2 : H ≤ 1024) (hv : 0 ≤ v ∧ v ≤ 255) (hP : PB w b (W * H) s) :
    Calls Try.prog 85 #[plV W H b (W * H) c, .int .i64 x, .int .i64 y, .int .u8 v] w (WroteP b (W * H) (plSet W H s x y v) w) := by
  have hlt := hP.lt
  have hm := size_le hW2 hH2
  by_cases hin : 0 ≤ x ∧ x < W ∧ 0 ≤ y ∧ y < H
  · rw [plSet_in hin]
    have hi := set_idx hin
    obtain ⟨h1, h2, h3, h4⟩ := hin
    obtain ⟨i, rfl⟩ : ∃ i : Nat, x = i := ⟨x.toNat, by omega⟩
    obtain ⟨j, rfl⟩ : ∃ j : Nat, y = j := ⟨y.toNat, by omega⟩
    simp only [Int.toNat_natCast] at hi ⊢
    have hc := hP.cell hi
    have hf := hP.free (j * W + i)
    have h2 : i < W := by omega
    have h4 : j < H := by omega
    have hd : decide ((j : Int) * (W : Int) + (i : Int) < (W : Int) * (H : Int)) = true := by
      have : ((j * W + i : Nat) : Int) < ((W * H : Nat) : Int) := by omega
      simpa using this
    unfold plV
    go_enter Try.func85, Try.ntmps85
    go_wp2_with fail
    go_end0
    exact ⟨rfl, (hP.set _ _ hv).alloc _, ((Wr.refl _ _).setCell _ _).alloc _⟩
  · rw [plSet_out hin]
    unfold plV
    by_cases h1 : 0 ≤ x
    · by_cases h2 : x < W
      · by_cases h3 : 0 ≤ y
        · have h4 : ¬ y < H := by omega
          have e1 : decide (y < (H : Int)) = false := by simpa using h4
          clear hin
          go_enter Try.func85, Try.ntmps85
          go_wp2_with fail
          go_end0
          exact ⟨rfl, hP.alloc _, (Wr.refl _ _).alloc _⟩
        · have e1 : decide (0 ≤ y) = false := by simpa using h3
          clear hin
          go_enter Try.func85, Try.ntmps85
          go_wp2_with fail
          go_end0
          exact ⟨rfl, hP.alloc _, (Wr.refl _ _).alloc _⟩
      · have e1 : decide (x < (W : Int)) = false := by simpa using h2
        clear hin
        go_enter Try.func85, Try.ntmps85
        go_wp2_with fail
        go_end0
        exact ⟨rfl, hP.alloc _, (Wr.refl _ _).alloc _⟩
    · have e1 : decide (0 ≤ x) = false := by simpa using h1
      clear hin
      go_enter Try.func85, Try.ntmps85
      go_wp2_with fail
      go_end0
      exact ⟨rfl, hP.alloc _, (Wr.refl _ _).alloc _⟩
end Go.Proofs.Ytbldgpemocnboaa

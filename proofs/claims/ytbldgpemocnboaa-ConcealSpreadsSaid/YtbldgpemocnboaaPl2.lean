/- plane.Plane's Block, walked: eight by eight samples from a place on. -/
import Derived.Test.YtbldgpemocnboaaPl1
namespace Go.Proofs.Ytbldgpemocnboaa
open Go.RowKit
attribute [local go_sem ↓] run_imax run_imin

def blockF (W H : Nat) (s : Nat → Int) (x y : Int) (i : Nat) : Int := plAt W H s (x + (i % 8 : Nat)) (y + (i / 8 : Nat))

set_option maxHeartbeats 1000000 in
theorem block_any (W H b c : Nat) (s : Nat → Int) (x y : Int) (w : World) (hW2 : W ≤ 1024) (hH2 : H ≤ 1024) (hP : PB w b (W * H) s)
    (hx : -2199023255552 ≤ x) (hx2 : x ≤ 2199023255552) (hy : -2199023255552 ≤ y) (hy2 : y ≤ 2199023255552) :
    Calls Try.prog 67 #[plV W H b (W * H) c, .int .i64 x, .int .i64 y] w fun r w' => r = .returned (.agg (fcells 64 (ival (blockF W H s x y)))) ∧ Below w.heap.size w w' := by
  unfold plV
  go_enter Try.func67, Try.ntmps67
  go_wp2_with (refine wpList_alloc_blk rfl 27 rfl _ _ alloc28 ?_)
  generalize hw2 : ((w.alloc (.cells #[.int .i64 (W : Int), .int .i64 (H : Int), .slice (some ⟨b, 0, none⟩) (W * H) c] 41)).alloc (.cells (fcells 64 (ival fun _ => 0)) 27)).alloc (.cells (fcells 64 (ival fun _ => 0)) 27) = w2
  have HO : Ob w2 w.heap.size 41 #[.int .i64 (W : Int), .int .i64 (H : Int), .slice (some ⟨b, 0, none⟩) (W * H) c] := by rw [← hw2]; exact ((Ob.new_at _ _ rfl).alloc _).alloc _
  have HR : Blk w2 (w.heap.size + 1) 27 64 (ival fun _ => 0) := by rw [← hw2]; exact (Blk.new_at _ _ _ (by simp)).alloc _
  have HZ : Blk w2 (w.heap.size + 1 + 1) 27 64 (ival fun _ => 0) := by rw [← hw2]; exact Blk.new_at _ _ _ (by simp)
  have HW : Below w.heap.size w w2 := by rw [← hw2]; exact (((Below.refl _ _).alloc (Nat.le_refl _) _).alloc (by simp) _).alloc (by simp; omega) _
  have HP : PB w2 b (W * H) s := hP.later HW
  have hlt := hP.lt
  clear hw2 hP
  go_loopw [9] (fun i wr => ∃ k : Nat, k ≤ 64 ∧ i = .int .i64 k ∧ Ob wr w.heap.size 41 #[.int .i64 (W : Int), .int .i64 (H : Int), .slice (some ⟨b, 0, none⟩) (W * H) c] ∧ Blk wr (w.heap.size + 1) 27 64 (ival fun _ => 0) ∧
      Blk wr (w.heap.size + 1 + 1) 27 64 (fillV k (ival (blockF W H s x y)) (ival fun _ => 0)) ∧ PB wr b (W * H) s ∧ Below w.heap.size w wr) (fun i _ => 64 - (intOf i).toNat)
  case atStart => exact ⟨0, by omega, rfl, HO, HR, HZ.fill_none, HP, HW⟩
  case round =>
    clear HO HR HZ HP HW
    obtain ⟨k, hk, rfl, HO, HR, HZ, HP, HW⟩ := hrel
    by_cases hk8 : k < 64
    · have hd : decide ((k : Int) < 64) = true := by simp; omega
      have i1 : (0 : Int) ≤ k := by omega
      have i2 : (k : Int) < 64 := by omega
      have hbd := plAt_bd HP (x + (k : Int) % 8) (y + (k : Int) / 8)
      obtain ⟨hbd1, hbd2⟩ := hbd
      go_wp2_with (refine wpList_load_ob HO rfl _ _ rfl rfl Try.underlying41 (by kernel_rfl) ?_)
      refine (at_any W H b c s _ _ _ hW2 hH2 HP).mono ?_
      rintro e w3 ⟨rfl, hb⟩
      replace HO := HO.later hb; replace HR := HR.later hb; replace HZ := HZ.later hb; replace HP := HP.later hb; replace HW := below_step HW hb
      clear hb
      have c1 := HZ.fill_cell hk8
      have f1 := HZ.free k
      go_wp2_with fail
      exact ⟨⟨k + 1, by omega, by go_num, HO.other (by omega) _ _, HR.other (by omega) _ _, HZ.fill, HP.other (by omega) _ _, HW.setCell (by simp; omega) _⟩, by simp [intOf]; omega⟩
    · obtain rfl : k = 64 := by omega
      go_wp2_with (first | (refine wpList_load_blk HZ.fill_all rfl _ _ rfl rfl und28 (by kernel_rfl) ?_) | (refine wpList_store_blk HR rfl _ _ _ rfl rfl rfl (by kernel_rfl) (fun j _ => rfl) ?_))
      exact bodyPost_ret (results_blk rfl _ (HR.setRow_same rfl) rfl und28 (by kernel_rfl)) rfl ⟨rfl, below_setRow HW (by omega) _⟩
end Go.Proofs.Ytbldgpemocnboaa

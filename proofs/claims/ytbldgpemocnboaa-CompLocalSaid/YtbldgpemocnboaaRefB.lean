/- The document's Block of a macroblock that is taken from elsewhere with nothing more, walked. -/
import Derived.Test.YtbldgpemocnboaaRefT
import Derived.Test.YtbldgpemocnboaaPred
namespace Go.Proofs.Ytbldgpemocnboaa
open Go.RowKit Go.Sort
attribute [local go_sem ↓] run_imax run_imin

abbrev P135 : TypeId := 135
set_option maxRecDepth 1000000 in
set_option maxHeartbeats 8000000 in
theorem refBlock_any (W H b cc c r mb k : Nat) (s : Nat → Int) (qp : Int) (X Y L : Nat → Int) (d : Bool) (wt : Nat → Value) (w : World) (hW : 0 < W) (hH : 0 < H) (hW2 : W ≤ 1024) (hH2 : H ≤ 1024) (hP : PB w b (W * H) s)
    (h1 : 0 < c) (h2 : c ≤ 8) (hm : mb ≤ 1000000) (hk : k < 6) (hV : V4b X Y) :
    Calls Try.prog 83 #[plV W H b (W * H) cc, .int .i64 (c : Int), .int .i64 (mb : Int), .int .i64 (k : Int), .agg (fcells 395 (mcC false true qp X Y L)), .bool d, .agg (fcells 64 wt)] w
      fun e w' => e = .returned (.agg (fcells 64 (ival (ipBlockF W H s ((fz c r).px mb k) ((fz c r).py mb k) (vk X k) (vk Y k) d)))) ∧ Below w.heap.size w w' := by
  replace hV := Lib.hid hV
  obtain ⟨p1, p2, p3, p4⟩ := (fz c r).pxy_bd (k := k) hm hk
  obtain ⟨⟨v1, v2⟩, v3, v4⟩ := vk_bd hV.out k
  have hpl := fun W => place_any c r mb k W h1 h2 hm hk
  have hvc := fun W => refVector_any false true qp X Y L k W hk hV.out
  replace hpl := Lib.hid hpl; replace hvc := Lib.hid hvc
  generalize (fz c r).px mb k = PX at *
  generalize (fz c r).py mb k = PY at *
  generalize vk X k = DX at *
  generalize vk Y k = DY at *
  unfold plV
  go_enter Try.func83, Try.ntmps83
  go_wp2_with (refine wpList_alloc_blk rfl 27 rfl _ _ alloc28 ?_)
  generalize hw2 : ((((w.alloc (.cells #[.int .i64 (W : Int), .int .i64 (H : Int), .slice (some ⟨b, 0, none⟩) (W * H) cc] P135)).alloc (.cells (fcells 395 (mcC false true qp X Y L)) M115)).alloc (.cells (fcells 64 wt) 22)).alloc (.cells (fcells 64 (ival fun _ => 0)) 27)).alloc (.cells (fcells 64 (ival fun _ => 0)) 27) = w2
  have HO : Ob w2 w.heap.size P135 #[.int .i64 (W : Int), .int .i64 (H : Int), .slice (some ⟨b, 0, none⟩) (W * H) cc] := by rw [← hw2]; exact ((((Ob.new_at _ _ rfl).alloc _).alloc _).alloc _).alloc _
  have HI : Blk w2 (w.heap.size + 1) M115 395 (mcC false true qp X Y L) := by rw [← hw2]; exact (((Blk.new_at _ _ _ (by simp)).alloc _).alloc _).alloc _
  have HR : Blk w2 (w.heap.size + 1 + 1 + 1) 27 64 (ival fun _ => 0) := by rw [← hw2]; exact (Blk.new_at _ _ _ (by simp)).alloc _
  have HZ : Blk w2 (w.heap.size + 1 + 1 + 1 + 1) 27 64 (fillV 0 (ival (ipBlockF W H s PX PY DX DY d)) (ival fun _ => 0)) := by rw [← hw2]; exact Blk.new_at _ _ _ (by simp)
  have HW : Below w.heap.size w w2 := by rw [← hw2]; ((repeat (first | exact Below.refl _ _ | assumption | refine Below.setCell ?_ (by first | omega | (simp; done) | (simp; omega)) _ | refine Below.alloc ?_ (by first | omega | (simp; done) | (simp; omega)) _ | refine below_drewN ?_ _ | refine Below.drew ?_ | refine below_setRow ?_ (by first | omega | (simp; done) | (simp; omega)) _)))
  replace hP := hP.later HW
  clear hw2
  refine (hpl.out _).mono ?_
  rintro e w3 ⟨rfl, hb⟩
  replace HO := HO.later hb; replace HI := HI.later hb; replace HR := HR.later hb; replace HZ := HZ.later hb; replace hP := hP.later hb; replace HW := below_step HW hb
  clear hb
  have c0 := HI.cell (k := 0) (by omega)
  have e0 : mcC false true qp X Y L 0 = .bool false := rfl
  rw [e0] at c0
  clear e0
  go_wp2_with (refine wpList_load_blkM HI rfl M115 _ rfl rfl Try.underlying115 (by kernel_rfl) ?_)
  refine (hvc.out _).mono ?_
  rintro e w4 ⟨rfl, hb⟩
  replace HO := HO.later hb; replace HI := HI.later hb; replace HR := HR.later hb; replace HZ := HZ.later hb; replace hP := hP.later hb; replace HW := below_step HW hb
  clear hb c0
  go_wp2_with fail
  go_loopw [20] (fun t wr => ∃ i : Nat, i ≤ 64 ∧ t = .int .i64 i ∧ Ob wr w.heap.size P135 #[.int .i64 (W : Int), .int .i64 (H : Int), .slice (some ⟨b, 0, none⟩) (W * H) cc] ∧ Blk wr (w.heap.size + 1) M115 395 (mcC false true qp X Y L) ∧ Blk wr (w.heap.size + 1 + 1 + 1) 27 64 (ival fun _ => 0) ∧ Blk wr (w.heap.size + 1 + 1 + 1 + 1) 27 64 (fillV i (ival (ipBlockF W H s PX PY DX DY d)) (ival fun _ => 0)) ∧ PB wr b (W * H) s ∧ Below w.heap.size w wr) (fun t _ => 64 - (intOf t).toNat)
  case atStart => exact ⟨0, by omega, rfl, HO, HI, HR, HZ, hP, HW⟩
  case round =>
    clear HO HI HR HZ hP HW
    obtain ⟨i, hi, rfl, HO, HI, HR, HZ, hP, HW⟩ := hrel
    by_cases hi64 : i < 64
    · have hd : decide ((i : Int) < 64) = true := by simp; omega
      have i0 : (0 : Int) ≤ (i : Int) := by omega
      have i1 : (i : Int) < 64 := by omega
      have hbt : ∀ W0, PB W0 b (W * H) s → Calls Try.prog 102 #[.agg #[.int .i64 (W : Int), .int .i64 (H : Int), .slice (some ⟨b, 0, none⟩) (W * H) cc], .int .i64 (2 * (PX + (i : Int) % 8) + DX), .int .i64 (2 * (PY + (i : Int) / 8) + DY), .bool d] W0 fun e w' => e = .returned (.int .i64 (ipBlockF W H s PX PY DX DY d i)) ∧ Below W0.heap.size W0 w' := fun W0 h => by
        have h9 := between_any W H b cc s (2 * (PX + (i : Int) % 8) + DX) (2 * (PY + (i : Int) / 8) + DY) d W0 hW hH hW2 hH2 h (by omega) (by omega) (by omega) (by omega)
        unfold ipBlockF
        rw [show ((i % 8 : Nat) : Int) = (i : Int) % 8 by simp, show ((i / 8 : Nat) : Int) = (i : Int) / 8 by simp]
        exact h9
      replace hbt := Lib.hid hbt
      go_wp2_with (refine wpList_load_ob_g HO rfl P135 _ rfl rfl Try.underlying135 (by kernel_rfl) ?_)
      refine (hbt.out _ hP).mono ?_
      rintro e w5 ⟨rfl, hb⟩
      replace HO := HO.later hb; replace HI := HI.later hb; replace HR := HR.later hb; replace HZ := HZ.later hb; replace hP := hP.later hb; replace HW := below_step HW hb
      clear hb hd
      have c1 := HZ.fill_cell hi64
      have f1 := HZ.free i
      have n9 : w.heap.size + 1 + 1 + 1 + 1 ≠ b := by
        have := HZ.ne_pb hP (by decide); exact this
      go_wp2_with fail
      exact ⟨⟨i + 1, by omega, by go_num, HO.other (by omega) _ _, HI.other (by omega) _ _, HR.other (by omega) _ _, HZ.fill, hP.other n9 _ _, HW.setCell (by show w.heap.size ≤ w.heap.size + 1 + 1 + 1 + 1; omega) _⟩, by simp [intOf]; omega⟩
    · obtain rfl : i = 64 := by omega
      have hd : decide (((64 : Nat) : Int) < 64) = false := by decide
      have c0 := HI.cell (k := 1) (by omega)
      have e0 : mcC false true qp X Y L 1 = .bool true := rfl
      rw [e0] at c0
      clear e0
      go_wp2_with (first | (refine wpList_load_blk HZ.fill_all rfl _ _ rfl rfl und28 (by kernel_rfl) ?_) | (refine wpList_store_blk HR rfl _ _ _ rfl rfl rfl (by kernel_rfl) (fun j _ => rfl) ?_))
      exact bodyPost_ret (results_blk rfl _ (HR.setRow_same rfl) rfl und28 (by kernel_rfl)) rfl ⟨rfl, below_setRow HW (by omega) _⟩
end Go.Proofs.Ytbldgpemocnboaa

/- search.Busy, walked. -/
import Derived.Test.YtbldgpemocnboaaSea
namespace Go.Proofs.Ytbldgpemocnboaa
open Go.RowKit Go.Sort
attribute [local go_sem ↓] run_imax run_imin

theorem mk_mem {w w' : World} {o : Obj} {ds : Array Value} (h : (w.alloc o).setRow w.heap.size ds = w') {f : Fr} (H : f.Mem w) : f.Mem w' := by
  rw [← h]; have := H.y.lt; have := H.u.lt; have := H.v.lt; exact (H.alloc _).setRow (by omega) (by omega) (by omega) _
def midK (f : Fr) (mb k : Nat) : Int := sumTo (mbF f mb k) 64 / 64
def busT (f : Fr) (mb k i : Nat) : Int := imax (mbF f mb k i - midK f mb k) (midK f mb k - mbF f mb k i)
def busK (f : Fr) (mb k : Nat) : Int := sumTo (busT f mb k) 64
/-- How far a macroblock's light is from its own middle. -/
def busyF (f : Fr) (mb : Nat) : Int := sumTo (busK f mb) 4
theorem midK_bd {f : Fr} {w : World} (h : f.Mem w) (mb k : Nat) : 0 ≤ midK f mb k ∧ midK f mb k ≤ 255 := by
  have := sumTo_bd (g := mbF f mb k) (fun i => mbF_bd h mb k i) 64
  unfold midK; omega
theorem busT_bd {f : Fr} {w : World} (h : f.Mem w) (mb k i : Nat) : 0 ≤ busT f mb k i ∧ busT f mb k i ≤ 255 := by
  have h1 := mbF_bd h mb k i; have h2 := midK_bd h mb k
  unfold busT; rw [imax_eq]; omega
theorem busK_bd {f : Fr} {w : World} (h : f.Mem w) (mb k : Nat) : 0 ≤ busK f mb k ∧ busK f mb k ≤ 16320 := by
  have := sumTo_bd (g := busT f mb k) (fun i => busT_bd h mb k i) 64
  unfold busK; omega
set_option maxRecDepth 1000000 in
set_option maxHeartbeats 8000000 in
theorem busy_any (f : Fr) (mb : Nat) (w : World) (h1 : 0 < f.c) (hf : f.Mem w) (hm : mb ≤ 1000000) :
    Calls Try.prog 62 #[f.val, .int .i64 (mb : Int)] w fun e w' => e = .returned (.int .i64 (busyF f mb)) ∧ Below w.heap.size w w' := by
  have hc8 := hf.hc
  have bA := fun k i => mbF_bd hf mb k i
  have bM := fun k => midK_bd hf mb k
  have bT := fun k i => busT_bd hf mb k i
  have bK := fun k => busK_bd hf mb k
  replace bA := Lib.hid bA; replace bM := Lib.hid bM; replace bT := Lib.hid bT; replace bK := Lib.hid bK
  unfold busyF Fr.val
  go_enter Try.func62, Try.ntmps62
  go_upto_region 1 with fail
  generalize hw1 : w.alloc (.cells f.cells FRT) = w1
  have HF : Ob w1 w.heap.size FRT f.cells := by rw [← hw1]; exact Ob.new_at _ _ rfl
  have HW : Below w.heap.size w w1 := by rw [← hw1]; ((repeat (first | exact Below.refl _ _ | assumption | refine Below.setCell ?_ (by first | omega | (simp; done) | (simp; omega)) _ | refine Below.alloc ?_ (by first | omega | (simp; done) | (simp; omega)) _ | refine below_drewN ?_ _ | refine Below.drew ?_ | refine below_setRow ?_ (by first | omega | (simp; done) | (simp; omega)) _)))
  replace hf := hf.later HW
  clear hw1
  go_wp2_with fail
  go_loopw [5, 16] (fun t i wr => ∃ k : Nat, k ≤ 4 ∧ i = .int .i64 (k : Int) ∧ t = .int .i64 (sumTo (busK f mb) k) ∧ f.Mem wr ∧ Ob wr w.heap.size FRT f.cells ∧ Below w.heap.size w wr) (fun _ i _ => 4 - (intOf i).toNat)
  case atStart => exact ⟨0, by omega, rfl, rfl, hf, HF, HW⟩
  case round =>
    clear hf HF HW
    obtain ⟨k, hk, rfl, rfl, hf, HF, HW⟩ := hrel
    by_cases hk4 : k < 4
    · have hd : decide ((k : Int) < 4) = true := by simp; omega
      have hs := sumTo_bd bK.out k
      obtain ⟨s1, s2⟩ := hs
      have s3 : sumTo (busK f mb) k ≤ 100000 := by omega
      clear s2
      obtain ⟨k1, k2⟩ := bK.out k
      have hnx : Hid (sumTo (busK f mb) (k + 1) = sumTo (busK f mb) k + busK f mb k) := Lib.hid rfl
      have hbKe : Hid (busK f mb k = sumTo (busT f mb k) 64) := Lib.hid rfl
      have bA2 := bA.out k; have bT2 := bT.out k
      obtain ⟨m1, m2⟩ := bM.out k
      have hTe : ∀ i, busT f mb k i = imax (mbF f mb k i - midK f mb k) (midK f mb k - mbF f mb k i) := fun i => rfl
      have hMe : midK f mb k = sumTo (mbF f mb k) 64 / 64 := rfl
      have hbl : ∀ W, f.Mem W → Calls Try.prog 67 #[.agg #[.int .i64 (f.pw k : Int), .int .i64 (f.ph k : Int), .slice (some ⟨f.pb k, 0, none⟩) (f.pw k * f.ph k) (f.pc k)], .int .i64 (f.px mb k), .int .i64 (f.py mb k)] W fun e w' => e = .returned (.agg (fcells 64 (ival (mbF f mb k)))) ∧ Below W.heap.size W w' := fun W h => plBlock_any f mb k W h hm (by omega)
      obtain ⟨S, hS⟩ : ∃ S, sumTo (busK f mb) k = S := ⟨_, rfl⟩
      obtain ⟨A, hA⟩ : ∃ A, mbF f mb k = A := ⟨_, rfl⟩
      obtain ⟨T, hT⟩ : ∃ T, busT f mb k = T := ⟨_, rfl⟩
      obtain ⟨m, hm2⟩ : ∃ m, midK f mb k = m := ⟨_, rfl⟩
      rw [hS] at hnx s1 s3 ⊢
      rw [hA] at bA2 hTe hMe hbl; rw [hT] at bT2 hTe hbKe; rw [hm2] at m1 m2 hTe hMe
      replace hS := Lib.hid hS; replace hA := Lib.hid hA; replace hT := Lib.hid hT; replace hm2 := Lib.hid hm2; replace bA2 := Lib.hid bA2; replace bT2 := Lib.hid bT2; replace hTe := Lib.hid hTe; replace hMe := Lib.hid hMe; replace hbl := Lib.hid hbl
      go_wp2_with (refine wpList_load_ob_g HF rfl 43 _ rfl rfl Try.underlying43 (by kernel_rfl) ?_)
      refine (frBlock_any f mb k _ h1 hc8 hm (by omega)).mono ?_
      rintro e w3 ⟨rfl, hb⟩
      replace HF := HF.later hb; replace hf := hf.later hb; replace HW := below_step HW hb
      clear hb
      unfold Fr.blkV
      have us := HW.size
      go_upto_region 6 with fail
      have HP : Ob (w3.alloc (.cells #[.int .i64 (f.pw k : Int), .int .i64 (f.ph k : Int), .slice (some ⟨f.pb k, 0, none⟩) (f.pw k * f.ph k) (f.pc k)] PLT)) w3.heap.size PLT #[.int .i64 (f.pw k : Int), .int .i64 (f.ph k : Int), .slice (some ⟨f.pb k, 0, none⟩) (f.pw k * f.ph k) (f.pc k)] := Ob.new_at _ _ rfl
      replace HF := HF.alloc (.cells #[.int .i64 (f.pw k : Int), .int .i64 (f.ph k : Int), .slice (some ⟨f.pb k, 0, none⟩) (f.pw k * f.ph k) (f.pc k)] PLT); replace hf := hf.alloc (.cells #[.int .i64 (f.pw k : Int), .int .i64 (f.ph k : Int), .slice (some ⟨f.pb k, 0, none⟩) (f.pw k * f.ph k) (f.pc k)] PLT); replace HW := HW.alloc us (.cells #[.int .i64 (f.pw k : Int), .int .i64 (f.ph k : Int), .slice (some ⟨f.pb k, 0, none⟩) (f.pw k * f.ph k) (f.pc k)] PLT)
      generalize w3.alloc (.cells #[.int .i64 (f.pw k : Int), .int .i64 (f.ph k : Int), .slice (some ⟨f.pb k, 0, none⟩) (f.pw k * f.ph k) (f.pc k)] PLT) = w4 at *
      generalize w3.heap.size = pp at *
      go_wp2_with (refine wpList_load_ob_g HP rfl 41 _ rfl rfl Try.underlying41 (by kernel_rfl) ?_)
      refine (hbl.out _ hf).mono ?_
      rintro e w5 ⟨rfl, hb⟩
      replace HF := HF.later hb; replace hf := hf.later hb; replace HW := below_step HW hb
      clear hb
      clear HP
      have us := HW.size
      go_wp2_with (first | (refine wpList_alloc_blk rfl 27 rfl _ _ alloc28 ?_) | (refine wpList_store_blk_stop (Blk.new_at _ _ _ rfl) rfl _ _ _ rfl rfl rfl (by kernel_rfl) (fun j _ => rfl) ?_))
      intro w6 hw6
      replace hw6 := hw6.out
      have HB := mk_blk hw6
      replace HF := mk_keepO hw6 HF; replace hf := mk_mem hw6 hf; replace HW := mk_below hw6 HW us
      clear hw6
      generalize w5.heap.size = bq at *
      go_wp2_with (refine wpList_load_blk HB rfl _ _ rfl rfl und28 (by kernel_rfl) ?_)
      go_loopw [11, 32] (fun t i wr => ∃ j : Nat, j ≤ 64 ∧ i = .int .i64 (j : Int) ∧ t = .int .i64 (sumTo A j) ∧ Blk wr bq 27 64 (ival A) ∧ f.Mem wr ∧ Ob wr w.heap.size FRT f.cells ∧ Below w.heap.size w wr) (fun _ i _ => 64 - (intOf i).toNat)
      case atStart => exact ⟨0, by omega, rfl, rfl, HB, hf, HF, HW⟩
      case round =>
        clear HB hf HF HW
        obtain ⟨j, hj, rfl, rfl, HB, hf, HF, HW⟩ := hrel
        by_cases hj64 : j < 64
        · have hd : decide ((j : Int) < 64) = true := by simp; omega
          have i0 : (0 : Int) ≤ j := by omega
          have i1 : (j : Int) < 64 := by omega
          have hix : ∀ W, (Instr.index 27 (.agg (fcells 64 (ival A))) (.int .i64 (j : Int))).run Try.prog W = .ok (.int .i64 (A j)) W := fun W =>
            run_index_fcells W _ _ 64 (ival A) j und28 (by kernel_rfl) (by kernel_rfl) (by omega) (by omega)
          obtain ⟨a1, a2⟩ := bA2.out j
          have hs := sumTo_bd bA2.out j
          obtain ⟨q1, q2⟩ := hs
          have q3 : sumTo A j ≤ 16320 := by omega
          clear q2
          have hnA : Hid (sumTo A (j + 1) = sumTo A j + A j) := Lib.hid rfl
          generalize sumTo A j = Z at *
          go_wp2_with fail
          exact ⟨⟨j + 1, by omega, by go_num, by rw [hnA.out], HB, hf, HF, HW⟩, by simp [intOf]; omega⟩
        · obtain rfl : j = 64 := by omega
          have hd : decide (((64 : Nat) : Int) < 64) = false := by simp
          have hs := sumTo_bd bA2.out 64
          obtain ⟨q1, q2⟩ := hs
          have q3 : sumTo A 64 ≤ 16320 := by omega
          clear q2
          have hMe2 := hMe.out
          replace hMe2 := Lib.hid hMe2
          generalize sumTo A 64 = Z at *
          go_upto_region 14 with fail
          rw [← hMe2.out]
          clear hd
          go_wp2_with (refine wpList_load_blk HB rfl _ _ rfl rfl und28 (by kernel_rfl) ?_)
          go_loopw [5, 42] (fun t i wx => ∃ j : Nat, j ≤ 64 ∧ i = .int .i64 (j : Int) ∧ t = .int .i64 (S + sumTo T j) ∧ Blk wx bq 27 64 (ival A) ∧ f.Mem wx ∧ Ob wx w.heap.size FRT f.cells ∧ Below w.heap.size w wx) (fun _ i _ => 64 - (intOf i).toNat)
          case atStart => exact ⟨0, by omega, rfl, by rw [show sumTo T 0 = 0 from rfl, Int.add_zero], HB, hf, HF, HW⟩
          case round =>
            clear HB hf HF HW
            obtain ⟨j, hj, rfl, rfl, HB, hf, HF, HW⟩ := hrel
            by_cases hj64 : j < 64
            · have hd : decide ((j : Int) < 64) = true := by simp; omega
              have i0 : (0 : Int) ≤ j := by omega
              have i1 : (j : Int) < 64 := by omega
              have hix : ∀ W, (Instr.index 27 (.agg (fcells 64 (ival A))) (.int .i64 (j : Int))).run Try.prog W = .ok (.int .i64 (A j)) W := fun W =>
                run_index_fcells W _ _ 64 (ival A) j und28 (by kernel_rfl) (by kernel_rfl) (by omega) (by omega)
              obtain ⟨a1, a2⟩ := bA2.out j
              have hs := sumTo_bd bT2.out j
              obtain ⟨z1, z2⟩ := hs
              have z3 : sumTo T j ≤ 16320 := by omega
              clear z2
              obtain ⟨t1, t2⟩ := bT2.out j
              have hTj := hTe.out j
              rw [hTj] at t1 t2
              have hnT : Hid (S + sumTo T (j + 1) = S + sumTo T j + imax (A j - m) (m - A j)) := Lib.hid (by rw [← hTj, show sumTo T (j + 1) = sumTo T j + T j from rfl]; omega)
              clear hTj
              generalize sumTo T j = U at *
              go_wp2_with fail
              exact ⟨⟨j + 1, by omega, by go_num, by rw [hnT.out], HB, hf, HF, HW⟩, by simp [intOf]; omega⟩
            · obtain rfl : j = 64 := by omega
              have hd : decide (((64 : Nat) : Int) < 64) = false := by simp
              have hnx2 := hnx.out
              rw [hbKe.out] at hnx2
              replace hnx2 := Lib.hid hnx2
              go_wp2_with fail
              exact ⟨⟨k + 1, by omega, by go_num, by rw [hnx2.out], hf, HF, HW⟩, by simp [intOf]; omega⟩
    · obtain rfl : k = 4 := by omega
      have hd : decide (((4 : Nat) : Int) < 4) = false := by simp
      go_wp2_with fail
      go_ret
      exact ⟨rfl, HW⟩
end Go.Proofs.Ytbldgpemocnboaa

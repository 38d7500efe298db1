/- conceal.Copy, walked. -/
import Derived.Test.YtbldgpemocnboaaPred
import Derived.Test.YtbldgpemocnboaaPutR
import Derived.Test.YtbldgpemocnboaaConM
import Derived.Test.YtbldgpemocnboaaVec
namespace Go.Proofs.Ytbldgpemocnboaa
open Go.RowKit Go.Sort
attribute [local go_sem ↓] run_imax run_imin

def CopyP (f g : Fr) (mb : Nat) (x y : Int) (w : World) (e : Ending) (w' : World) : Prop :=
  e = .returned (.tuple #[]) ∧ ∃ h : Fr, PutR g mb (fun k => predB f mb (fun _ => x) (fun _ => y) false k) 6 h ∧ h.Mem w' ∧ WrF g.bY g.bU g.bV w w'
theorem WrF.setRowNew {a b c z : Nat} {w w1 : World} (h : WrF a b c w w1) (hz : w.heap.size ≤ z) (cs : Array Value) : WrF a b c w (w1.setRow z cs) :=
  ⟨h.os, h.tape, h.output, by simp; exact h.size, fun j hj e1 e2 e3 => by rw [setRow_other w1 z j cs (by omega)]; exact h.block j hj e1 e2 e3⟩
theorem v4_all {x y : Int} (hx : -31 ≤ x ∧ x ≤ 31) (hy : -31 ≤ y ∧ y ≤ 31) : V4b (fun _ => x) (fun _ => y) := fun k _ => ⟨⟨by show -32 ≤ x; omega, by show x ≤ 32; omega⟩, by show -32 ≤ y; omega, by show y ≤ 32; omega⟩

set_option maxRecDepth 1000000 in
set_option maxHeartbeats 8000000 in
theorem copy_of (f g : Fr) (mb : Nat) (re im : Nat) (r : Bool) (x y : Int) (w : World) (e1 : f.c = g.c) (e2 : f.r = g.r) (h1 : 0 < g.c) (h2 : 0 < g.r) (hm : mb < g.c * g.r) (hM : f.Mem w) (hG : g.Mem w)
    (hr : ∀ W, Calls Try.prog 64 #[.complex .f64 re im] W fun e w' => e = .returned (.bool r) ∧ w' = W)
    (hx : -31 ≤ x ∧ x ≤ 31) (hy : -31 ≤ y ∧ y ≤ 31) (hv : r = true → Value.complex .f64 re im = vcV x y) (hv0 : r = false → x = 0 ∧ y = 0) :
    Calls Try.prog 65 #[f.val, g.val, .int .i64 (mb : Int), .complex .f64 re im] w (CopyP f g mb x y w) := by
  have hc8 := hG.hc; have hr8 := hG.hr
  have hf1 : 0 < f.c := by omega
  have hn64 : g.c * g.r ≤ 64 := Nat.mul_le_mul hc8 hr8
  have u1 := hG.y.lt; have u2 := hG.u.lt; have u3 := hG.v.lt
  replace hr := Lib.hid hr; replace hv := Lib.hid hv; replace hv0 := Lib.hid hv0
  unfold Fr.val
  go_enter Try.func65, Try.ntmps65
  have HF : Ob ((w.alloc (.cells f.cells FRT)).alloc (.cells g.cells FRT)) w.heap.size FRT f.cells := (Ob.new_at _ _ rfl).alloc _
  have HG : Ob ((w.alloc (.cells f.cells FRT)).alloc (.cells g.cells FRT)) (w.heap.size + 1) FRT g.cells := Ob.new_at _ _ (by simp)
  have HW : Below w.heap.size w ((w.alloc (.cells f.cells FRT)).alloc (.cells g.cells FRT)) := by ((repeat (first | exact Below.refl _ _ | assumption | refine Below.setCell ?_ (by first | omega | (simp; done) | (simp; omega)) _ | refine Below.alloc ?_ (by first | omega | (simp; done) | (simp; omega)) _ | refine below_drewN ?_ _ | refine Below.drew ?_ | refine below_setRow ?_ (by first | omega | (simp; done) | (simp; omega)) _)))
  replace hM := (hM.alloc (.cells f.cells FRT)).alloc (.cells g.cells FRT)
  replace hG := (hG.alloc (.cells f.cells FRT)).alloc (.cells g.cells FRT)
  go_wp2_with (refine wpList_load_ob_g HF rfl _ _ rfl rfl Try.underlying43 (by kernel_rfl) ?_)
  generalize (w.alloc (.cells f.cells FRT)).alloc (.cells g.cells FRT) = w2 at *
  refine (check_ok f w2 hf1 (by omega) (by omega) (by omega)).mono ?_
  rintro e w3 ⟨rfl, hb⟩
  replace HF := HF.later hb; replace HG := HG.later hb; replace hM := hM.later hb; replace hG := hG.later hb; replace HW := below_step HW hb
  clear hb
  go_wp2_with (refine wpList_load_ob_g HG rfl _ _ rfl rfl Try.underlying43 (by kernel_rfl) ?_)
  refine (check_ok g _ h1 hc8 h2 hr8).mono ?_
  rintro e w4 ⟨rfl, hb⟩
  replace HF := HF.later hb; replace HG := HG.later hb; replace hM := hM.later hb; replace hG := hG.later hb; replace HW := below_step HW hb
  clear hb
  have g0 := HF.sC; have g1 := HF.sR; have g2 := HG.sC; have g3 := HG.sR
  rw [e1] at g0; rw [e2] at g1
  replace e1 := Lib.hid e1; replace e2 := Lib.hid e2
  have d0 : decide (g.c * g.r ≤ mb) = false := by simpa using hm
  have d1 : decide ((g.c : Int) * (g.r : Int) ≤ (mb : Int)) = false := by rw [← Int.natCast_mul]; simp; omega
  have d2 : decide ((mb : Int) < 0) = false := by simp
  have p0 : (0 : Int) ≤ (g.c : Int) * (g.r : Int) := by rw [← Int.natCast_mul]; omega
  have p1 : (g.c : Int) * (g.r : Int) ≤ 64 := by rw [← Int.natCast_mul]; omega
  go_wp2_with fail
  clear d0 d1 d2 p0 p1 g0 g1 g2 g3
  refine (hr.out _).mono ?_
  rintro e w5 ⟨rfl, rfl⟩
  go_upto_if 50 with fail
  go_cut [3] (fun t wx => t = vcV x y ∧ wx = w5)
  case first =>
    cases r
    · obtain ⟨rfl, rfl⟩ := hv0.out rfl
      go_wp2_with fail
      go_meet
      exact ⟨rfl, rfl⟩
    · have hve := hv.out rfl
      go_wp2_with fail
      go_meet
      exact ⟨by first | rfl | exact hve, rfl⟩
  case rest =>
    obtain ⟨rfl, rfl⟩ := hcut
    unfold vcV
    have hV := v4_all hx hy
    obtain ⟨V, hVe⟩ : ∃ V, predF f mb (fun _ => x) (fun _ => y) false = V := ⟨_, rfl⟩
    have hpr : ∀ W, f.Mem W → Calls Try.prog 82 #[.agg f.cells, .int .i64 (mb : Int), .agg (fcells 4 (vc4 (fun _ => x) (fun _ => y))), .bool false] W fun e w' => e = .returned (.agg (fcells 384 (ival V))) ∧ Below W.heap.size W w' := fun W hW => by
      rw [← hVe]; exact predict_any f mb (fun _ => x) (fun _ => y) false W hf1 hW (by omega) hV
    have hal : ∀ W, Calls Try.prog 45 #[.complex .f64 (fbits x) (fbits y)] W fun e w' => e = .returned (.agg (fcells 4 (vc4 (fun _ => x) (fun _ => y)))) ∧ Below W.heap.size W w' := fun W => all_any x y W
    unfold Fr.cells at hpr
    replace hpr := Lib.hid hpr; replace hal := Lib.hid hal; replace hV := Lib.hid hV; replace hVe := Lib.hid hVe
    go_wp2_with fail
    have c0 := fun p => (HF.re p).fC
    have c1 := fun p => (HF.re p).fR
    have c2 := fun p => (HF.re p).fYW
    have c3 := fun p => (HF.re p).fYH
    have c4 := fun p => (HF.re p).fYS
    have c5 := fun p => (HF.re p).fUW
    have c6 := fun p => (HF.re p).fUH
    have c7 := fun p => (HF.re p).fUS
    have c8 := fun p => (HF.re p).fVW
    have c9 := fun p => (HF.re p).fVH
    have c10 := fun p => (HF.re p).fVS
    refine wp_region_quiet_below (by kernel_rfl) (by kernel_rfl) ?_
    repeat (go_big_quiet_step (first | (go_at_call 45; with_reducible exact Calls.regrown_of (hal.out _)) | (go_at_call 82; with_reducible exact Calls.regrown_of (hpr.out _ (hM.later (below_regrown _ _ _))))))
    refine wpQuiet_nil ?_
    intro wq hwq
    replace hwq := Cls.below hwq
    clear c0 c1 c2 c3 c4 c5 c6 c7 c8 c9 c10
    replace HF := HF.later hwq; replace HG := HG.later hwq; replace hM := hM.later hwq; replace hG := hG.later hwq; replace HW := below_step HW hwq
    clear hwq
    have HWF : WrF g.bY g.bU g.bV w wq := WrF.of_below HW
    go_wp2_with fail
    go_loopw [56] (fun t wr => ∃ (k : Nat), k ≤ 6 ∧ t = .int .i64 (k : Int) ∧ ∃ h : Fr, PutR g mb (fun k => predB f mb (fun _ => x) (fun _ => y) false k) k h ∧ Ob wr (w.heap.size + 1) FRT g.cells ∧ h.Mem wr ∧ WrF g.bY g.bU g.bV w wr) (fun t _ => 6 - (intOf t).toNat)
    case atStart => exact ⟨0, by omega, rfl, g, PutR.refl _ _ _, HG, hG, HWF⟩
    case round =>
      clear HF HG hM hG HW HWF
      obtain ⟨k, hk, rfl, h, hh, HG, hH, HW⟩ := hrel
      by_cases hk6 : k < 6
      · have hd : decide ((k : Int) < 6) = true := by simp; omega
        have k0 : (0 : Int) ≤ k := by omega
        have k1 : (k : Int) < 6 := by omega
        have hix : ∀ W, (Instr.index 102 (.agg (fcells 384 (ival V))) (.int .i64 (k : Int))).run Try.prog W = .ok (.agg (fcells 64 (ival (predB f mb (fun _ => x) (fun _ => y) false k)))) W := fun W => by
          have h8 := run_index_part (P := Try.prog) W 102 27 6 64 (ival V) k und102 (by kernel_rfl) (by kernel_rfl) hk6
          rw [← hVe.out, pred_at] at h8
          rw [← hVe.out]
          exact h8
        have HZ : Blk (wr.alloc (.cells (fcells 64 (ival fun _ => 0)) 27)) wr.heap.size 27 64 (ival fun _ => 0) := Blk.new_at _ _ _ rfl
        go_upto_region 7 with (first | (refine wpList_alloc_blk rfl 27 rfl _ _ alloc28 ?_) | (refine wpList_store_blk HZ rfl _ _ _ rfl rfl rfl (by kernel_rfl) (fun j _ => rfl) ?_))
        have s1 : g.bY ≠ wr.heap.size ∧ g.bU ≠ wr.heap.size ∧ g.bV ≠ wr.heap.size := by have := HW.size; omega
        obtain ⟨s2, s3, s4⟩ := s1
        obtain ⟨n1, n2, n3⟩ := hh.nb
        generalize hw2 : (wr.alloc (.cells (fcells 64 (ival fun _ => 0)) 27)).setRow wr.heap.size (fcells 64 (ival (predB f mb (fun _ => x) (fun _ => y) false k))) = w6
        have HB : Blk w6 wr.heap.size 27 64 (ival (predB f mb (fun _ => x) (fun _ => y) false k)) := by rw [← hw2]; exact HZ.setRow_same rfl
        replace HG : Ob w6 (w.heap.size + 1) FRT g.cells := by rw [← hw2]; have := HG.lt; exact (HG.alloc _).setRow (by omega) _
        replace hH : h.Mem w6 := by rw [← hw2]; exact (hH.alloc _).setRow (by rw [← n1]; exact Ne.symm s2) (by rw [← n2]; exact Ne.symm s3) (by rw [← n3]; exact Ne.symm s4) _
        replace HW : WrF g.bY g.bU g.bV w w6 := by rw [← hw2]; have := HW.size; exact (HW.alloc _).setRowNew (by omega) _
        clear hw2 HZ hix hd
        generalize wr.heap.size = bb at *
        go_wp2_with (refine wpList_load_ob_g HG rfl 43 _ rfl rfl Try.underlying43 (by kernel_rfl) ?_)
        refine (frBlock_any g mb k _ h1 hc8 (by omega) hk6).mono ?_
        rintro e w7 ⟨rfl, hb⟩
        replace HG := HG.later hb; replace HB := HB.later hb; replace hH := hH.later hb; replace HW := HW.step hb
        clear hb
        unfold Fr.blkV
        go_upto_region 8 with fail
        have HP : Ob (w7.alloc (.cells #[.int .i64 (g.pw k : Int), .int .i64 (g.ph k : Int), .slice (some ⟨g.pb k, 0, none⟩) (g.pw k * g.ph k) (g.pc k)] PLT)) w7.heap.size PLT #[.int .i64 (g.pw k : Int), .int .i64 (g.ph k : Int), .slice (some ⟨g.pb k, 0, none⟩) (g.pw k * g.ph k) (g.pc k)] := Ob.new_at _ _ rfl
        replace HG := HG.alloc (.cells #[.int .i64 (g.pw k : Int), .int .i64 (g.ph k : Int), .slice (some ⟨g.pb k, 0, none⟩) (g.pw k * g.ph k) (g.pc k)] PLT); replace HB := HB.alloc (.cells #[.int .i64 (g.pw k : Int), .int .i64 (g.ph k : Int), .slice (some ⟨g.pb k, 0, none⟩) (g.pw k * g.ph k) (g.pc k)] PLT); replace hH := hH.alloc (.cells #[.int .i64 (g.pw k : Int), .int .i64 (g.ph k : Int), .slice (some ⟨g.pb k, 0, none⟩) (g.pw k * g.ph k) (g.pc k)] PLT); replace HW := HW.alloc (.cells #[.int .i64 (g.pw k : Int), .int .i64 (g.ph k : Int), .slice (some ⟨g.pb k, 0, none⟩) (g.pw k * g.ph k) (g.pc k)] PLT)
        generalize w7.alloc (.cells #[.int .i64 (g.pw k : Int), .int .i64 (g.ph k : Int), .slice (some ⟨g.pb k, 0, none⟩) (g.pw k * g.ph k) (g.pc k)] PLT) = w8 at *
        generalize w7.heap.size = pp at *
        have hpl := hH.plb k
        have hPx := hH.pl k
        have hxp := hh.pw k
        obtain ⟨y1, y2, y3, y4⟩ := g.pxy_bd (show mb ≤ 1000000 by omega) hk6
        rw [hxp.1, hxp.2.1] at hpl
        rw [hxp.2.2.1, hxp.1, hxp.2.1] at hPx
        replace hxp := Lib.hid hxp
        go_wp2_with (first | (refine wpList_load_ob_g HP rfl 41 _ rfl rfl Try.underlying41 (by kernel_rfl) ?_) | (refine wpList_load_blk HB rfl 27 _ rfl rfl und28 (by kernel_rfl) ?_))
        refine (put_any (g.pw k) (g.ph k) (g.pb k) (g.pc k) (h.ps k) (predB f mb (fun _ => x) (fun _ => y) false k) (g.px mb k) (g.py mb k) _ (by omega) (by omega) hPx (by omega) (by omega) (by omega) (by omega)).mono ?_
        rintro e w9 ⟨rfl, hP8, hWr⟩
        have hpbc : g.pb k = g.bY ∨ g.pb k = g.bU ∨ g.pb k = g.bV := by unfold Fr.pb; split <;> (try split) <;> simp
        have hst := hh.step h1 hm hk6 (predB f mb (fun _ => x) (fun _ => y) false k) (fun _ _ => rfl)
        replace HG := HG.wr hWr (by rcases hpbc with h | h | h <;> omega); replace HW := HW.wr hWr hpbc
        have hX := hH.putk hk6 (s := putF (g.pw k) (g.ph k) (h.ps k) (g.px mb k) (g.py mb k) (predB f mb (fun _ => x) (fun _ => y) false k) 64) (by rw [hxp.out.2.2.1]; exact hWr) (by rw [hxp.out.2.2.1, hxp.out.1, hxp.out.2.1]; exact hP8)
        clear hWr hP8 hPx hH
        go_wp2_with fail
        exact ⟨⟨k + 1, by omega, by go_num, _, hst, HG, hX, HW⟩, by simp [intOf]; omega⟩
      · have hd : decide ((k : Int) < 6) = false := by simp; omega
        obtain rfl : k = 6 := by omega
        go_wp2_with fail
        go_end0
        exact ⟨rfl, h, hh, hH, HW⟩
end Go.Proofs.Ytbldgpemocnboaa

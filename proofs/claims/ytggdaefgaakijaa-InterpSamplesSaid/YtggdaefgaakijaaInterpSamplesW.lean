/- The walk of the law InterpSamples: true at every input. -/
import Derived.Test.YtggdaefgaakijaaIv5
import Derived.Test.YtggdaefgaakijaaSm3
namespace Go.Proofs.Ytggdaefgaakijaa
open Go.RowKit Go.Sort
attribute [local go_sem ↓] run_imax run_imin

theorem idx_plu0 (w : World) (a b c d e f g h i : Value) : (Instr.index PL3 (.agg #[a, b, c, d, e, f, g, h, i]) (.int .u8 0)).run Try.prog w = .ok (.agg #[a, b, c]) w := by kernel_rfl
theorem idx_plu1 (w : World) (a b c d e f g h i : Value) : (Instr.index PL3 (.agg #[a, b, c, d, e, f, g, h, i]) (.int .u8 1)).run Try.prog w = .ok (.agg #[d, e, f]) w := by kernel_rfl
theorem idx_plu2 (w : World) (a b c d e f g h i : Value) : (Instr.index PL3 (.agg #[a, b, c, d, e, f, g, h, i]) (.int .u8 2)).run Try.prog w = .ok (.agg #[g, h, i]) w := by kernel_rfl
/-- One plane of a frame, by its number. -/
theorem planes_idx {f : Fr} {w : World} (hM : f.Mem w) (hc : 1 ≤ f.c) (hr : 1 ≤ f.r) (k : Int) : ∃ (W H b c : Nat) (s : Nat → Int), (0 < W ∧ W ≤ 128 ∧ 0 < H ∧ H ≤ 128) ∧ PB w b (W * H) s ∧
    ∀ w, (Instr.index PL3 (.agg f.planes) (.int .u8 (k % 3))).run Try.prog w = .ok (.agg #[.int .i64 (W : Int), .int .i64 (H : Int), .slice (some ⟨b, 0, none⟩) (W * H) c]) w := by
  have h1 := hM.hc; have h2 := hM.hr
  obtain h | h | h : k % 3 = 0 ∨ k % 3 = 1 ∨ k % 3 = 2 := by omega
  · refine ⟨16 * f.c, 16 * f.r, f.bY, f.cY, f.sY, by omega, hM.y, fun w => ?_⟩
    rw [h]; exact (idx_plu0 _ _ _ _ _ _ _ _ _ _).trans (by simp)
  · refine ⟨8 * f.c, 8 * f.r, f.bU, f.cU, f.sU, by omega, hM.u, fun w => ?_⟩
    rw [h]; exact (idx_plu1 _ _ _ _ _ _ _ _ _ _).trans (by simp)
  · refine ⟨8 * f.c, 8 * f.r, f.bV, f.cV, f.sV, by omega, hM.v, fun w => ?_⟩
    rw [h]; exact (idx_plu2 _ _ _ _ _ _ _ _ _ _).trans (by simp)

abbrev RPT : TypeId := 65
set_option maxRecDepth 100000 in
set_option maxHeartbeats 4000000 in
theorem interpSamples_walk (co ro ki a b c sd : Int) (p : Option Addr) (n m : Nat) (sl : Nat → Int) (k x y dx dy : Int) (dn : Bool) (w : World) (hw : SmallW co ro ki a b c sd n sl) (hn : n ≤ maxLen) (hS : SL w p n (u8v sl))
    (hk : 0 ≤ k ∧ k ≤ 255) (hx : -9223372036854775808 ≤ x ∧ x ≤ 9223372036854775807) (hy : -9223372036854775808 ≤ y ∧ y ≤ 9223372036854775807) (hdx : -32768 ≤ dx ∧ dx ≤ 32767) (hdy : -32768 ≤ dy ∧ dy ≤ 32767) :
    Calls Try.prog 8 #[smV co ro ki a b c sd p n m, .int .u8 k, .int .i64 x, .int .i64 y, .int .i16 dx, .int .i16 dy, .bool dn] w fun e w' => e = .returned (.bool true) ∧ Below w.heap.size w w' := by
  have k1 := tmodB x 60 (by omega)
  have k2 := tmodB y 60 (by omega)
  have k3 : -549755813888 ≤ imin (imax x (-549755813888)) 549755813888 ∧ imin (imax x (-549755813888)) 549755813888 ≤ 549755813888 := by rw [imin_eq, imax_eq]; omega
  have k4 : -549755813888 ≤ imin (imax y (-549755813888)) 549755813888 ∧ imin (imax y (-549755813888)) 549755813888 ≤ 549755813888 := by rw [imin_eq, imax_eq]; omega
  replace hw := Lib.hid hw; replace hS := Lib.hid hS
  have HB0 : Ob (w.alloc (.cells (smC co ro ki a b c sd p n m) SMT)) w.heap.size SMT (smC co ro ki a b c sd p n m) := Ob.new_at _ _ rfl
  unfold smV
  unfold smC at *
  go_enter Try.func8, Try.ntmps8
  go_wp2_with fail
  have HW0 : Below w.heap.size w (w.alloc (.cells (smC co ro ki a b c sd p n m) SMT)) := by ((repeat (first | exact Below.refl _ _ | assumption | refine Below.setCell ?_ (by first | omega | (simp; done) | (simp; omega)) _ | refine Below.alloc ?_ (by first | omega | (simp; done) | (simp; omega)) _ | refine below_drewN ?_ _ | refine Below.drew ?_ | refine below_setRow ?_ (by first | omega | (simp; done) | (simp; omega)) _)))
  unfold smC at HW0
  refine (awake13 _).mono ?_
  rintro e w1 ⟨rfl, hb⟩
  have HB := HB0.later hb; have HW := below_step HW0 hb
  clear hb HB0 HW0
  go_wp2_with (refine wpList_load_ob_g HB rfl _ _ rfl rfl Try.underlying54 (by kernel_rfl) ?_)
  refine (light_any co ro ki a b c sd p n m _ hn).mono ?_
  rintro e w2 ⟨rfl, hb⟩
  replace HB := HB.later hb; replace HW := below_step HW hb
  clear hb
  by_cases hn2 : n ≤ 2000
  · have hd : decide (n ≤ 2000) = true := by simpa using hn2
    go_wp2_with (refine wpList_load_ob_g HB rfl _ _ rfl rfl Try.underlying54 (by kernel_rfl) ?_)
    refine (smallW_any hw.out hn2 (sl_later hS.out HW)).mono ?_
    rintro e w3 ⟨f, rfl, f1, f2, f3, f4, hM, -, hb⟩
    replace HW := below_step HW hb
    clear hb HB
    go_wp2_with fail
    refine (planes_any f _).mono ?_
    rintro e w4 ⟨rfl, hb⟩
    replace HW := below_step HW hb; replace hM := hM.later hb
    clear hb
    obtain ⟨W, H, bp, cp, s, ⟨hW1, hW2, hH1, hH2⟩, HP, hidx⟩ := planes_idx hM f1 f3 k
    clear hM
    go_wp2_with fail
    clear hidx
    have HQ : Ob (w4.alloc (.cells #[.int .i64 (W : Int), .int .i64 (H : Int), .slice (some ⟨bp, 0, none⟩) (W * H) cp] PLT)) w4.heap.size PLT (plC W H bp (W * H) cp) := Ob.new_at _ _ rfl
    replace HP := HP.alloc (.cells #[.int .i64 (W : Int), .int .i64 (H : Int), .slice (some ⟨bp, 0, none⟩) (W * H) cp] PLT); replace HW := HW.alloc HW.size (.cells #[.int .i64 (W : Int), .int .i64 (H : Int), .slice (some ⟨bp, 0, none⟩) (W * H) cp] PLT)
    generalize w4.alloc (.cells #[.int .i64 (W : Int), .int .i64 (H : Int), .slice (some ⟨bp, 0, none⟩) (W * H) cp] PLT) = w5 at *
    generalize w4.heap.size = q at *
    refine (ref_any W H bp (W * H) cp _).mono ?_
    rintro e w6 ⟨rfl, hb⟩
    replace HQ := HQ.later hb; replace HW := below_step HW hb; replace HP := HP.later hb
    clear hb
    unfold plV
    go_wp2_with fail
    have HR : Ob (w6.alloc (.cells #[.int .i64 (W : Int), .int .i64 (H : Int), .slice (some ⟨bp, 0, none⟩) (W * H) cp] RPT)) w6.heap.size RPT (plC W H bp (W * H) cp) := Ob.new_at _ _ rfl
    replace HQ := HQ.alloc (.cells #[.int .i64 (W : Int), .int .i64 (H : Int), .slice (some ⟨bp, 0, none⟩) (W * H) cp] RPT); replace HP := HP.alloc (.cells #[.int .i64 (W : Int), .int .i64 (H : Int), .slice (some ⟨bp, 0, none⟩) (W * H) cp] RPT); replace HW := HW.alloc HW.size (.cells #[.int .i64 (W : Int), .int .i64 (H : Int), .slice (some ⟨bp, 0, none⟩) (W * H) cp] RPT)
    generalize w6.alloc (.cells #[.int .i64 (W : Int), .int .i64 (H : Int), .slice (some ⟨bp, 0, none⟩) (W * H) cp] RPT) = w7 at *
    generalize w6.heap.size = z at *
    have c0 := fun p => (HQ.re p).plW
    have c1 := fun p => (HQ.re p).plH
    have c2 := fun p => (HQ.re p).plS
    have c3 : ∀ p : Regrown, (Sort.grow (redrawn w7 p.d) p.os).cell? ⟨z, 0, none⟩ = some (.int .i64 (W : Int)) := fun p => (HR.re p).cell 0 rfl
    have c4 : ∀ p : Regrown, (Sort.grow (redrawn w7 p.d) p.os).cell? ⟨z, 1, none⟩ = some (.int .i64 (H : Int)) := fun p => (HR.re p).cell 1 rfl
    have c5 : ∀ p : Regrown, (Sort.grow (redrawn w7 p.d) p.os).cell? ⟨z, 2, none⟩ = some (.slice (some ⟨bp, 0, none⟩) (W * H) cp) := fun p => (HR.re p).cell 2 rfl
    refine wp_region_quiet_below (by kernel_rfl) (by kernel_rfl) ?_
    repeat (go_big_quiet_step (first | (go_at_call 37; exact Calls.regrown_of ((far_any _ _).mono fun _ _ h => ⟨h.1, h.2 ▸ Below.refl _ _⟩)) | (go_at_call 34; exact Calls.regrown_of (ipAt_any W H bp cp s _ _ dn _ (by omega) (by omega) (HP.later (below_regrown _ _ _)) (by omega) (by omega) (by omega) (by omega))) | (go_at_call 39; exact Calls.regrown_of (between_any W H bp cp s _ _ dn _ (by omega) (by omega) (by omega) (by omega) (HP.later (below_regrown _ _ _)) (by omega) (by omega) (by omega) (by omega)))))
    refine wpQuiet_nil ?_
    intro wq hwq
    replace hwq := Cls.below hwq
    replace HQ := HQ.later hwq; replace HR := HR.later hwq; replace HP := HP.later hwq; replace HW := below_step HW hwq
    clear hwq c0 c1 c2 c3 c4 c5
    go_wp2_with (refine wpList_load_ob_g HQ rfl _ _ rfl rfl Try.underlying46 (by kernel_rfl) ?_)
    generalize x.tmod 60 = X at *
    generalize y.tmod 60 = Y at *
    obtain ⟨x1, x2⟩ := k1
    obtain ⟨y1, y2⟩ := k2
    clear k3 k4
    refine (ipBlock_any W H bp cp s X Y dx dy dn _ (by omega) (by omega) HP (by omega) (by omega) (by omega) (by omega) (by omega) (by omega) (by omega) (by omega)).mono ?_
    rintro e w8 ⟨rfl, hb⟩
    replace HR := HR.later hb; replace HW := below_step HW hb; replace HP := HP.later hb
    clear hb HQ
    generalize hg : ipBlockF W H s X Y dx dy dn = g at *
    replace hg := Lib.hid hg
    go_wp2_with (first | (refine wpList_alloc_blk rfl 44 rfl _ _ alloc28 ?_) | (refine wpList_store_blk (Blk.new_at _ _ _ rfl) rfl _ _ _ rfl rfl rfl (by kernel_rfl) (fun j _ => rfl) ?_) | (refine wpList_load_blk ((Blk.new_at _ _ _ rfl).setRow_same rfl) rfl _ _ rfl rfl und28 (by kernel_rfl) ?_))
    have HX : Blk (w8.alloc (.cells (fcells 64 (ival fun _ => 0)) 44)) w8.heap.size 44 64 (ival fun _ => 0) := Blk.new_at _ _ _ rfl
    have hz := HR.lt; have hbp := HP.lt
    replace HR : Ob ((w8.alloc (.cells (fcells 64 (ival fun _ => 0)) 44)).setRow w8.heap.size (fcells 64 (ival g))) z RPT (plC W H bp (W * H) cp) := (HR.alloc _).setRow (by omega) _
    replace HP : PB ((w8.alloc (.cells (fcells 64 (ival fun _ => 0)) 44)).setRow w8.heap.size (fcells 64 (ival g))) bp (W * H) s := (HP.alloc _).setRow (by omega) _
    replace HW : Below w.heap.size w ((w8.alloc (.cells (fcells 64 (ival fun _ => 0)) 44)).setRow w8.heap.size (fcells 64 (ival g))) := below_setRow (HW.alloc HW.size _) HW.size _
    clear HX hz hbp
    generalize (w8.alloc (.cells (fcells 64 (ival fun _ => 0)) 44)).setRow w8.heap.size (fcells 64 (ival g)) = w9 at *
    go_loopw [69] (fun v wr => ∃ j : Nat, j ≤ 64 ∧ v = .int .i64 (j : Int) ∧ Ob wr z RPT (plC W H bp (W * H) cp) ∧ PB wr bp (W * H) s ∧ Below w.heap.size w wr) (fun v _ => 64 - (intOf v).toNat)
    case atStart => exact ⟨0, by omega, rfl, HR, HP, HW⟩
    case round =>
      clear HR HP HW
      obtain ⟨j, hj, rfl, HR, HP, HW⟩ := hrel
      by_cases hlt : j < 64
      · have hd : decide ((j : Int) < 64) = true := by simp; omega
        have i1 : (0 : Int) ≤ j := by omega
        have i2 : (j : Int) < 64 := by omega
        have hix : ∀ W, (Instr.index 44 (.agg (fcells 64 (ival g))) (.int .i64 (j : Int))).run Try.prog W = .ok (.int .i64 (g j)) W := fun W =>
          run_index_fcells W _ _ 64 (ival g) j und28 (by kernel_rfl) (by kernel_rfl) (by omega) (by omega)
        go_wp2_with (refine wpList_load_ob HR rfl _ _ rfl rfl Try.underlying65 (by kernel_rfl) ?_)
        refine (between_any W H bp cp s _ _ dn _ (by omega) (by omega) (by omega) (by omega) HP (by omega) (by omega) (by omega) (by omega)).mono ?_
        rintro e w10 ⟨rfl, hb⟩
        replace HR := HR.later hb; replace HP := HP.later hb; replace HW := below_step HW hb
        clear hb hix
        have hgj : g j = ipAt W H s (2 * (X + (j : Int) % 8) + dx) (2 * (Y + (j : Int) / 8) + dy) dn := by rw [← hg.out]; rfl
        rw [← hgj]
        clear hgj
        go_wp2_with fail
        exact ⟨⟨j + 1, by omega, by go_num, HR, HP, HW⟩, by simp [intOf]; omega⟩
      · obtain rfl : j = 64 := by omega
        go_wp2_with fail
        go_ret
        exact ⟨rfl, HW⟩
  · have hd : decide (n ≤ 2000) = false := by simpa using hn2
    go_wp2_with fail
    go_ret
    exact ⟨rfl, HW⟩
end Go.Proofs.Ytggdaefgaakijaa

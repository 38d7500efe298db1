/- plane.Frame's Noise, walked. -/
import Derived.Test.YtbldgpemocnboaaFrW
import Derived.Test.YtbldgpemocnboaaRel
import Derived.StillTailTactics
namespace Go.Proofs.Ytbldgpemocnboaa
open Go.RowKit Go.Sort
attribute [local go_sem ↓] run_imax run_imin

theorem idx_pl0 (w : World) (a b c d e f g h i : Value) : (Instr.index PL3 (.agg #[a, b, c, d, e, f, g, h, i]) (.int .i64 0)).run Try.prog w = .ok (.agg #[a, b, c]) w := by kernel_rfl
theorem idx_pl1 (w : World) (a b c d e f g h i : Value) : (Instr.index PL3 (.agg #[a, b, c, d, e, f, g, h, i]) (.int .i64 1)).run Try.prog w = .ok (.agg #[d, e, f]) w := by kernel_rfl
theorem idx_pl2 (w : World) (a b c d e f g h i : Value) : (Instr.index PL3 (.agg #[a, b, c, d, e, f, g, h, i]) (.int .i64 2)).run Try.prog w = .ok (.agg #[g, h, i]) w := by kernel_rfl
theorem WrF.drewN {a b c : Nat} {w w1 : World} (h : WrF a b c w w1) (q : Nat) : WrF a b c w (w1.drewN q) := ⟨h.os, h.tape, h.output, h.size, h.block⟩
def sdN (s : Int) : Nat → Int
  | 0 => s
  | n + 1 => (sdN s n * 1664525 % 4294967296 + 1013904223) % 4294967296
theorem sdN_bd {s : Int} (h : 0 ≤ s ∧ s < 4294967296) (n : Nat) : 0 ≤ sdN s n ∧ sdN s n < 4294967296 := by
  cases n with
  | zero => exact h
  | succ n => unfold sdN; omega
def nzV (m c sd : Int) : Int := imax (imin (c + sd / 65536 % (2 * m + 1) - m) 255) 0
theorem nzV_bd (m c sd : Int) : 0 ≤ nzV m c sd ∧ nzV m c sd ≤ 255 := by unfold nzV; rw [imax_eq, imin_eq]; omega
/-- The samples while they are made noisy: k are done; n0 steps of the seed lie ahead of them. -/
def nzF (m sd : Int) (n0 k : Nat) (s : Nat → Int) (j : Nat) : Int := if j < k then nzV m (s j) (sdN sd (n0 + j + 1)) else s j
theorem nzF_step {m sd : Int} {n0 k : Nat} {s : Nat → Int} (j : Nat) : (if j = k then nzV m (s k) (sdN sd (n0 + k + 1)) else nzF m sd n0 k s j) = nzF m sd n0 (k + 1) s j := by
  unfold nzF
  by_cases e : j = k
  · subst e; simp
  · by_cases e2 : j < k
    · simp [e, e2, show j < k + 1 by omega]
    · simp [e, e2, show ¬ j < k + 1 by omega]
def lY (f : Fr) : Nat := 16 * f.c * (16 * f.r)
def lU (f : Fr) : Nat := 8 * f.c * (8 * f.r)
/-- A frame's samples, when k of its planes are done. -/
def nzP (m sd : Int) (f : Fr) (k : Nat) : Fr :=
  f.put (nzF m sd 0 (if 0 < k then lY f else 0) f.sY) (nzF m sd (lY f) (if 1 < k then lU f else 0) f.sU) (nzF m sd (lY f + lU f) (if 2 < k then lU f else 0) f.sV)
def nzA (f : Fr) (k : Nat) : Nat := if k = 0 then 0 else if k = 1 then lY f else if k = 2 then lY f + lU f else lY f + lU f + lU f

set_option maxHeartbeats 4000000 in
theorem noise_any (f : Fr) (sd mo : Int) (w : World) (hM : f.Mem w) (hs : 0 ≤ sd ∧ sd < 4294967296) :
    Calls Try.prog 98 #[f.val, .int .u32 sd, .int .i64 mo] w fun e w' =>
      e = .returned (.tuple #[]) ∧ (nzP (min (max mo 0) 255) sd f 3).Mem w' ∧ WrF f.bY f.bU f.bV w w' := by
  have hc := hM.hc; have hrr := hM.hr
  have ey := hM.y.lt; have eu := hM.u.lt; have ev := hM.v.lt
  have n1 := hM.yu; have n2 := hM.yv; have n3 := hM.uv
  obtain ⟨m, hm, hm1⟩ : ∃ m : Int, imin (imax mo 0) 255 = m ∧ m = min (max mo 0) 255 := ⟨_, rfl, by rw [imin_eq, imax_eq]⟩
  rw [← hm1]
  have hmb : 0 ≤ m ∧ m ≤ 255 := by omega
  clear hm1
  have HO : Ob (w.alloc (.cells f.cells 43)) w.heap.size FRT f.cells := Ob.new_at _ _ rfl
  replace hM := hM.alloc (.cells f.cells 43)
  have HM : (nzP m sd f 0).Mem (w.alloc (.cells f.cells 43)) :=
    ⟨hc, hrr, hM.y.congr (fun j _ => by simp [nzP, nzF, Fr.put]), hM.u.congr (fun j _ => by simp [nzP, nzF, Fr.put]), hM.v.congr (fun j _ => by simp [nzP, nzF, Fr.put]), n1, n2, n3⟩
  clear hM
  have HW : WrF f.bY f.bU f.bV w (w.alloc (.cells f.cells 43)) := (WrF.refl _ _ _ _).alloc _
  unfold Fr.val
  go_enter Try.func98, Try.ntmps98
  go_wp2_with (refine wpList_load_ob HO rfl _ _ rfl rfl Try.underlying43 (by kernel_rfl) ?_)
  replace hm := Lib.hid hm
  refine (planes_any f _).mono ?_
  rintro e w1 ⟨rfl, hb⟩
  replace HM := HM.later hb; replace HW := HW.step hb
  clear hb HO
  unfold Fr.planes
  go_wp2_with fail
  go_loopw [1, 15] (fun s i wr => ∃ k : Nat, k ≤ 3 ∧ i = .int .i64 k ∧ s = .int .u32 (sdN sd (nzA f k)) ∧ (nzP m sd f k).Mem wr ∧ WrF f.bY f.bU f.bV w wr) (fun _ i _ => 3 - (intOf i).toNat)
  case atStart => exact ⟨0, by omega, rfl, rfl, HM, HW⟩
  case round =>
    clear HM HW
    obtain ⟨k, hk, rfl, rfl, HM, HW⟩ := hrel
    have hsb := sdN_bd hs (nzA f k)
    obtain rfl | rfl | rfl | rfl : k = 0 ∨ k = 1 ∨ k = 2 ∨ k = 3 := by omega
    · have i0 := fun W => idx_pl0 W (.int .i64 (16 * (f.c : Int))) (.int .i64 (16 * (f.r : Int))) (.slice (some ⟨f.bY, 0, none⟩) (16 * f.c * (16 * f.r)) f.cY) (.int .i64 (8 * (f.c : Int))) (.int .i64 (8 * (f.r : Int))) (.slice (some ⟨f.bU, 0, none⟩) (8 * f.c * (8 * f.r)) f.cU) (.int .i64 (8 * (f.c : Int))) (.int .i64 (8 * (f.r : Int))) (.slice (some ⟨f.bV, 0, none⟩) (8 * f.c * (8 * f.r)) f.cV)
      go_wp2_with fail
      have HO : Ob (wr.alloc (.cells #[.int .i64 (16 * (f.c : Int)), .int .i64 (16 * (f.r : Int)), .slice (some ⟨f.bY, 0, none⟩) (16 * f.c * (16 * f.r)) f.cY] PLT)) wr.heap.size PLT #[.int .i64 (16 * (f.c : Int)), .int .i64 (16 * (f.r : Int)), .slice (some ⟨f.bY, 0, none⟩) (16 * f.c * (16 * f.r)) f.cY] := Ob.new_at _ _ rfl
      have hz1 := HM.y.lt; have hz2 := HM.u.lt; have hz3 := HM.v.lt; have hz4 := HW.size
      replace HM := HM.alloc (.cells #[.int .i64 (16 * (f.c : Int)), .int .i64 (16 * (f.r : Int)), .slice (some ⟨f.bY, 0, none⟩) (16 * f.c * (16 * f.r)) f.cY] PLT)
      replace HW := HW.alloc (.cells #[.int .i64 (16 * (f.c : Int)), .int .i64 (16 * (f.r : Int)), .slice (some ⟨f.bY, 0, none⟩) (16 * f.c * (16 * f.r)) f.cY] PLT)
      clear i0 hsb
      generalize wr.alloc (.cells #[.int .i64 (16 * (f.c : Int)), .int .i64 (16 * (f.r : Int)), .slice (some ⟨f.bY, 0, none⟩) (16 * f.c * (16 * f.r)) f.cY] PLT) = w2 at *
      have q1 : wr.heap.size ≠ f.bY := by show _ ≠ (nzP m sd f 0).bY; omega
      generalize wr.heap.size = p at *
      have hN : 16 * f.c * (16 * f.r) ≤ 16384 := Nat.mul_le_mul (show 16 * f.c ≤ 128 by omega) (show 16 * f.r ≤ 128 by omega)
      have HY : PB w2 f.bY (16 * f.c * (16 * f.r)) (nzF m sd (nzA f 0) 0 f.sY) := HM.y
      have HU : PB w2 f.bU (8 * f.c * (8 * f.r)) (nzF m sd (lY f) 0 f.sU) := HM.u
      have HV : PB w2 f.bV (8 * f.c * (8 * f.r)) (nzF m sd (lY f + lU f) 0 f.sV) := HM.v
      clear HM
      go_loopw [1, 21] (fun s i wr => ∃ j : Nat, j ≤ 16 * f.c * (16 * f.r) ∧ i = .int .i64 j ∧ s = .int .u32 (sdN sd (nzA f 0 + j)) ∧ Ob wr p PLT #[.int .i64 (16 * (f.c : Int)), .int .i64 (16 * (f.r : Int)), .slice (some ⟨f.bY, 0, none⟩) (16 * f.c * (16 * f.r)) f.cY] ∧ PB wr f.bY (16 * f.c * (16 * f.r)) (nzF m sd (nzA f 0) j f.sY) ∧ PB wr f.bU (8 * f.c * (8 * f.r)) (nzF m sd (lY f) 0 f.sU) ∧ PB wr f.bV (8 * f.c * (8 * f.r)) (nzF m sd (lY f + lU f) 0 f.sV) ∧ WrF f.bY f.bU f.bV w wr) (fun _ i _ => 16 * f.c * (16 * f.r) - (intOf i).toNat)
      case atStart => exact ⟨0, by omega, rfl, rfl, HO, HY, HU, HV, HW⟩
      case round =>
        clear HO HY HU HV HW
        obtain ⟨j, hj, rfl, rfl, HO, HY, HU, HV, HW⟩ := hrel
        by_cases hlt : j < 16 * f.c * (16 * f.r)
        · have hd : decide ((j : Int) < 16 * (f.c : Int) * (16 * (f.r : Int))) = true := by
            have : ((j : Nat) : Int) < ((16 * f.c * (16 * f.r) : Nat) : Int) := by omega
            simpa using this
          have c3 : wr.cell? ⟨p, 2, none⟩ = some (.slice (some ⟨f.bY, 0, none⟩) (16 * f.c * (16 * f.r)) f.cY) := HO.cell 2 rfl
          have c4 := HY.cell hlt
          have f4 := HY.free j
          obtain ⟨b1, b2⟩ := HY.bd hlt
          have e4 : nzF m sd (nzA f 0) j f.sY j = f.sY j := by unfold nzF; rw [if_neg (by omega)]
          rw [e4] at c4 b1 b2
          clear e4
          obtain ⟨s1, s2⟩ := sdN_bd hs (nzA f 0 + j)
          have hst : (sdN sd (nzA f 0 + j) * 1664525 % 4294967296 + 1013904223) % 4294967296 = sdN sd (nzA f 0 + j + 1) := rfl
          obtain ⟨s3, s4⟩ := sdN_bd hs (nzA f 0 + j + 1)
          generalize ht : sdN sd (nzA f 0 + j + 1) = t at *
          replace ht := Lib.hid ht
          have r1 := Int.emod_nonneg (t / 65536) (show 2 * m + 1 ≠ 0 by omega)
          have r2 := Int.emod_lt_of_pos (t / 65536) (show 0 < 2 * m + 1 by omega)
          have r3 : 0 ≤ t / 65536 ∧ t / 65536 ≤ 65535 := by omega
          obtain ⟨v1, v2⟩ := nzV_bd m (f.sY j) t
          unfold nzV at v1 v2
          replace hst := Lib.hid hst
          go_wp2_with fail
          simp only [hst.out]
          apply wp_region_tail_drew 18
          case hm => kernel_rfl
          case hB => kernel_rfl
          case hno => kernel_rfl
          case hF =>
            simp only [List.take_succ_cons, List.take_zero]
            repeat (go_big_quiet_step (fail))
            exact wpQuiet_nil rfl
          case hT =>
            intro nq
            simp only [List.drop_succ_cons, List.drop_zero]
            replace HO := HO.drewN nq; replace HY := HY.drewN nq; replace HU := HU.drewN nq; replace HV := HV.drewN nq; replace HW := HW.drewN nq; replace f4 : (wr.drewN nq).frozen? ⟨f.bY, j, none⟩ = false := f4; replace c4 : (wr.drewN nq).cell? ⟨f.bY, j, none⟩ = some (.int .u8 (f.sY j)) := c4
            clear c3
            generalize wr.drewN nq = w4 at *
            go_wp2_with fail
            refine ⟨⟨j + 1, by omega, by go_num, by rw [← ht.out]; rfl, HO.other (fun e => q1 e.symm) _ _, (HY.set j _ ⟨v1, v2⟩).congr (fun x _ => ?_), HU.other n1 _ _, HV.other n2 _ _, HW.wr (d := f.bY) ((Wr.refl _ _).setCell _ _) (Or.inl rfl)⟩, by simp [intOf]; omega⟩
            rw [← nzF_step (j := x) (k := j), ht.out]; rfl
        · obtain rfl : j = 16 * f.c * (16 * f.r) := by omega
          have hd : decide (((16 * f.c * (16 * f.r) : Nat) : Int) < 16 * (f.c : Int) * (16 * (f.r : Int))) = false := by simp
          go_wp2_with fail
          exact ⟨⟨1, by omega, by go_num, by first | rfl | (show Value.int .u32 (sdN sd (0 + lY f)) = Value.int .u32 (sdN sd (lY f)); rw [Nat.zero_add]), ⟨hc, hrr, HY, HU, HV, n1, n2, n3⟩, HW⟩, by simp [intOf]⟩
    · have i0 := fun W => idx_pl1 W (.int .i64 (16 * (f.c : Int))) (.int .i64 (16 * (f.r : Int))) (.slice (some ⟨f.bY, 0, none⟩) (16 * f.c * (16 * f.r)) f.cY) (.int .i64 (8 * (f.c : Int))) (.int .i64 (8 * (f.r : Int))) (.slice (some ⟨f.bU, 0, none⟩) (8 * f.c * (8 * f.r)) f.cU) (.int .i64 (8 * (f.c : Int))) (.int .i64 (8 * (f.r : Int))) (.slice (some ⟨f.bV, 0, none⟩) (8 * f.c * (8 * f.r)) f.cV)
      go_wp2_with fail
      have HO : Ob (wr.alloc (.cells #[.int .i64 (8 * (f.c : Int)), .int .i64 (8 * (f.r : Int)), .slice (some ⟨f.bU, 0, none⟩) (8 * f.c * (8 * f.r)) f.cU] PLT)) wr.heap.size PLT #[.int .i64 (8 * (f.c : Int)), .int .i64 (8 * (f.r : Int)), .slice (some ⟨f.bU, 0, none⟩) (8 * f.c * (8 * f.r)) f.cU] := Ob.new_at _ _ rfl
      have hz1 := HM.y.lt; have hz2 := HM.u.lt; have hz3 := HM.v.lt; have hz4 := HW.size
      replace HM := HM.alloc (.cells #[.int .i64 (8 * (f.c : Int)), .int .i64 (8 * (f.r : Int)), .slice (some ⟨f.bU, 0, none⟩) (8 * f.c * (8 * f.r)) f.cU] PLT)
      replace HW := HW.alloc (.cells #[.int .i64 (8 * (f.c : Int)), .int .i64 (8 * (f.r : Int)), .slice (some ⟨f.bU, 0, none⟩) (8 * f.c * (8 * f.r)) f.cU] PLT)
      clear i0 hsb
      generalize wr.alloc (.cells #[.int .i64 (8 * (f.c : Int)), .int .i64 (8 * (f.r : Int)), .slice (some ⟨f.bU, 0, none⟩) (8 * f.c * (8 * f.r)) f.cU] PLT) = w2 at *
      have q1 : wr.heap.size ≠ f.bU := by show _ ≠ (nzP m sd f 1).bU; omega
      generalize wr.heap.size = p at *
      have hN : 8 * f.c * (8 * f.r) ≤ 4096 := Nat.mul_le_mul (show 8 * f.c ≤ 64 by omega) (show 8 * f.r ≤ 64 by omega)
      have HY : PB w2 f.bY (16 * f.c * (16 * f.r)) (nzF m sd 0 (lY f) f.sY) := HM.y
      have HU : PB w2 f.bU (8 * f.c * (8 * f.r)) (nzF m sd (nzA f 1) 0 f.sU) := HM.u
      have HV : PB w2 f.bV (8 * f.c * (8 * f.r)) (nzF m sd (lY f + lU f) 0 f.sV) := HM.v
      clear HM
      go_loopw [1, 21] (fun s i wr => ∃ j : Nat, j ≤ 8 * f.c * (8 * f.r) ∧ i = .int .i64 j ∧ s = .int .u32 (sdN sd (nzA f 1 + j)) ∧ Ob wr p PLT #[.int .i64 (8 * (f.c : Int)), .int .i64 (8 * (f.r : Int)), .slice (some ⟨f.bU, 0, none⟩) (8 * f.c * (8 * f.r)) f.cU] ∧ PB wr f.bY (16 * f.c * (16 * f.r)) (nzF m sd 0 (lY f) f.sY) ∧ PB wr f.bU (8 * f.c * (8 * f.r)) (nzF m sd (nzA f 1) j f.sU) ∧ PB wr f.bV (8 * f.c * (8 * f.r)) (nzF m sd (lY f + lU f) 0 f.sV) ∧ WrF f.bY f.bU f.bV w wr) (fun _ i _ => 8 * f.c * (8 * f.r) - (intOf i).toNat)
      case atStart => exact ⟨0, by omega, rfl, rfl, HO, HY, HU, HV, HW⟩
      case round =>
        clear HO HY HU HV HW
        obtain ⟨j, hj, rfl, rfl, HO, HY, HU, HV, HW⟩ := hrel
        by_cases hlt : j < 8 * f.c * (8 * f.r)
        · have hd : decide ((j : Int) < 8 * (f.c : Int) * (8 * (f.r : Int))) = true := by
            have : ((j : Nat) : Int) < ((8 * f.c * (8 * f.r) : Nat) : Int) := by omega
            simpa using this
          have c3 : wr.cell? ⟨p, 2, none⟩ = some (.slice (some ⟨f.bU, 0, none⟩) (8 * f.c * (8 * f.r)) f.cU) := HO.cell 2 rfl
          have c4 := HU.cell hlt
          have f4 := HU.free j
          obtain ⟨b1, b2⟩ := HU.bd hlt
          have e4 : nzF m sd (nzA f 1) j f.sU j = f.sU j := by unfold nzF; rw [if_neg (by omega)]
          rw [e4] at c4 b1 b2
          clear e4
          obtain ⟨s1, s2⟩ := sdN_bd hs (nzA f 1 + j)
          have hst : (sdN sd (nzA f 1 + j) * 1664525 % 4294967296 + 1013904223) % 4294967296 = sdN sd (nzA f 1 + j + 1) := rfl
          obtain ⟨s3, s4⟩ := sdN_bd hs (nzA f 1 + j + 1)
          generalize ht : sdN sd (nzA f 1 + j + 1) = t at *
          replace ht := Lib.hid ht
          have r1 := Int.emod_nonneg (t / 65536) (show 2 * m + 1 ≠ 0 by omega)
          have r2 := Int.emod_lt_of_pos (t / 65536) (show 0 < 2 * m + 1 by omega)
          have r3 : 0 ≤ t / 65536 ∧ t / 65536 ≤ 65535 := by omega
          obtain ⟨v1, v2⟩ := nzV_bd m (f.sU j) t
          unfold nzV at v1 v2
          replace hst := Lib.hid hst
          go_wp2_with fail
          simp only [hst.out]
          apply wp_region_tail_drew 18
          case hm => kernel_rfl
          case hB => kernel_rfl
          case hno => kernel_rfl
          case hF =>
            simp only [List.take_succ_cons, List.take_zero]
            repeat (go_big_quiet_step (fail))
            exact wpQuiet_nil rfl
          case hT =>
            intro nq
            simp only [List.drop_succ_cons, List.drop_zero]
            replace HO := HO.drewN nq; replace HY := HY.drewN nq; replace HU := HU.drewN nq; replace HV := HV.drewN nq; replace HW := HW.drewN nq; replace f4 : (wr.drewN nq).frozen? ⟨f.bU, j, none⟩ = false := f4; replace c4 : (wr.drewN nq).cell? ⟨f.bU, j, none⟩ = some (.int .u8 (f.sU j)) := c4
            clear c3
            generalize wr.drewN nq = w4 at *
            go_wp2_with fail
            refine ⟨⟨j + 1, by omega, by go_num, by rw [← ht.out]; rfl, HO.other (fun e => q1 e.symm) _ _, HY.other n1.symm _ _, (HU.set j _ ⟨v1, v2⟩).congr (fun x _ => ?_), HV.other n3 _ _, HW.wr (d := f.bU) ((Wr.refl _ _).setCell _ _) (Or.inr (Or.inl rfl))⟩, by simp [intOf]; omega⟩
            rw [← nzF_step (j := x) (k := j), ht.out]; rfl
        · obtain rfl : j = 8 * f.c * (8 * f.r) := by omega
          have hd : decide (((8 * f.c * (8 * f.r) : Nat) : Int) < 8 * (f.c : Int) * (8 * (f.r : Int))) = false := by simp
          go_wp2_with fail
          exact ⟨⟨2, by omega, by go_num, by first | rfl | (show Value.int .u32 (sdN sd (0 + lY f)) = Value.int .u32 (sdN sd (lY f)); rw [Nat.zero_add]), ⟨hc, hrr, HY, HU, HV, n1, n2, n3⟩, HW⟩, by simp [intOf]⟩
    · have i0 := fun W => idx_pl2 W (.int .i64 (16 * (f.c : Int))) (.int .i64 (16 * (f.r : Int))) (.slice (some ⟨f.bY, 0, none⟩) (16 * f.c * (16 * f.r)) f.cY) (.int .i64 (8 * (f.c : Int))) (.int .i64 (8 * (f.r : Int))) (.slice (some ⟨f.bU, 0, none⟩) (8 * f.c * (8 * f.r)) f.cU) (.int .i64 (8 * (f.c : Int))) (.int .i64 (8 * (f.r : Int))) (.slice (some ⟨f.bV, 0, none⟩) (8 * f.c * (8 * f.r)) f.cV)
      go_wp2_with fail
      have HO : Ob (wr.alloc (.cells #[.int .i64 (8 * (f.c : Int)), .int .i64 (8 * (f.r : Int)), .slice (some ⟨f.bV, 0, none⟩) (8 * f.c * (8 * f.r)) f.cV] PLT)) wr.heap.size PLT #[.int .i64 (8 * (f.c : Int)), .int .i64 (8 * (f.r : Int)), .slice (some ⟨f.bV, 0, none⟩) (8 * f.c * (8 * f.r)) f.cV] := Ob.new_at _ _ rfl
      have hz1 := HM.y.lt; have hz2 := HM.u.lt; have hz3 := HM.v.lt; have hz4 := HW.size
      replace HM := HM.alloc (.cells #[.int .i64 (8 * (f.c : Int)), .int .i64 (8 * (f.r : Int)), .slice (some ⟨f.bV, 0, none⟩) (8 * f.c * (8 * f.r)) f.cV] PLT)
      replace HW := HW.alloc (.cells #[.int .i64 (8 * (f.c : Int)), .int .i64 (8 * (f.r : Int)), .slice (some ⟨f.bV, 0, none⟩) (8 * f.c * (8 * f.r)) f.cV] PLT)
      clear i0 hsb
      generalize wr.alloc (.cells #[.int .i64 (8 * (f.c : Int)), .int .i64 (8 * (f.r : Int)), .slice (some ⟨f.bV, 0, none⟩) (8 * f.c * (8 * f.r)) f.cV] PLT) = w2 at *
      have q1 : wr.heap.size ≠ f.bV := by show _ ≠ (nzP m sd f 2).bV; omega
      generalize wr.heap.size = p at *
      have hN : 8 * f.c * (8 * f.r) ≤ 4096 := Nat.mul_le_mul (show 8 * f.c ≤ 64 by omega) (show 8 * f.r ≤ 64 by omega)
      have HY : PB w2 f.bY (16 * f.c * (16 * f.r)) (nzF m sd 0 (lY f) f.sY) := HM.y
      have HU : PB w2 f.bU (8 * f.c * (8 * f.r)) (nzF m sd (lY f) (lU f) f.sU) := HM.u
      have HV : PB w2 f.bV (8 * f.c * (8 * f.r)) (nzF m sd (nzA f 2) 0 f.sV) := HM.v
      clear HM
      go_loopw [1, 21] (fun s i wr => ∃ j : Nat, j ≤ 8 * f.c * (8 * f.r) ∧ i = .int .i64 j ∧ s = .int .u32 (sdN sd (nzA f 2 + j)) ∧ Ob wr p PLT #[.int .i64 (8 * (f.c : Int)), .int .i64 (8 * (f.r : Int)), .slice (some ⟨f.bV, 0, none⟩) (8 * f.c * (8 * f.r)) f.cV] ∧ PB wr f.bY (16 * f.c * (16 * f.r)) (nzF m sd 0 (lY f) f.sY) ∧ PB wr f.bU (8 * f.c * (8 * f.r)) (nzF m sd (lY f) (lU f) f.sU) ∧ PB wr f.bV (8 * f.c * (8 * f.r)) (nzF m sd (nzA f 2) j f.sV) ∧ WrF f.bY f.bU f.bV w wr) (fun _ i _ => 8 * f.c * (8 * f.r) - (intOf i).toNat)
      case atStart => exact ⟨0, by omega, rfl, rfl, HO, HY, HU, HV, HW⟩
      case round =>
        clear HO HY HU HV HW
        obtain ⟨j, hj, rfl, rfl, HO, HY, HU, HV, HW⟩ := hrel
        by_cases hlt : j < 8 * f.c * (8 * f.r)
        · have hd : decide ((j : Int) < 8 * (f.c : Int) * (8 * (f.r : Int))) = true := by
            have : ((j : Nat) : Int) < ((8 * f.c * (8 * f.r) : Nat) : Int) := by omega
            simpa using this
          have c3 : wr.cell? ⟨p, 2, none⟩ = some (.slice (some ⟨f.bV, 0, none⟩) (8 * f.c * (8 * f.r)) f.cV) := HO.cell 2 rfl
          have c4 := HV.cell hlt
          have f4 := HV.free j
          obtain ⟨b1, b2⟩ := HV.bd hlt
          have e4 : nzF m sd (nzA f 2) j f.sV j = f.sV j := by unfold nzF; rw [if_neg (by omega)]
          rw [e4] at c4 b1 b2
          clear e4
          obtain ⟨s1, s2⟩ := sdN_bd hs (nzA f 2 + j)
          have hst : (sdN sd (nzA f 2 + j) * 1664525 % 4294967296 + 1013904223) % 4294967296 = sdN sd (nzA f 2 + j + 1) := rfl
          obtain ⟨s3, s4⟩ := sdN_bd hs (nzA f 2 + j + 1)
          generalize ht : sdN sd (nzA f 2 + j + 1) = t at *
          replace ht := Lib.hid ht
          have r1 := Int.emod_nonneg (t / 65536) (show 2 * m + 1 ≠ 0 by omega)
          have r2 := Int.emod_lt_of_pos (t / 65536) (show 0 < 2 * m + 1 by omega)
          have r3 : 0 ≤ t / 65536 ∧ t / 65536 ≤ 65535 := by omega
          obtain ⟨v1, v2⟩ := nzV_bd m (f.sV j) t
          unfold nzV at v1 v2
          replace hst := Lib.hid hst
          go_wp2_with fail
          simp only [hst.out]
          apply wp_region_tail_drew 18
          case hm => kernel_rfl
          case hB => kernel_rfl
          case hno => kernel_rfl
          case hF =>
            simp only [List.take_succ_cons, List.take_zero]
            repeat (go_big_quiet_step (fail))
            exact wpQuiet_nil rfl
          case hT =>
            intro nq
            simp only [List.drop_succ_cons, List.drop_zero]
            replace HO := HO.drewN nq; replace HY := HY.drewN nq; replace HU := HU.drewN nq; replace HV := HV.drewN nq; replace HW := HW.drewN nq; replace f4 : (wr.drewN nq).frozen? ⟨f.bV, j, none⟩ = false := f4; replace c4 : (wr.drewN nq).cell? ⟨f.bV, j, none⟩ = some (.int .u8 (f.sV j)) := c4
            clear c3
            generalize wr.drewN nq = w4 at *
            go_wp2_with fail
            refine ⟨⟨j + 1, by omega, by go_num, by rw [← ht.out]; rfl, HO.other (fun e => q1 e.symm) _ _, HY.other n2.symm _ _, HU.other n3.symm _ _, (HV.set j _ ⟨v1, v2⟩).congr (fun x _ => ?_), HW.wr (d := f.bV) ((Wr.refl _ _).setCell _ _) (Or.inr (Or.inr rfl))⟩, by simp [intOf]; omega⟩
            rw [← nzF_step (j := x) (k := j), ht.out]; rfl
        · obtain rfl : j = 8 * f.c * (8 * f.r) := by omega
          have hd : decide (((8 * f.c * (8 * f.r) : Nat) : Int) < 8 * (f.c : Int) * (8 * (f.r : Int))) = false := by simp
          go_wp2_with fail
          exact ⟨⟨3, by omega, by go_num, by first | rfl | (show Value.int .u32 (sdN sd (0 + lY f)) = Value.int .u32 (sdN sd (lY f)); rw [Nat.zero_add]), ⟨hc, hrr, HY, HU, HV, n1, n2, n3⟩, HW⟩, by simp [intOf]⟩
    · go_wp2_with fail
      go_end0
      exact ⟨rfl, HM, HW⟩
end Go.Proofs.Ytbldgpemocnboaa

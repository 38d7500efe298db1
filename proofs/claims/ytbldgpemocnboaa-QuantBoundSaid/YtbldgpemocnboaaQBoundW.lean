/- The walk of the law QuantBound: true at every input. -/
import Derived.Test.YtbldgpemocnboaaQBm
import Derived.Test.YtbldgpemocnboaaQld
import Derived.Test.YtbldgpemocnboaaCell
namespace Go.Proofs.Ytbldgpemocnboaa
open Go.RowKit Go.Sort
attribute [local go_sem ↓] run_imax run_imin

theorem allocW22 (w : World) : (Instr.alloc 22 true (.tuple #[])).run Try.prog w = .ok (.pointer (some ⟨w.heap.size, 0, none⟩)) (w.alloc (.cells (fcells 64 (fun _ => .int .u8 0)) 22)) := by kernel_rfl
theorem undW22 : Try.prog.underlying 22 = some (.array 64 5) := by kernel_rfl
theorem eqs28 (f : Nat → Int) (W : World) : (Op.equalIn 10000 27 (.agg (fcells 64 (ival f))) (.agg (fcells 64 (ival f)))).run Try.prog W = .ok true W := by
  have h := run_eq_ints (P := Try.prog) W 27 3 64 .i64 f f und28 (by kernel_rfl) (by kernel_rfl) (by kernel_rfl)
  rw [show ((List.range 64).all fun j => f j == f j) = true by simp] at h
  exact h
/-- The samples, or the differences. -/
def bS (sa oa : Nat → Int) (intra : Bool) (j : Nat) : Int := if intra = true then sa j else sa j - oa j
theorem bS_bd {sa oa : Nat → Int} (hs : ∀ j, j < 64 → 0 ≤ sa j ∧ sa j ≤ 255) (ho : ∀ j, j < 64 → 0 ≤ oa j ∧ oa j ≤ 255) (intra : Bool) (j : Nat) (hj : j < 64) : -255 ≤ bS sa oa intra j ∧ bS sa oa intra j ≤ 255 := by
  have := hs j hj; have := ho j hj
  unfold bS; split <;> omega
def wsF (t : Bool) (ia ir : Nat → Int) (intra : Bool) (k : Nat) : Int := if intra = true then fitv t ia k else fitv t ir k
theorem wsF_step (t : Bool) (ia ir : Nat → Int) (q : Int) (intra : Bool) (k : Nat) (hk : k < 64) : rstep q (wsF t ia ir intra k) = qstep t (fitv t ia) (fitv t ir) q k intra := by
  unfold wsF qstep wgt rstep
  cases t
  · have e : ∀ f : Nat → Int, fitv false f k = 0 := fun f => by unfold fitv; simp
    have e0 : (if intra = true then (0 : Int) else 0) = 0 := by split <;> rfl
    rw [e, e, e0, if_pos rfl, if_neg (by simp), show imax 16 8 = 16 by decide, Int.mul_comm]
  · have h8 : ∀ f : Nat → Int, 8 ≤ fitv true f k := fun f => by unfold fitv; rw [if_pos rfl, imax_eq]; omega
    have a := h8 ia; have b := h8 ir
    rw [if_pos (show true = true ∧ (0 : Int) ≤ (k : Int) ∧ (k : Int) < 64 from ⟨rfl, by omega, by omega⟩), Int.toNat_natCast]
    cases intra
    · simp only [Bool.false_eq_true, if_false]
      rw [if_neg (by omega), show imax (fitv true ir k) 8 = fitv true ir k by rw [imax_eq]; omega, Int.mul_comm]
    · simp only [if_true]
      rw [if_neg (by omega), show imax (fitv true ia k) 8 = fitv true ia k by rw [imax_eq]; omega, Int.mul_comm]
set_option maxRecDepth 1000000 in
set_option maxHeartbeats 16000000 in
theorem quantBound_walk (t : Bool) (ia ir sa oa : Nat → Int) (qp : Int) (intra : Bool) (w : World) (ha : ∀ j, j < 64 → 0 ≤ ia j ∧ ia j ≤ 255) (hr : ∀ j, j < 64 → 0 ≤ ir j ∧ ir j ≤ 255)
    (hsa : ∀ j, j < 64 → 0 ≤ sa j ∧ sa j ≤ 255) (hoa : ∀ j, j < 64 → 0 ≤ oa j ∧ oa j ≤ 255) (hqp : 0 ≤ qp ∧ qp ≤ 255) :
    Calls Try.prog 3 #[.agg (fcells 129 (tabV t ia ir)), .agg (fcells 64 fun j => .int .u8 (sa j)), .agg (fcells 64 fun j => .int .u8 (oa j)), .int .u8 qp, .bool intra] w fun e w' => e = .returned (.bool true) ∧ Below w.heap.size w w' := by
  have hft := fun W => fit_any t ia ir W ha hr
  obtain ⟨xa, hxa⟩ : ∃ xa, fitv t ia = xa := ⟨_, rfl⟩
  obtain ⟨xr, hxr⟩ : ∃ xr, fitv t ir = xr := ⟨_, rfl⟩
  have xab : ∀ j, j < 64 → 0 ≤ xa j ∧ xa j ≤ 255 := by rw [← hxa]; exact fitv_bd ha
  have xrb : ∀ j, j < 64 → 0 ≤ xr j ∧ xr j ≤ 255 := by rw [← hxr]; exact fitv_bd hr
  have hws : ∀ q k, k < 64 → rstep q (wsF t ia ir intra k) = qstep t xa xr q k intra := fun q k hk => by rw [← hxa, ← hxr]; exact wsF_step t ia ir q intra k hk
  have hwe : ∀ k, wsF t ia ir intra k = if intra = true then xa k else xr k := fun k => by rw [← hxa, ← hxr]; rfl
  obtain ⟨ws, hwsd⟩ : ∃ ws, wsF t ia ir intra = ws := ⟨_, rfl⟩
  rw [hwsd] at hws hwe
  have wsb : ∀ j, j < 64 → 0 ≤ ws j ∧ ws j ≤ 255 := fun j hj => by rw [hwe j]; have := xab j hj; have := xrb j hj; split <;> assumption
  rw [hxa, hxr] at hft
  replace hxa := Lib.hid hxa; replace hxr := Lib.hid hxr; replace hwsd := Lib.hid hwsd
  clear ha hr hxa hxr hwsd
  obtain ⟨Q, hQ⟩ : ∃ Q, 1 + qp % 31 = Q := ⟨_, rfl⟩
  have hQ1 : 1 ≤ Q ∧ Q ≤ 31 := by omega
  obtain ⟨b, hb⟩ : ∃ b, bS sa oa intra = b := ⟨_, rfl⟩
  have hbb : ∀ j, j < 64 → -255 ≤ b j ∧ b j ≤ 255 := by rw [← hb]; exact bS_bd hsa hoa intra
  have hb0 : intra = true → ∀ j, j < 64 → 0 ≤ b j := fun h j hj => by rw [← hb]; unfold bS; rw [if_pos h]; exact (hsa j hj).1
  have hsb : ∀ k : Nat, k < 64 → 8 ≤ qstep t xa xr Q k intra ∧ qstep t xa xr Q k intra ≤ 7905 := fun k hk => qstep_bd xab xrb Q k intra
  have hcb := fwd_small b hbb
  have hc0 : intra = true → 0 ≤ fwdF b 0 := fun h => fwd_first b (hb0 h)
  have hinv := inv_near (t := t) (ia := xa) (ir := xr) (q := Q) (intra := intra) b hsb hcb hc0
  have hnn := numF_near (t := t) (ia := xa) (ir := xr) (q := Q) (intra := intra) (fwdF b) hsb hcb hc0
  have hsame := numbers_same (t := t) (ia := xa) (ir := xr) (q := Q) (intra := intra) (fwdF b) ws hQ1 hsb (fun k hk => hws Q k hk)
  have hlb := levF_bd (t := t) (ia := xa) (ir := xr) (q := Q) (intra := intra) (fwdF b)
  have hlq : ∀ k, k < 64 → ¬ (k = 0 ∧ intra = true) → levF t xa xr Q intra (fwdF b) k = (fwdF b k).tdiv (qstep t xa xr Q k intra) := fun k hk h => by
    unfold levF levG; rw [if_neg h]; exact lev_is (hsb k hk) (hcb k hk)
  have hfw := fun W => forward_any b W 255 (by omega) hbb
  have hle := fun W => levels_any t xa xr Q intra (fwdF b) W xab xrb (fun j hj => by have := hcb j hj; omega)
  have hnu := fun W => numbers_any t xa xr Q intra (levF t xa xr Q intra (fwdF b)) W xab xrb
  have hrn := fun W => rnumbers_any (levF t xa xr Q intra (fwdF b)) ws Q intra W hQ1 wsb (fun j _ => hlb j)
  rw [fcells_congr (f := ival (rnumF Q ws intra (levF t xa xr Q intra (fwdF b)))) (g := ival (numF t xa xr Q intra (levF t xa xr Q intra (fwdF b)))) (fun j hj => by unfold ival; rw [hsame j hj])] at hrn
  have her := fun W => error_any t xa xr Q intra W xab xrb
  unfold qerr at her
  have hqs : ∀ k, qsum t xa xr Q intra (k + 1) = qsum t xa xr Q intra k + (if k = 0 ∧ intra = true then qfirst Q / 2 else qstep t xa xr Q k intra - 1) := fun k => by
    have e : imin (imax Q 1) 31 = Q := by rw [imin_eq, imax_eq]; omega
    show _ + (if k = 0 ∧ intra = true then qfirst (imin (imax Q 1) 31) / 2 else _) = _
    rw [e]
  have hqb := qsum_bd (t := t) (ia := xa) (ir := xr) xab xrb Q intra
  obtain ⟨cc, hcc⟩ : ∃ cc, fwdF b = cc := ⟨_, rfl⟩
  rw [hcc] at hcb hinv hnn hlb hlq hfw hle hnu hrn
  obtain ⟨ll, hll⟩ : ∃ ll, levF t xa xr Q intra cc = ll := ⟨_, rfl⟩
  rw [hll] at hinv hnn hlb hlq hle hnu hrn
  obtain ⟨nn, hnd⟩ : ∃ nn, numF t xa xr Q intra ll = nn := ⟨_, rfl⟩
  rw [hnd] at hinv hnn hnu hrn
  have hnb : ∀ j, j < 64 → -100000 ≤ nn j ∧ nn j ≤ 100000 := fun j hj => by
    have h1 := hnn j hj; have h2 := hcb j hj; have h3 := hsb j hj; have h4 := qfirst_bd _ (qp_bd Q).2
    unfold ab qe at h1
    split at h1 <;> omega
  have hiv := fun W => inverse_any nn W 100000 (by omega) hnb
  obtain ⟨ii, hid⟩ : ∃ ii, invF nn = ii := ⟨_, rfl⟩
  rw [hid] at hinv hiv
  obtain ⟨qs, hqd⟩ : ∃ qs : Nat → Int, qsum t xa xr Q intra = qs := ⟨_, rfl⟩
  have hq00 : qs 0 = 32 := by rw [← hqd]; rfl
  rw [hqd] at hinv her hqs hqb
  have hrs : ∀ k, k < 64 → ∀ W, Calls Try.prog 26 #[.int .i64 Q, .int .u8 (ws k)] W fun e w' => e = .returned (.int .i64 (qstep t xa xr Q k intra)) ∧ W = w' := fun k hk W => by
    rw [← hws Q k hk]; exact rstep_any Q (ws k) W (wsb k hk).1 (wsb k hk).2
  have hrf := fun W => rfirst_any Q W hQ1.1 hQ1.2
  have hqf := qfirst_bd Q hQ1.2
  obtain ⟨ss, hsd⟩ : ∃ ss : Nat → Int, (fun k : Nat => qstep t xa xr Q (k : Int) intra) = ss := ⟨_, rfl⟩
  have hsk : ∀ k : Nat, qstep t xa xr Q (k : Int) intra = ss k := fun k => by rw [← hsd]
  simp only [hsk] at hsb hlq hqs hrs
  obtain ⟨hQa, hQb⟩ := hQ1
  replace hft := Lib.hid hft; replace hws := Lib.hid hws; replace hwe := Lib.hid hwe; replace hQ := Lib.hid hQ; replace hb := Lib.hid hb; replace hbb := Lib.hid hbb; replace hsb := Lib.hid hsb; replace hcb := Lib.hid hcb
  replace hinv := Lib.hid hinv; replace hlb := Lib.hid hlb; replace hlq := Lib.hid hlq; replace hfw := Lib.hid hfw; replace hle := Lib.hid hle; replace hnu := Lib.hid hnu; replace hrn := Lib.hid hrn; replace her := Lib.hid her
  replace hqs := Lib.hid hqs; replace hqb := Lib.hid hqb; replace hiv := Lib.hid hiv; replace hrs := Lib.hid hrs; replace hrf := Lib.hid hrf; replace hq00 := Lib.hid hq00; replace hsa := Lib.hid hsa; replace hoa := Lib.hid hoa; replace xab := Lib.hid xab; replace xrb := Lib.hid xrb; replace hqf := Lib.hid hqf
  clear hb0 hc0 hnn hsame wsb hcc hll hnd hid hqd hsd hsk hnb
  go_enter Try.func3, Try.ntmps3
  go_upto_region 1 with fail
  generalize hw1 : ((w.alloc (.cells (fcells 129 (tabV t ia ir)) TAB)).alloc (.cells (fcells 64 fun j => .int .u8 (sa j)) 22)).alloc (.cells (fcells 64 fun j => .int .u8 (oa j)) 22) = w1
  have HT : Blk w1 w.heap.size TAB 129 (tabV t ia ir) := by rw [← hw1]; exact ((Blk.new_at _ _ _ rfl).alloc _).alloc _
  have HS : Blk w1 (w.heap.size + 1) 22 64 (fun j => .int .u8 (sa j)) := by rw [← hw1]; exact (Blk.new_at _ _ _ (by simp)).alloc _
  have HO : Blk w1 (w.heap.size + 1 + 1) 22 64 (fun j => .int .u8 (oa j)) := by rw [← hw1]; exact Blk.new_at _ _ _ (by simp)
  have HW : Below w.heap.size w w1 := by rw [← hw1]; ((repeat (first | exact Below.refl _ _ | assumption | refine Below.setCell ?_ (by first | omega | (simp; done) | (simp; omega)) _ | refine Below.alloc ?_ (by first | omega | (simp; done) | (simp; omega)) _ | refine below_drewN ?_ _ | refine Below.drew ?_ | refine below_setRow ?_ (by first | omega | (simp; done) | (simp; omega)) _)))
  clear hw1
  generalize w.heap.size + 1 + 1 = p3 at *
  generalize w.heap.size + 1 = p2 at *
  have hp1 := HT.lt
  generalize hwp : w.heap.size = p1 at HT
  replace hwp := Lib.hid hwp
  go_wp2_with (first | (go_at_call 20; (with_reducible refine (awake8 _).mono ?_); rintro e w' ⟨rfl, rfl⟩) | (refine wpList_load_blkS HT rfl _ _ rfl rfl Try.underlying24 (by kernel_rfl) ?_))
  refine (hft.out _).mono ?_
  rintro e w2 ⟨rfl, hbl⟩
  replace HS := HS.later hbl; replace HO := HO.later hbl; replace HW := below_step HW hbl
  clear hbl
  clear HT
  go_wp2_with (first | (refine wpList_alloc_blk rfl TAB rfl _ _ allocTab ?_) | (refine wpList_store_blk (Blk.new_at _ _ _ rfl) rfl _ _ _ rfl rfl rfl (by kernel_rfl) (fun j _ => tabV_one j) ?_) | (refine wpList_alloc_blk rfl 27 rfl _ _ alloc28 ?_))
  have us := HW.size
  generalize hw3 : ((w2.alloc (.cells (fcells 129 (tabV false (fun _ => 0) (fun _ => 0))) TAB)).setRow w2.heap.size (fcells 129 (tabV t xa xr))).alloc (.cells (fcells 64 (ival fun _ => 0)) 27) = w3
  have HX : Blk w3 w2.heap.size TAB 129 (tabV t xa xr) := by rw [← hw3]; exact ((Blk.new_at _ _ _ rfl).setRow_same rfl).alloc _
  have v1 := HS.lt; have v2 := HO.lt
  have HB : Blk w3 (w2.heap.size + 1) 27 64 (fillV 0 (ival b) (ival fun _ => 0)) := by rw [← hw3]; exact Blk.fill_none (Blk.new_at _ _ _ (by simp))
  replace HS : Blk w3 p2 22 64 (fun j => .int .u8 (sa j)) := by rw [← hw3]; have := HS.lt; exact ((HS.alloc _).setRow (by omega) _).alloc _
  replace HO : Blk w3 p3 22 64 (fun j => .int .u8 (oa j)) := by rw [← hw3]; have := HO.lt; exact ((HO.alloc _).setRow (by omega) _).alloc _
  replace HW : Below w.heap.size w w3 := by rw [← hw3]; exact (below_setRow (HW.alloc us _) us _).alloc (by simp; omega) _
  have us2 : w.heap.size ≤ w2.heap.size + 1 := by omega
  have uq : w2.heap.size ≠ w2.heap.size + 1 := by omega
  have uz : w3.heap.size = w2.heap.size + 1 + 1 := by rw [← hw3]; simp
  have up2 : p2 < w2.heap.size := by omega
  have up3 : p3 < w2.heap.size := by omega
  have n2 : w2.heap.size + 1 ≠ p2 := by omega
  have n3 : w2.heap.size + 1 ≠ p3 := by omega
  clear hw3
  generalize w2.heap.size + 1 = bq at *
  generalize w2.heap.size = xq at *
  rw [hQ.out]
  go_loopw [33] (fun i wr => ∃ k : Nat, k ≤ 64 ∧ i = .int .i64 (k : Int) ∧ Blk wr xq TAB 129 (tabV t xa xr) ∧ Blk wr bq 27 64 (fillV k (ival b) (ival fun _ => 0)) ∧ Blk wr p2 22 64 (fun j => .int .u8 (sa j)) ∧ Blk wr p3 22 64 (fun j => .int .u8 (oa j)) ∧ Below w.heap.size w wr) (fun i _ => 64 - (intOf i).toNat)
  case atStart => exact ⟨0, by omega, rfl, HX, HB, HS, HO, HW⟩
  case round =>
    clear HX HB HS HO HW
    obtain ⟨k, hk, rfl, HX, HB, HS, HO, HW⟩ := hrel
    by_cases hk8 : k < 64
    · have i1 : (0 : Int) ≤ k := by omega
      have i2 : (k : Int) < 64 := by omega
      have hd : decide ((k : Int) < 64) = true := by simp; omega
      have c0 : wr.cell? ⟨p2, k, none⟩ = some (.int .u8 (sa k)) := HS.cell hk8
      have c1 : wr.cell? ⟨bq, k, none⟩ = some (.int .i64 0) := HB.fill_cell hk8
      have f1 := HB.free k
      have b1 := hsa.out k hk8
      obtain ⟨b1a, b1b⟩ := b1
      cases hin : intra
      · subst hin
        go_upto_region 11 with fail
        have HB2 := HB.set k (.int .i64 (sa k))
        replace HX := HX.other (c := bq) (by omega) k (.int .i64 (sa k)); replace HS := HS.other (c := bq) n2 k (.int .i64 (sa k)); replace HO := HO.other (c := bq) n3 k (.int .i64 (sa k)); replace HW := HW.setCell (p := ⟨bq, k, none⟩) us2 (.int .i64 (sa k))
        have hbk : Hid (b k = sa k - oa k) := Lib.hid (by rw [← hb.out]; unfold bS; simp)
        have b2 := hoa.out k hk8
        clear c0 c1 f1
        generalize wr.setCell ⟨bq, k, none⟩ (.int .i64 (sa k)) = wr2 at *
        have c0 := fun p => (HB2.re p).cell hk8
        have c1 := fun p => (HO.re p).cell hk8
        simp only [if_true] at c0
        have hwr : IntKind.i64.wrap (sa k - oa k) = sa k - oa k := IntWalk.i64_in _ (by omega)
        obtain ⟨b2a, b2b⟩ := b2
        apply wp_region_tail_below 8
        case hm => kernel_rfl
        case hB => kernel_rfl
        case hno => kernel_rfl
        case hF =>
          simp only [List.take_succ_cons, List.take_zero]
          repeat (go_big_quiet_step (fail))
          exact wpQuiet_nil rfl
        case hT =>
          intro w4 hw4
          simp only [List.drop_succ_cons, List.drop_zero]
          clear c0 c1 hwr
          replace HX := HX.later hw4; replace HB2 := HB2.later hw4; replace HS := HS.later hw4; replace HO := HO.later hw4; replace HW := below_step HW hw4
          clear hw4
          have f1 := HB2.free k
          have c1 := HB2.cell hk8
          simp only [if_true] at c1
          go_wp2_with fail
          replace HB2 := (HB2.set k (.int .i64 (sa k - oa k))).congr (fun j _ => fill2 (F := ival b) (by unfold ival; rw [hbk.out]) j)
          exact ⟨⟨k + 1, by omega, by go_num, HX.other (by omega) _ _, HB2, HS.other n2 _ _, HO.other n3 _ _, HW.setCell (p := ⟨bq, k, none⟩) us2 _⟩, by simp [intOf]; omega⟩
      · subst hin
        have hbk : Hid (b k = sa k) := Lib.hid (by rw [← hb.out]; unfold bS; simp)
        go_wp2_with fail
        replace HB := (HB.set k (.int .i64 (sa k))).congr (fun j _ => fill1 (F := ival b) (by unfold ival; rw [hbk.out]) j)
        exact ⟨⟨k + 1, by omega, by go_num, HX.other (by omega) _ _, HB, HS.other n2 _ _, HO.other n3 _ _, HW.setCell (p := ⟨bq, k, none⟩) us2 _⟩, by simp [intOf]; omega⟩
    · obtain rfl : k = 64 := by omega
      have hd : decide (((64 : Nat) : Int) < 64) = false := by simp
      replace HB := HB.fill_all
      clear HS HO
      go_wp2_with (refine wpList_load_blk HB rfl _ _ rfl rfl und28 (by kernel_rfl) ?_)
      refine (hfw.out _).mono ?_
      rintro e w5 ⟨rfl, hbl⟩
      replace HX := HX.later hbl; replace HB := HB.later hbl; replace HW := below_step HW hbl
      clear hbl
      have us := HW.size
      go_wp2_with (first | (refine wpList_alloc_blk rfl 27 rfl _ _ alloc28 ?_) | (refine wpList_store_blk_stop (Blk.new_at _ _ _ rfl) rfl _ _ _ rfl rfl rfl (by kernel_rfl) (fun j _ => rfl) ?_))
      intro w6 hw6
      replace hw6 := hw6.out
      have HC := mk_blk hw6; replace HX := mk_keepB hw6 HX; replace HB := mk_keepB hw6 HB; replace HW := mk_below hw6 HW us
      have us6 := mk_size hw6
      have n4 := HX.lt; have n5 := HB.lt
      clear hw6
      generalize w5.heap.size = cq at *
      go_wp2_with (first | (refine wpList_load_blkS HX rfl _ _ rfl rfl Try.underlying24 (by kernel_rfl) ?_) | (refine wpList_load_blk HC rfl _ _ rfl rfl und28 (by kernel_rfl) ?_))
      refine (hle.out _).mono ?_
      rintro e w7 ⟨rfl, hbl⟩
      replace HX := HX.later hbl; replace HB := HB.later hbl; replace HC := HC.later hbl; replace HW := below_step HW hbl
      clear hbl
      have us := HW.size
      go_wp2_with (first | (refine wpList_alloc_blk rfl 27 rfl _ _ alloc28 ?_) | (refine wpList_store_blk_stop (Blk.new_at _ _ _ rfl) rfl _ _ _ rfl rfl rfl (by kernel_rfl) (fun j _ => rfl) ?_))
      intro w8 hw8
      replace hw8 := hw8.out
      have HL := mk_blk hw8; replace HX := mk_keepB hw8 HX; replace HB := mk_keepB hw8 HB; replace HC := mk_keepB hw8 HC; replace HW := mk_below hw8 HW us
      clear hw8
      generalize w7.heap.size = lq at *
      go_wp2_with (first | (refine wpList_load_blkS HX rfl _ _ rfl rfl Try.underlying24 (by kernel_rfl) ?_) | (refine wpList_load_blk HL rfl _ _ rfl rfl und28 (by kernel_rfl) ?_))
      refine (hnu.out _).mono ?_
      rintro e w9 ⟨rfl, hbl⟩
      replace HX := HX.later hbl; replace HB := HB.later hbl; replace HC := HC.later hbl; replace HL := HL.later hbl; replace HW := below_step HW hbl
      clear hbl
      have us := HW.size
      go_wp2_with (first | (refine wpList_alloc_blk rfl 27 rfl _ _ alloc28 ?_) | (refine wpList_store_blk_stop (Blk.new_at _ _ _ rfl) rfl _ _ _ rfl rfl rfl (by kernel_rfl) (fun j _ => rfl) ?_))
      intro w10 hw10
      replace hw10 := hw10.out
      have HN := mk_blk hw10; replace HX := mk_keepB hw10 HX; replace HB := mk_keepB hw10 HB; replace HC := mk_keepB hw10 HC; replace HL := mk_keepB hw10 HL; replace HW := mk_below hw10 HW us
      clear hw10
      generalize w9.heap.size = nq at *
      have us := HW.size
      go_upto_region 17 with (first | (refine wpList_load_partX (m := 64) (q := 65) HX rfl 22 _ rfl rfl _ undW22 rfl (by kernel_rfl) (by omega) _ (fcells_congr (g := fun j => .int .u8 (xr j)) fun j _ => tabV_ir) ?_) | (refine wpList_alloc_blk rfl 22 rfl _ _ allocW22 ?_) | (refine wpList_store_blk_stop (Blk.new_at _ _ _ rfl) rfl _ _ _ rfl rfl rfl (by kernel_rfl) (fun j _ => rfl) ?_))
      intro w12 hw12
      replace hw12 := hw12.out
      have r1 : xq ≠ w10.heap.size := by have := HX.lt; omega
      have r2 : bq ≠ w10.heap.size := by have := HB.lt; omega
      have r3 : cq ≠ w10.heap.size := by have := HC.lt; omega
      have r4 : lq ≠ w10.heap.size := by have := HL.lt; omega
      have r5 : nq ≠ w10.heap.size := by have := HN.lt; omega
      have HV := mk_blk hw12; replace HX := mk_keepB hw12 HX; replace HB := mk_keepB hw12 HB; replace HC := mk_keepB hw12 HC; replace HL := mk_keepB hw12 HL; replace HN := mk_keepB hw12 HN; replace HW := mk_below hw12 HW us
      clear hw12
      generalize w10.heap.size = vq at *
      go_upto_if 68 with fail
      go_cut [68] (fun y wx => y = .bool intra ∧ Blk wx xq TAB 129 (tabV t xa xr) ∧ Blk wx vq 22 64 (fun j => .int .u8 (ws j)) ∧ Blk wx bq 27 64 (ival b) ∧ Blk wx cq 27 64 (ival cc) ∧ Blk wx lq 27 64 (ival ll) ∧ Blk wx nq 27 64 (ival nn) ∧ Below w.heap.size w wx)
      case first =>
        cases hin : intra
        · subst hin
          replace HV := HV.congr (g := fun j => .int .u8 (ws j)) (fun j _ => by rw [hwe.out j]; rfl)
          go_wp2_with fail
          go_meet
          exact ⟨rfl, HX, HV, HB, HC, HL, HN, HW⟩
        · subst hin
          go_wp2_with (first | (refine wpList_load_partX (m := 64) (q := 1) HX rfl 22 _ rfl rfl _ undW22 rfl (by kernel_rfl) (by omega) _ (fcells_congr (g := fun j => .int .u8 (xa j)) fun j hj => tabV_ia hj) ?_) | (refine wpList_store_blk_stop HV rfl _ _ _ rfl rfl rfl (by kernel_rfl) (fun j _ => rfl) ?_))
          intro w13 hw13
          replace hw13 := hw13.out
          replace HV : Blk w13 vq 22 64 (fun j => .int .u8 (ws j)) := by
            rw [← hw13]; exact (HV.setRow_same rfl).congr (fun j _ => by rw [hwe.out j]; rfl)
          replace HX : Blk w13 xq TAB 129 (tabV t xa xr) := by rw [← hw13]; exact HX.setRow (Ne.symm r1) _
          replace HB : Blk w13 bq 27 64 (ival b) := by rw [← hw13]; exact HB.setRow (Ne.symm r2) _
          replace HC : Blk w13 cq 27 64 (ival cc) := by rw [← hw13]; exact HC.setRow (Ne.symm r3) _
          replace HL : Blk w13 lq 27 64 (ival ll) := by rw [← hw13]; exact HL.setRow (Ne.symm r4) _
          replace HN : Blk w13 nq 27 64 (ival nn) := by rw [← hw13]; exact HN.setRow (Ne.symm r5) _
          replace HW : Below w.heap.size w w13 := by rw [← hw13]; exact below_setRow HW us _
          clear hw13
          go_wp2_with fail
          go_meet
          exact ⟨rfl, HX, HV, HB, HC, HL, HN, HW⟩
      case rest =>
        clear HX HV HB HC HL HN HW
        obtain ⟨rfl, HX, HV, HB, HC, HL, HN, HW⟩ := hcut
        have heq := fun W => eqs28 nn W
        go_upto_region 19 with fail
        refine wp_region_quiet_below (by kernel_rfl) (by kernel_rfl) ?_
        repeat (first | (go_big_quiet_want; refine quiet_load_row (m := 64) HN 27 _ rfl rfl _ und28 rfl (by kernel_rfl) (by omega) _ (fcells_from _ _) ?_; go_big_quiet_on; simp only [Act.put, List.setIfInBounds_toArray, List.set_cons_succ, List.set_cons_zero]) | (go_big_quiet_want; refine quiet_load_row (m := 64) HL 27 _ rfl rfl _ und28 rfl (by kernel_rfl) (by omega) _ (fcells_from _ _) ?_; go_big_quiet_on; simp only [Act.put, List.setIfInBounds_toArray, List.set_cons_succ, List.set_cons_zero]) | (go_big_quiet_want; refine quiet_load_row (m := 64) HV 22 _ rfl rfl _ undW22 rfl (by kernel_rfl) (by omega) (fcells 64 fun j => .int .u8 (ws j)) (fcells_congr fun j _ => by rw [Nat.zero_add]) ?_; go_big_quiet_on; simp only [Act.put, List.setIfInBounds_toArray, List.set_cons_succ, List.set_cons_zero]) | (go_big_quiet_step ((go_at_call 25; with_reducible exact Calls.regrown_of (hrn.out _)))))
        refine wpQuiet_nil ?_
        intro wq hwq
        replace hwq := Cls.below hwq
        replace HX := HX.later hwq; replace HV := HV.later hwq; replace HB := HB.later hwq; replace HC := HC.later hwq; replace HL := HL.later hwq; replace HN := HN.later hwq; replace HW := below_step HW hwq
        clear hwq
        clear heq
        go_wp2_with fail
        go_loopw [19, 78] (fun u i wr => ∃ k : Nat, k ≤ 64 ∧ i = .int .i64 (k : Int) ∧ u = .int .i64 (qs k) ∧ Blk wr xq TAB 129 (tabV t xa xr) ∧ Blk wr vq 22 64 (fun j => .int .u8 (ws j)) ∧ Blk wr bq 27 64 (ival b) ∧ Blk wr cq 27 64 (ival cc) ∧ Blk wr lq 27 64 (ival ll) ∧ Blk wr nq 27 64 (ival nn) ∧ Below w.heap.size w wr) (fun _ i _ => 64 - (intOf i).toNat)
        case atStart => exact ⟨0, by omega, rfl, by rw [hq00.out], HX, HV, HB, HC, HL, HN, HW⟩
        case round =>
          clear HX HV HB HC HL HN HW
          obtain ⟨k, hk, rfl, rfl, HX, HV, HB, HC, HL, HN, HW⟩ := hrel
          by_cases hk8 : k < 64
          · have i1 : (0 : Int) ≤ k := by omega
            have i2 : (k : Int) < 64 := by omega
            have hd : decide ((k : Int) < 64) = true := by simp; omega
            have c0 : wr.cell? ⟨vq, k, none⟩ = some (.int .u8 (ws k)) := HV.cell hk8
            have c1 : wr.cell? ⟨lq, k, none⟩ = some (.int .i64 (ll k)) := HL.cell hk8
            have c2 : wr.cell? ⟨cq, k, none⟩ = some (.int .i64 (cc k)) := HC.cell hk8
            have hst := hrs.out k hk8
            replace hst := Lib.hid hst
            obtain ⟨l1, l2⟩ := hlb.out k
            obtain ⟨s1, s2⟩ := hsb.out k hk8
            obtain ⟨q1, q2⟩ := hqb.out k
            obtain ⟨z1, z2⟩ := hqf.out
            have q3 : qs k ≤ 510000 := by omega
            clear q2
            have hnext := hqs.out k
            have hlk := hlq.out k hk8
            replace hnext := Lib.hid hnext; replace hlk := Lib.hid hlk
            have hl1 : decide (ll k < -2047) = false := by simp; omega
            have hl2 : decide (2047 < ll k) = false := by simp; omega
            have hdiv : ∀ (hn : ¬ (k = 0 ∧ intra = true)), Hid (IntKind.i64.wrap ((cc k).tdiv (ss k)) = ll k ∧ qs (k + 1) = qs k + (ss k - 1)) := fun hn => Lib.hid ⟨by rw [← hlk.out hn]; exact IntWalk.i64_in _ (by omega), by rw [hnext.out, if_neg hn]⟩
            have hpos : Hid (k = 0 ∧ intra = true → qs (k + 1) = qs k + qfirst Q / 2) := Lib.hid fun h => by rw [hnext.out, if_pos h]
            clear hnext hlk
            generalize hqk : qs k = S at *
            by_cases hz : k = 0
            · subst hz
              cases hin : intra
              · subst hin
                have hdv := hdiv (by simp )
                clear hdiv hpos
                replace hqk := Lib.hid hqk
                have e0 := fun p => (HL.re p).cell hk8; have e1 := fun p => (HC.re p).cell hk8
                unfold ival at e0 e1
                have hwr := hdv.out.1
                have hs0 : (ss 0 == 0) = false := by simp; omega
                go_upto_region 31 with (go_at_call 26; (with_reducible refine (hst.out _).mono ?_); rintro e w' ⟨rfl, rfl⟩)
                refine wp_region_quiet_below (by kernel_rfl) (by kernel_rfl) ?_
                repeat (go_big_quiet_step (fail))
                refine wpQuiet_nil ?_
                intro wq hwq
                replace hwq := Cls.below hwq
                clear e0 e1 hwr c0 c1 c2
                replace HX := HX.later hwq; replace HV := HV.later hwq; replace HB := HB.later hwq; replace HC := HC.later hwq; replace HL := HL.later hwq; replace HN := HN.later hwq; replace HW := below_step HW hwq
                clear hwq
                go_wp2_with fail
                exact ⟨⟨1, by omega, by go_num, by rw [hdv.out.2], HX, HV, HB, HC, HL, HN, HW⟩, by simp [intOf]⟩
              · subst hin
                have hps := hpos.out ⟨rfl, rfl⟩
                replace hps := Lib.hid hps
                clear hdiv hpos
                replace hqk := Lib.hid hqk
                go_wp2_with (first | (go_at_call 26; (with_reducible refine (hst.out _).mono ?_); rintro e w' ⟨rfl, rfl⟩) | (go_at_call 27; (with_reducible refine (hrf.out _).mono ?_); rintro e w' ⟨rfl, rfl⟩))
                exact ⟨⟨1, by omega, by go_num, by rw [hps.out], HX, HV, HB, HC, HL, HN, HW⟩, by simp [intOf]⟩
            · have hz' : ¬ (k : Int) = 0 := by omega
              have hdv := hdiv (by simp [hz])
              clear hdiv hpos
              replace hqk := Lib.hid hqk
              have e0 := fun p => (HL.re p).cell hk8; have e1 := fun p => (HC.re p).cell hk8
              unfold ival at e0 e1
              have hwr := hdv.out.1
              have hs0 : (ss k == 0) = false := by simp; omega
              go_upto_region 31 with (go_at_call 26; (with_reducible refine (hst.out _).mono ?_); rintro e w' ⟨rfl, rfl⟩)
              refine wp_region_quiet_below (by kernel_rfl) (by kernel_rfl) ?_
              repeat (go_big_quiet_step (fail))
              refine wpQuiet_nil ?_
              intro wq hwq
              replace hwq := Cls.below hwq
              clear e0 e1 hwr c0 c1 c2
              replace HX := HX.later hwq; replace HV := HV.later hwq; replace HB := HB.later hwq; replace HC := HC.later hwq; replace HL := HL.later hwq; replace HN := HN.later hwq; replace HW := below_step HW hwq
              clear hwq
              go_wp2_with fail
              exact ⟨⟨k + 1, by omega, by go_num, by rw [hdv.out.2], HX, HV, HB, HC, HL, HN, HW⟩, by simp [intOf]; omega⟩
          · obtain rfl : k = 64 := by omega
            have hd : decide (((64 : Nat) : Int) < 64) = false := by simp
            obtain ⟨q1, q2⟩ := hqb.out 64
            clear HV HC HL
            have her2 := her.out; have hinv2 := hinv.out
            clear her hinv
            generalize hqk : qs 64 = S at *
            replace hqk := Lib.hid hqk
            have s0 : 0 ≤ S / 64 := by omega
            have s1 : S / 64 ≤ 8000 := by omega
            clear q2
            replace her2 := Lib.hid her2; replace hinv2 := Lib.hid hinv2
            go_wp2_with (refine wpList_load_blkS HX rfl _ _ rfl rfl Try.underlying24 (by kernel_rfl) ?_)
            refine (her2.out _).mono ?_
            rintro e w14 ⟨rfl, hbl⟩
            replace HB := HB.later hbl; replace HN := HN.later hbl; replace HW := below_step HW hbl
            clear hbl
            go_wp2_with (refine wpList_load_blk HN rfl _ _ rfl rfl und28 (by kernel_rfl) ?_)
            refine (hiv.out _).mono ?_
            rintro e w15 ⟨rfl, hbl⟩
            replace HB := HB.later hbl; replace HW := below_step HW hbl
            clear hbl
            go_wp2_with fail
            go_loopw [129] (fun i wr => ∃ k : Nat, k ≤ 64 ∧ i = .int .i64 (k : Int) ∧ Blk wr bq 27 64 (ival b) ∧ Below w.heap.size w wr) (fun i _ => 64 - (intOf i).toNat)
            case atStart => exact ⟨0, by omega, rfl, HB, HW⟩
            case round =>
              clear HB HW
              obtain ⟨k, hk, rfl, HB, HW⟩ := hrel
              by_cases hk8 : k < 64
              · have i1 : (0 : Int) ≤ k := by omega
                have i2 : (k : Int) < 64 := by omega
                have hd : decide ((k : Int) < 64) = true := by simp; omega
                have hix : ∀ W, (Instr.index 27 (.agg (fcells 64 (ival ii))) (.int .i64 (k : Int))).run Try.prog W = .ok (.int .i64 (ii k)) W := fun W =>
                  run_index_fcells W _ _ 64 (ival ii) k und28 (by kernel_rfl) (by kernel_rfl) (by omega) (by omega)
                have c0 : wr.cell? ⟨bq, k, none⟩ = some (.int .i64 (b k)) := HB.cell hk8
                obtain ⟨v1, v2⟩ := hinv2.out k hk8
                obtain ⟨v3, v4⟩ := hbb.out k hk8
                have hmx : decide (S / 64 < imax (ii k - b k) (-(ii k - b k))) = false := by rw [imax_eq]; simp; omega
                go_wp2_with fail
                exact ⟨⟨k + 1, by omega, by go_num, HB, HW⟩, by simp [intOf]; omega⟩
              · obtain rfl : k = 64 := by omega
                have hd : decide (((64 : Nat) : Int) < 64) = false := by simp
                go_wp2_with fail
                go_ret
                exact ⟨rfl, HW⟩
end Go.Proofs.Ytbldgpemocnboaa

/- plane.Far, walked. -/
import Derived.Test.YtggdaefgaakijaaSameAt
import Derived.Test.YtggdaefgaakijaaGrw
namespace Go.Proofs.Ytggdaefgaakijaa
open Go.RowKit Go.Sort

theorem run_imax3 {P : Program} {w : World} (ts : Array TypeId) (t : TypeId) (k k' k'' : IntKind) (x y z : Int) : (Builtin.max_ ts t #[.int k x, .int k' y, .int k'' z]).run P w = .ok (.int k (imax (imax x y) z)) w := by
  have e : (Builtin.max_ ts t #[.int k x, .int k' y, .int k'' z]).run P w = (Builtin.max_ ts t #[.int k (imax x y), .int k'' z]).run P w := by
    simp [Builtin.max_, Builtin.max2, imax]
  rw [e, run_imax]
attribute [local go_sem ↓] run_imax run_imin run_imax3

/-- How far two rows of numbers are from each other, from s on. -/
def farIn (p q : Nat → Int) (s : Int) : Nat → Int
  | 0 => s
  | j + 1 => imax (imax (farIn p q s j) (p j - q j)) (q j - p j)
def farK (f g : Fr) (mb : Nat) : Nat → Int
  | 0 => 0
  | k + 1 => farIn (mbF f mb k) (mbF g mb k) (farK f g mb k) 64
theorem farIn_bd {p q : Nat → Int} {s : Int} (hs : 0 ≤ s ∧ s ≤ 255) (hp : ∀ i, 0 ≤ p i ∧ p i ≤ 255) (hq : ∀ i, 0 ≤ q i ∧ q i ≤ 255) (j : Nat) : 0 ≤ farIn p q s j ∧ farIn p q s j ≤ 255 := by
  induction j with
  | zero => exact hs
  | succ j ih =>
    have := hp j; have := hq j
    unfold farIn; rw [imax_eq, imax_eq]; omega
theorem farK_bd {f g : Fr} {w : World} (hM : f.Mem w) (hG : g.Mem w) (mb k : Nat) : 0 ≤ farK f g mb k ∧ farK f g mb k ≤ 255 := by
  induction k with
  | zero => unfold farK; omega
  | succ k ih => exact farIn_bd ih (mbF_bd hM mb k) (mbF_bd hG mb k) 64

abbrev A64 : TypeId := 44
set_option maxRecDepth 1000000 in
set_option maxHeartbeats 8000000 in
theorem far_of (f g : Fr) (mb : Nat) (w : World) (hM : f.Mem w) (hG : g.Mem w) (h1 : 0 < f.c) (h2 : 0 < g.c) (hm : mb ≤ 1000000) :
    Calls Try.prog 52 #[f.val, g.val, .int .i64 (mb : Int)] w fun e w' => e = .returned (.int .i64 (farK f g mb 6)) ∧ Below w.heap.size w w' := by
  have h3 := hM.hc; have h4 := hG.hc
  unfold Fr.val
  go_enter Try.func52, Try.ntmps52
  go_wp2_with fail
  have HF : Ob ((w.alloc (.cells f.cells FRT)).alloc (.cells g.cells FRT)) w.heap.size FRT f.cells := (Ob.new_at _ _ rfl).alloc _
  have HG : Ob ((w.alloc (.cells f.cells FRT)).alloc (.cells g.cells FRT)) (w.heap.size + 1) FRT g.cells := Ob.new_at _ _ (by simp)
  have HW : Below w.heap.size w ((w.alloc (.cells f.cells FRT)).alloc (.cells g.cells FRT)) := by ((repeat (first | exact Below.refl _ _ | assumption | refine Below.setCell ?_ (by first | omega | (simp; done) | (simp; omega)) _ | refine Below.alloc ?_ (by first | omega | (simp; done) | (simp; omega)) _ | refine below_drewN ?_ _ | refine Below.drew ?_ | refine below_setRow ?_ (by first | omega | (simp; done) | (simp; omega)) _)))
  replace hM := (hM.alloc (.cells f.cells FRT)).alloc (.cells g.cells FRT)
  replace hG := (hG.alloc (.cells f.cells FRT)).alloc (.cells g.cells FRT)
  generalize (w.alloc (.cells f.cells FRT)).alloc (.cells g.cells FRT) = w2 at *
  go_loopw [7, 18] (fun s i wr => ∃ k : Nat, k ≤ 6 ∧ i = .int .i64 k ∧ s = .int .i64 (farK f g mb k) ∧ Ob wr w.heap.size FRT f.cells ∧ Ob wr (w.heap.size + 1) FRT g.cells ∧ f.Mem wr ∧ g.Mem wr ∧ Below w.heap.size w wr) (fun _ i _ => 6 - (intOf i).toNat)
  case atStart => exact ⟨0, by omega, rfl, rfl, HF, HG, hM, hG, HW⟩
  case round =>
    clear HF HG hM hG HW
    obtain ⟨k, hk, rfl, rfl, HF, HG, hM, hG, HW⟩ := hrel
    have hbd := farK_bd hM hG mb k
    have hst := Lib.hid (show farK f g mb (k + 1) = farIn (mbF f mb k) (mbF g mb k) (farK f g mb k) 64 from rfl)
    generalize hS : farK f g mb k = S at *
    replace hS := Lib.hid hS
    by_cases hk6 : k < 6
    · have hd : decide ((k : Int) < 6) = true := by simp; omega
      have i1 : (0 : Int) ≤ k := by omega
      have hpb := Lib.hid (mbF_bd hM mb k)
      have hqb := Lib.hid (mbF_bd hG mb k)
      go_wp2_with (refine wpList_load_ob HF rfl _ _ rfl rfl Try.underlying58 (by kernel_rfl) ?_)
      refine (frBlock_any f mb k _ h1 h3 hm hk6).mono ?_
      rintro e w3 ⟨rfl, hb⟩
      replace HF := HF.later hb; replace HG := HG.later hb; replace hM := hM.later hb; replace hG := hG.later hb; replace HW := below_step HW hb
      clear hb
      unfold Fr.blkV
      go_wp2_with (refine wpList_load_ob (HG.alloc _) rfl _ _ rfl rfl Try.underlying58 (by kernel_rfl) ?_)
      have HP : Ob (w3.alloc (.cells #[.int .i64 (f.pw k : Int), .int .i64 (f.ph k : Int), .slice (some ⟨f.pb k, 0, none⟩) (f.pw k * f.ph k) (f.pc k)] PLT)) w3.heap.size PLT #[.int .i64 (f.pw k : Int), .int .i64 (f.ph k : Int), .slice (some ⟨f.pb k, 0, none⟩) (f.pw k * f.ph k) (f.pc k)] := Ob.new_at _ _ rfl
      replace HF := HF.alloc (.cells #[.int .i64 (f.pw k : Int), .int .i64 (f.ph k : Int), .slice (some ⟨f.pb k, 0, none⟩) (f.pw k * f.ph k) (f.pc k)] PLT)
      replace HG := HG.alloc (.cells #[.int .i64 (f.pw k : Int), .int .i64 (f.ph k : Int), .slice (some ⟨f.pb k, 0, none⟩) (f.pw k * f.ph k) (f.pc k)] PLT)
      replace hM := hM.alloc (.cells #[.int .i64 (f.pw k : Int), .int .i64 (f.ph k : Int), .slice (some ⟨f.pb k, 0, none⟩) (f.pw k * f.ph k) (f.pc k)] PLT)
      replace hG := hG.alloc (.cells #[.int .i64 (f.pw k : Int), .int .i64 (f.ph k : Int), .slice (some ⟨f.pb k, 0, none⟩) (f.pw k * f.ph k) (f.pc k)] PLT)
      replace HW := HW.alloc HW.size (.cells #[.int .i64 (f.pw k : Int), .int .i64 (f.ph k : Int), .slice (some ⟨f.pb k, 0, none⟩) (f.pw k * f.ph k) (f.pc k)] PLT)
      generalize w3.alloc (.cells #[.int .i64 (f.pw k : Int), .int .i64 (f.ph k : Int), .slice (some ⟨f.pb k, 0, none⟩) (f.pw k * f.ph k) (f.pc k)] PLT) = w4 at *
      generalize w3.heap.size = p1 at *
      refine (frBlock_any g mb k _ h2 h4 hm hk6).mono ?_
      rintro e w5 ⟨rfl, hb⟩
      replace HP := HP.later hb; replace HF := HF.later hb; replace HG := HG.later hb; replace hM := hM.later hb; replace hG := hG.later hb; replace HW := below_step HW hb
      clear hb
      unfold Fr.blkV
      go_wp2_with fail
      have HQ : Ob (w5.alloc (.cells #[.int .i64 (g.pw k : Int), .int .i64 (g.ph k : Int), .slice (some ⟨g.pb k, 0, none⟩) (g.pw k * g.ph k) (g.pc k)] PLT)) w5.heap.size PLT #[.int .i64 (g.pw k : Int), .int .i64 (g.ph k : Int), .slice (some ⟨g.pb k, 0, none⟩) (g.pw k * g.ph k) (g.pc k)] := Ob.new_at _ _ rfl
      replace HP := HP.alloc (.cells #[.int .i64 (g.pw k : Int), .int .i64 (g.ph k : Int), .slice (some ⟨g.pb k, 0, none⟩) (g.pw k * g.ph k) (g.pc k)] PLT)
      replace HF := HF.alloc (.cells #[.int .i64 (g.pw k : Int), .int .i64 (g.ph k : Int), .slice (some ⟨g.pb k, 0, none⟩) (g.pw k * g.ph k) (g.pc k)] PLT)
      replace HG := HG.alloc (.cells #[.int .i64 (g.pw k : Int), .int .i64 (g.ph k : Int), .slice (some ⟨g.pb k, 0, none⟩) (g.pw k * g.ph k) (g.pc k)] PLT)
      replace hM := hM.alloc (.cells #[.int .i64 (g.pw k : Int), .int .i64 (g.ph k : Int), .slice (some ⟨g.pb k, 0, none⟩) (g.pw k * g.ph k) (g.pc k)] PLT)
      replace hG := hG.alloc (.cells #[.int .i64 (g.pw k : Int), .int .i64 (g.ph k : Int), .slice (some ⟨g.pb k, 0, none⟩) (g.pw k * g.ph k) (g.pc k)] PLT)
      replace HW := HW.alloc HW.size (.cells #[.int .i64 (g.pw k : Int), .int .i64 (g.ph k : Int), .slice (some ⟨g.pb k, 0, none⟩) (g.pw k * g.ph k) (g.pc k)] PLT)
      generalize w5.alloc (.cells #[.int .i64 (g.pw k : Int), .int .i64 (g.ph k : Int), .slice (some ⟨g.pb k, 0, none⟩) (g.pw k * g.ph k) (g.pc k)] PLT) = w6 at *
      generalize w5.heap.size = p2 at *
      apply wp_region_grow2 10 [] 8 15 9 16 A64 A64 (fcells 64 (ival fun _ => 0)) (fcells 64 (ival fun _ => 0))
      case hm => kernel_rfl
      case hB => kernel_rfl
      case hp => kernel_rfl
      case hlo => kernel_rfl
      case hne => decide
      case hop1 => kernel_rfl
      case hop2 => kernel_rfl
      case hz1 => exact alloc28
      case hz2 => exact alloc28
      case hF =>
        intro w1 hw1
        have c0 : ∀ p : Regrown, (Sort.grow (redrawn w1 p.d) p.os).cell? ⟨p1, 0, none⟩ = some (.int .i64 (f.pw k : Int)) := fun p => ((HP.later hw1).re p).plW
        have c1 : ∀ p : Regrown, (Sort.grow (redrawn w1 p.d) p.os).cell? ⟨p1, 1, none⟩ = some (.int .i64 (f.ph k : Int)) := fun p => ((HP.later hw1).re p).plH
        have c2 : ∀ p : Regrown, (Sort.grow (redrawn w1 p.d) p.os).cell? ⟨p1, 2, none⟩ = some (.slice (some ⟨f.pb k, 0, none⟩) (f.pw k * f.ph k) (f.pc k)) := fun p => ((HP.later hw1).re p).plS
        have c3 : ∀ p : Regrown, (Sort.grow (redrawn w1 p.d) p.os).cell? ⟨p2, 0, none⟩ = some (.int .i64 (g.pw k : Int)) := fun p => ((HQ.later hw1).re p).plW
        have c4 : ∀ p : Regrown, (Sort.grow (redrawn w1 p.d) p.os).cell? ⟨p2, 1, none⟩ = some (.int .i64 (g.ph k : Int)) := fun p => ((HQ.later hw1).re p).plH
        have c5 : ∀ p : Regrown, (Sort.grow (redrawn w1 p.d) p.os).cell? ⟨p2, 2, none⟩ = some (.slice (some ⟨g.pb k, 0, none⟩) (g.pw k * g.ph k) (g.pc k)) := fun p => ((HQ.later hw1).re p).plS
        replace hM := hM.later hw1; replace hG := hG.later hw1
        simp only [List.take_succ_cons, List.take_zero, muteG, mute, isAlloc, List.contains_nil, Nat.reduceAdd, Nat.zero_add, ↓reduceIte, Bool.false_eq_true]
        repeat (go_big_quiet_step (first | (go_at_call 30; with_reducible exact Calls.regrown_of (plBlock_any f mb k _ (hM.later (below_regrown _ _ _)) hm hk6)) | (go_at_call 30; with_reducible exact Calls.regrown_of (plBlock_any g mb k _ (hG.later (below_regrown _ _ _)) hm hk6))))
        exact wpQuiet_nil rfl
      case hG =>
        simp only [List.filterMap_nil]
        intro w7 hw7 b1 b2 hb1 hb2 hne HX HY
        have s0 := HW.size; have s2 := HF.lt; have s3 := HG.lt
        have t1 := hM.y.lt; have t2 := hM.u.lt; have t3 := hM.v.lt
        have t4 := hG.y.lt; have t5 := hG.u.lt; have t6 := hG.v.lt
        replace HF := HF.later hw7; replace HG := HG.later hw7; replace hM := hM.later hw7; replace hG := hG.later hw7; replace HW := below_step HW hw7
        simp only [ptrAt, Act.put, List.setIfInBounds_toArray, List.set_cons_succ, List.set_cons_zero]
        clear hw7 HP HQ
        have HX2 : Blk w7 b1 A64 64 (ival fun _ => 0) := HX
        have HY2 : Blk w7 b2 A64 64 (ival fun _ => 0) := HY
        clear HX HY
        refine wpList_store_blk HX2 rfl _ _ _ rfl rfl rfl (by kernel_rfl) (fun j _ => rfl) ?_
        simp only [Act.put]
        refine wpList_store_blk (HY2.setRow hne _) rfl _ _ _ rfl rfl rfl (by kernel_rfl) (fun j _ => rfl) ?_
        go_wp2_with fail
        have HX := (HX2.setRow_same (m := 64) (g := ival (mbF f mb k)) rfl).setRow hne.symm (fcells 64 (ival (mbF g mb k)))
        have HY := (HY2.setRow hne (fcells 64 (ival (mbF f mb k)))).setRow_same (m := 64) (g := ival (mbF g mb k)) rfl
        replace HF := (HF.setRow (c := b1) (by omega) (fcells 64 (ival (mbF f mb k)))).setRow (c := b2) (by omega) (fcells 64 (ival (mbF g mb k)))
        replace HG := (HG.setRow (c := b1) (by omega) (fcells 64 (ival (mbF f mb k)))).setRow (c := b2) (by omega) (fcells 64 (ival (mbF g mb k)))
        replace hM := (hM.setRow (c := b1) (by omega) (by omega) (by omega) (fcells 64 (ival (mbF f mb k)))).setRow (c := b2) (by omega) (by omega) (by omega) (fcells 64 (ival (mbF g mb k)))
        replace hG := (hG.setRow (c := b1) (by omega) (by omega) (by omega) (fcells 64 (ival (mbF f mb k)))).setRow (c := b2) (by omega) (by omega) (by omega) (fcells 64 (ival (mbF g mb k)))
        replace HW := below_setRow (below_setRow HW (b := b1) (by omega) (fcells 64 (ival (mbF f mb k)))) (b := b2) (by omega) (fcells 64 (ival (mbF g mb k)))
        clear HX2 HY2 s0 s2 s3 t1 t2 t3 t4 t5 t6 hb1 hb2
        generalize (w7.setRow b1 (fcells 64 (ival (mbF f mb k)))).setRow b2 (fcells 64 (ival (mbF g mb k))) = w8 at *
        generalize mbF f mb k = p at *
        generalize mbF g mb k = q at *
        go_loopw [7, 45] (fun s i wr => ∃ j : Nat, j ≤ 64 ∧ i = .int .i64 j ∧ s = .int .i64 (farIn p q S j) ∧ Blk wr b1 A64 64 (ival p) ∧ Blk wr b2 A64 64 (ival q) ∧ Ob wr w.heap.size FRT f.cells ∧ Ob wr (w.heap.size + 1) FRT g.cells ∧ f.Mem wr ∧ g.Mem wr ∧ Below w.heap.size w wr) (fun _ i _ => 64 - (intOf i).toNat)
        case atStart => exact ⟨0, by omega, rfl, rfl, HX, HY, HF, HG, hM, hG, HW⟩
        case round =>
          clear HX HY HF HG hM hG HW
          obtain ⟨j, hj, rfl, rfl, HX, HY, HF, HG, hM, hG, HW⟩ := hrel
          have fb := farIn_bd hbd hpb.out hqb.out j
          have hst2 := Lib.hid (show farIn p q S (j + 1) = imax (imax (farIn p q S j) (p j - q j)) (q j - p j) from rfl)
          generalize hS2 : farIn p q S j = S2 at *
          replace hS2 := Lib.hid hS2
          by_cases hj8 : j < 64
          · have hd : decide ((j : Int) < 64) = true := by simp; omega
            have i2 : (0 : Int) ≤ j := by omega
            have i3 : (j : Int) < 64 := by omega
            have pb := hpb.out j
            have qb := hqb.out j
            go_wp2_with fail
            have c0 : ∀ p' : Regrown, (Sort.grow (redrawn wr p'.d) p'.os).cell? ⟨b1, j, none⟩ = some (.int .i64 (p j)) := fun p' => (HX.re p').cell hj8
            have c1 : ∀ p' : Regrown, (Sort.grow (redrawn wr p'.d) p'.os).cell? ⟨b2, j, none⟩ = some (.int .i64 (q j)) := fun p' => (HY.re p').cell hj8
            refine wp_region_quiet_below (by kernel_rfl) (by kernel_rfl) ?_
            repeat (go_big_quiet_step (fail))
            refine wpQuiet_nil ?_
            intro wq hwq
            replace hwq := Cls.below hwq
            replace HX := HX.later hwq; replace HY := HY.later hwq; replace HF := HF.later hwq; replace HG := HG.later hwq; replace hM := hM.later hwq; replace hG := hG.later hwq; replace HW := below_step HW hwq
            clear hwq c0 c1
            go_wp2_with fail
            exact ⟨⟨j + 1, by omega, by go_num, by rw [hst2.out], HX, HY, HF, HG, hM, hG, HW⟩, by simp [intOf]; omega⟩
          · obtain rfl : j = 64 := by omega
            go_wp2_with fail
            exact ⟨⟨k + 1, by omega, by go_num, by rw [hst.out, hS2.out], HF, HG, hM, hG, HW⟩, by simp [intOf]; omega⟩
    · obtain rfl : k = 6 := by omega
      go_wp2_with fail
      go_ret
      exact ⟨ret_int hS.out.symm, HW⟩
end Go.Proofs.Ytggdaefgaakijaa

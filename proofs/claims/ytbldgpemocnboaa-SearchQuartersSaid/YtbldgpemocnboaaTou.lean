/- comp.Touches, walked: which macroblocks one is made of, rising. Condition: whole numbers from -32 to 32, up to eight by eight macroblocks. -/
import Derived.Test.YtbldgpemocnboaaTouM
import Derived.Test.YtbldgpemocnboaaPred
import Derived.Test.YtbldgpemocnboaaDm
import Derived.Maps.OwnOps
namespace Go.Proofs.Ytbldgpemocnboaa
open Go.RowKit Go.Sort Go.Maps
attribute [local go_sem ↓] run_imax run_imin

theorem undMap : Try.prog.underlying 138 = some (.map 3 4) := by kernel_rfl
theorem lawInt : Keyed Try.prog 3 := int_keyed Try.underlying3
def plZ : Array Value := #[.int .i64 0, .int .i64 0, .slice none 0 0]
def fzC (c r : Int) : Array Value := #[.int .i64 c, .int .i64 r, .int .i64 0, .int .i64 0, .slice none 0 0, .int .i64 0, .int .i64 0, .slice none 0 0, .int .i64 0, .int .i64 0, .slice none 0 0]
set_option maxRecDepth 100000 in
set_option maxHeartbeats 1000000 in
theorem frBlock0 (c r0 mb k : Nat) (r : Int) (w : World) (h1 : 0 < c) (h2 : c ≤ 8) (hm : mb ≤ 1000000) (hk : k < 5) :
    Calls Try.prog 52 #[.agg (fzC c r), .int .i64 (mb : Int), .int .i64 (k : Int)] w fun e w' => e = .returned (.tuple #[.agg plZ, .int .i64 ((fz c r0).px mb k), .int .i64 ((fz c r0).py mb k)]) ∧ Below w.heap.size w w' := by
  obtain ⟨m1, m2, m3, m4⟩ := mb_bd mb c hm
  have hi : imax (c : Int) 1 = c := by rw [imax_eq]; omega
  unfold Fr.px Fr.py fz fzC plZ
  by_cases h4 : k < 4
  · simp only [if_pos h4]
    have hk1 : decide ((k : Int) < 4) = true := by simp; omega
    have hk2 : (0 : Int) ≤ k := by omega
    go_enter Try.func52, Try.ntmps52
    go_wp2_with fail
    replace hi := Lib.hid hi
    go_quiet (fail)
    go_wp2_with fail
    exact bodyPost_ret (v := .tuple #[.agg _, .int .i64 _, .int .i64 _]) (by simp [results, Try.results52, go_sem]) rfl ⟨rfl, by ((repeat (first | exact Below.refl _ _ | assumption | refine Below.setCell ?_ (by first | omega | (simp; done) | (simp; omega)) _ | refine Below.alloc ?_ (by first | omega | (simp; done) | (simp; omega)) _ | refine below_drewN ?_ _ | refine Below.drew ?_ | refine below_setRow ?_ (by first | omega | (simp; done) | (simp; omega)) _)))⟩
  · obtain rfl : k = 4 := by omega
    simp only [if_neg h4]
    go_enter Try.func52, Try.ntmps52
    go_wp2_with fail
    replace hi := Lib.hid hi
    go_quiet (fail)
    go_wp2_with fail
    exact bodyPost_ret (v := .tuple #[.agg _, .int .i64 _, .int .i64 _]) (by simp [results, Try.results52, go_sem]) rfl ⟨rfl, by ((repeat (first | exact Below.refl _ _ | assumption | refine Below.setCell ?_ (by first | omega | (simp; done) | (simp; omega)) _ | refine Below.alloc ?_ (by first | omega | (simp; done) | (simp; omega)) _ | refine below_drewN ?_ _ | refine Below.drew ?_ | refine below_setRow ?_ (by first | omega | (simp; done) | (simp; omega)) _)))⟩
theorem Wr.of_grown {w w' : World} {b : Nat} (h : w.grownBy w' (some b)) : Wr b w w' := ⟨h.os, h.tape, h.output, h.size, fun k hk hne => h.block k hk (by intro e; exact hne (Option.some.inj e))⟩
theorem laterB_aux {H : Type} {P : Program} {k : TypeId} {R : Value → Option (DataW H × List MemPlace)} {w w' : World} {b n : Nat} {D : DataW H} (h : w.ownsMap P k R b n D) (hb : Below w.heap.size w w') : w'.ownsMap P k R b n D := by
  have hlt := h.lt
  obtain ⟨es, clock, hh, F, hs, hD⟩ := h
  exact ⟨es, clock, (hb.block b hlt).trans hh, F, hs, hD⟩
theorem owns_size {H : Type} {P : Program} {k : TypeId} {R : Value → Option (DataW H × List MemPlace)} {w : World} {b n : Nat} {D : DataW H} (h : w.ownsMap P k R b n D) : Maps.size D ≤ n := by
  obtain ⟨es, clock, hh, F, hs, rfl⟩ := h
  rw [Maps.size_eq, length_sorted, List.length_map, Array.length_toList]; exact hs
/-- The step of a range over a map whose keys are integers. -/
theorem wpList_next_keys {H : Type} {P : Program} (w : World) {ops : Array Oper} {rest : List Oper} {o : Oper} {a : Act} {Q : Exit → Act → World → Prop} (hg : o.guard = none) (it : Operand) (hop : o.op = Op.next it false) (k : TypeId) (qk : IntKind) (K : Keyed P k) (hk : P.underlying k = some (.int qk))
    (R : Value → Option (DataW H × List MemPlace)) (b r n : Nat) (D : DataW H) (left : Lit → Bool) (cnt : Nat) (hit : a.eval it = .pointer (some ⟨r, 0, none⟩)) (h : w.ranges P k R b r n D left cnt)
    (hDone : cnt = 0 → (∀ kl, left kl = false) → wpList P ops Q rest (a.put o.dst (.tuple #[.bool false])) w)
    (hMore : ∀ (x : Int) (c : Value) (d : DataW H) (w' : World) (cnt' : Nat), (Lit.int qk x).wf = true → left (.int qk x) = true → (∀ zd, D.atKey (.int qk x) zd = d) → w'.ranges P k R b r n D (fun z => left z && !z.sameKey (.int qk x)) cnt' → cnt' < cnt →
      w.grownBy w' (some r) → w'.heap.size = w.heap.size → (Instr.entry (.pointer (some ⟨r, 0, none⟩))).run P w' = .ok (.tuple #[.int qk x, c]) w' → wpList P ops Q rest (a.put o.dst (.tuple #[.bool true, .int qk x, c])) w') :
    wpList P ops Q (o :: rest) a w :=
  wpList_next_ranges w hg it hop k K R (Value.int qk) (fun v : Value => v) (fun key kl hkey => by obtain ⟨x, rfl, _⟩ := Maps.keyOf_int_inv hk hkey; exact ⟨x, rfl⟩) (fun v _ _ => ⟨v, rfl⟩)
    b r n D left cnt hit h hDone (fun x c kl y w' cnt' hkey hlk hv hat hrg hlt hgr hsz hen => by
      obtain ⟨x', ex, rfl, hwx⟩ := Maps.keyOf_int_inv hk hkey
      cases ex
      exact hMore x c y.1 w' cnt' hwx hlk hat hrg hlt hgr hsz hen)
/-- What Touches gives. -/
def TouP (c r mb : Nat) (X Y : Nat → Int) (w : World) (e : Ending) (w' : World) : Prop :=
  ∃ (g cap : Nat) (L : List Int), e = .returned (.slice (some ⟨g, 0, none⟩) L.length cap) ∧ w.heap.size ≤ g ∧ 0 < L.length ∧ L.length ≤ 6000 ∧ L.Pairwise (· < ·) ∧ (∀ x, x ∈ L ↔ ∃ z : Nat, x = (z : Int) ∧ touched c r mb X Y z) ∧ VB w' g 3 L.length (fun k => .int .i64 (L.getD k 0)) ∧ Below w.heap.size w w'
/-- The keys so far. -/
def KS (D : DataW Unit) (S : Nat → Prop) : Prop := KeySet D (fun x => ∃ z : Nat, x = (z : Int) ∧ S z)

set_option maxRecDepth 1000000 in
set_option maxHeartbeats 8000000 in
theorem touches_any (c r mb : Nat) (X Y : Nat → Int) (w : World) (h1 : 0 < c) (h2 : c ≤ 8) (h3 : 0 < r) (h4 : r ≤ 8) (hm : mb ≤ 1000000) (hV : V4b X Y) :
    Calls Try.prog 72 #[.int .i64 (c : Int), .int .i64 (r : Int), .int .i64 (mb : Int), .agg (fcells 4 (vc4 X Y))] w (TouP c r mb X Y w) := by
  replace hV := Lib.hid hV
  have hmm := @run_makeMap Try.prog
  obtain ⟨i0, hi, hz0, hz1, hz2⟩ := info_parts infoInt
  have ic : imax (c : Int) 1 = c := by rw [imax_eq]; omega
  have ir : imax (r : Int) 1 = r := by rw [imax_eq]; omega
  go_enter Try.func72, Try.ntmps72
  go_wp2_with fail
  clear ic ir
  generalize hw2 : ((w.alloc (.cells (fcells 4 (vc4 X Y)) 63)).alloc (.map #[] 0)).alloc (.cells #[.int .i64 (c : Int), .int .i64 (r : Int), .int .i64 0, .int .i64 0, .slice none 0 0, .int .i64 0, .int .i64 0, .slice none 0 0, .int .i64 0, .int .i64 0, .slice none 0 0] FRT) = w2
  have HV : Blk w2 w.heap.size 63 4 (vc4 X Y) := by rw [← hw2]; exact ((Blk.new_at _ _ _ rfl).alloc _).alloc _
  have HO : w2.ownsMap Try.prog 3 (plainElem Try.prog 4) (w.heap.size + 1) 0 (.map [] : DataW Unit) := by
    rw [← hw2]
    have := World.ownsMap_made (H := Unit) (w.alloc (.cells (fcells 4 (vc4 X Y)) 63)) Try.prog 3 (plainElem Try.prog 4)
    rw [show (w.alloc (.cells (fcells 4 (vc4 X Y)) 63)).heap.size = w.heap.size + 1 by simp] at this
    exact this.alloc _
  have HF : Ob w2 (w.heap.size + 1 + 1) FRT #[.int .i64 (c : Int), .int .i64 (r : Int), .int .i64 0, .int .i64 0, .slice none 0 0, .int .i64 0, .int .i64 0, .slice none 0 0, .int .i64 0, .int .i64 0, .slice none 0 0] := by rw [← hw2]; exact Ob.new_at _ _ (by simp)
  have HW : Below w.heap.size w w2 := by rw [← hw2]; ((repeat (first | exact Below.refl _ _ | assumption | refine Below.setCell ?_ (by first | omega | (simp; done) | (simp; omega)) _ | refine Below.alloc ?_ (by first | omega | (simp; done) | (simp; omega)) _ | refine below_drewN ?_ _ | refine Below.drew ?_ | refine below_setRow ?_ (by first | omega | (simp; done) | (simp; omega)) _)))
  clear hw2
  have HK : KS (.map []) (upTo c r mb X Y 0) := KeySet.none.congr fun z => ⟨fun h => h.elim, fun ⟨_, _, h⟩ => upTo_zero h⟩
  go_loopw [35] (fun i wr => ∃ (k n : Nat) (D : DataW Unit), k ≤ 5 ∧ n ≤ 1000 * k ∧ i = .int .i64 k ∧ KS D (upTo c r mb X Y k) ∧ wr.ownsMap Try.prog 3 (plainElem Try.prog 4) (w.heap.size + 1) n D ∧ Blk wr w.heap.size 63 4 (vc4 X Y) ∧ Ob wr (w.heap.size + 1 + 1) FRT #[.int .i64 (c : Int), .int .i64 (r : Int), .int .i64 0, .int .i64 0, .slice none 0 0, .int .i64 0, .int .i64 0, .slice none 0 0, .int .i64 0, .int .i64 0, .slice none 0 0] ∧ Below w.heap.size w wr) (fun i _ => 5 - (intOf i).toNat)
  case atStart => exact ⟨0, 0, _, by omega, by omega, rfl, HK, HO, HV, HF, HW⟩
  case round =>
    clear HV HO HF HW HK
    obtain ⟨k, n, D, hk, hn, rfl, HK, HO, HV, HF, HW⟩ := hrel
    by_cases hk5 : k < 5
    · have hd : decide ((k : Int) < 5) = true := by simp; omega
      go_wp2_with (refine wpList_load_blk HV rfl 63 _ rfl rfl und63 (by kernel_rfl) ?_)
      refine (colour_any X Y _ hV.out).mono ?_
      rintro e w3 ⟨rfl, hb⟩
      replace HO := laterB_aux HO hb; replace HV := HV.later hb; replace HF := HF.later hb; replace HW := below_step HW hb
      clear hb hd
      unfold vcV
      go_upto_if 41 with fail
      go_cut [12, 13] (fun t u wx => t = vcV (vk X k) (vk Y k) ∧ u = .int .i64 (szb k : Int) ∧ wx = w3)
      case first =>
        by_cases h4 : k < 4
        · have d4 : decide ((k : Int) < 4) = true := by simp; omega
          have c5 := HV.cell h4
          have e : szb k = 16 := by unfold szb; rw [if_pos h4]
          replace e := Lib.hid e
          unfold vc4 vcV at c5
          go_wp2_with fail
          go_meet
          exact ⟨by unfold vk vcV; rw [if_pos h4, if_pos h4], by rw [e.out]; rfl, rfl⟩
        · have d4 : decide ((k : Int) < 4) = false := by simp; omega
          have e : szb k = 8 := by unfold szb; rw [if_neg h4]
          replace e := Lib.hid e
          go_wp2_with fail
          go_meet
          exact ⟨by unfold vk vcV; rw [if_neg h4, if_neg h4], by rw [e.out]; rfl, rfl⟩
      case rest =>
        obtain ⟨rfl, rfl, rfl⟩ := hcut
        obtain ⟨⟨v1, v2⟩, v3, v4⟩ := vk_bd hV.out k
        have hS := szb_or k
        obtain ⟨x1, x2, x3⟩ := tx_bd (c := c) (r := r) (mb := mb) (X := X) h1 k
        obtain ⟨y1, y2, y3⟩ := ty_bd (c := c) (r := r) (mb := mb) (Y := Y) h3 k
        obtain ⟨p1, p2, p3, p4⟩ := (fz c r).pxy_bd (k := k) hm (by omega)
        have hsx : ∀ W, Calls Try.prog 113 #[.int .i64 ((fz c r).px mb k), .int .i64 (vk X k), .int .i64 ((szb k : Int) * (c : Int))] W fun e w' => e = .returned (.tuple #[.int .i64 (((tx0 c r mb X k).toNat : Nat) : Int), .int .i64 (((tx1 c r mb X k).toNat : Nat) : Int)]) ∧ w' = W := fun W => by
          have h := span_any ((fz c r).px mb k) (vk X k) ((szb k : Int) * (c : Int)) W (by omega) (by omega) (by omega) (by omega) (by rcases hS with h | h <;> rw [h] <;> omega) (by rcases hS with h | h <;> rw [h] <;> omega)
          rw [Int.toNat_of_nonneg x1, Int.toNat_of_nonneg (by omega)]
          exact h.mono fun e w' h => ⟨h.1, h.2.symm⟩
        have hsy : ∀ W, Calls Try.prog 113 #[.int .i64 ((fz c r).py mb k), .int .i64 (vk Y k), .int .i64 ((szb k : Int) * (r : Int))] W fun e w' => e = .returned (.tuple #[.int .i64 (((ty0 c r mb Y k).toNat : Nat) : Int), .int .i64 (((ty1 c r mb Y k).toNat : Nat) : Int)]) ∧ w' = W := fun W => by
          have h := span_any ((fz c r).py mb k) (vk Y k) ((szb k : Int) * (r : Int)) W (by omega) (by omega) (by omega) (by omega) (by rcases hS with h | h <;> rw [h] <;> omega) (by rcases hS with h | h <;> rw [h] <;> omega)
          rw [Int.toNat_of_nonneg y1, Int.toNat_of_nonneg (by omega)]
          exact h.mono fun e w' h => ⟨h.1, h.2.symm⟩
        have hfb := fun W => frBlock0 c r mb k (r : Int) W h1 h2 hm hk5
        have q1 := q_lt hS (by omega) x3
        have q2 := q_lt hS (by omega) y3
        have q3 : (tx0 c r mb X k).toNat / szb k ≤ (tx1 c r mb X k).toNat / szb k := Nat.div_le_div_right (by omega)
        have q4 : (ty0 c r mb Y k).toNat / szb k ≤ (ty1 c r mb Y k).toNat / szb k := Nat.div_le_div_right (by omega)
        have s1 : ∀ z, rowTo c r mb X Y k ((ty0 c r mb Y k).toNat / szb k) z ↔ upTo c r mb X Y k z := fun z => rowTo_start
        have s2 : ∀ z, rowTo c r mb X Y k ((ty1 c r mb Y k).toNat / szb k + 1) z ↔ upTo c r mb X Y (k + 1) z := fun z => rowTo_last rfl
        have s3 : ∀ j z, colTo c r mb X Y k j ((tx0 c r mb X k).toNat / szb k) z ↔ rowTo c r mb X Y k j z := fun j z => colTo_start
        have s4 : ∀ j, (ty0 c r mb Y k).toNat / szb k ≤ j → ∀ z, colTo c r mb X Y k j ((tx1 c r mb X k).toNat / szb k + 1) z ↔ rowTo c r mb X Y k (j + 1) z := fun j hj z => colTo_last rfl hj
        have s5 : ∀ j i, (tx0 c r mb X k).toNat / szb k ≤ i → ∀ z, colTo c r mb X Y k j (i + 1) z ↔ (colTo c r mb X Y k j i z ∨ z = j * c + i) := fun j i hi z => colTo_step hi
        generalize hx0 : (tx0 c r mb X k).toNat = x0 at *
        generalize hx1 : (tx1 c r mb X k).toNat = xl at *
        generalize hy0 : (ty0 c r mb Y k).toNat = y0 at *
        generalize hy1 : (ty1 c r mb Y k).toNat = yl at *
        clear hx0 hx1 hy0 hy1 x1 x2 x3 y1 y2 y3
        generalize hP : (fz c r).px mb k = px at *
        generalize hQ : (fz c r).py mb k = py at *
        clear hP hQ
        generalize szb k = S at *
        have ex0 : (x0 : Int) / (S : Int) = ((x0 / S : Nat) : Int) := (Int.natCast_ediv x0 S).symm
        have ex1 : (xl : Int) / (S : Int) = ((xl / S : Nat) : Int) := (Int.natCast_ediv xl S).symm
        have ey0 : (y0 : Int) / (S : Int) = ((y0 / S : Nat) : Int) := (Int.natCast_ediv y0 S).symm
        have ey1 : (yl : Int) / (S : Int) = ((yl / S : Nat) : Int) := (Int.natCast_ediv yl S).symm
        generalize x0 / S = a0 at *
        generalize xl / S = a1 at *
        generalize y0 / S = b0 at *
        generalize yl / S = b1 at *
        have hsc : 0 ≤ (S : Int) * (c : Int) ∧ (S : Int) * (c : Int) ≤ 128 := by rcases hS with rfl | rfl <;> omega
        have hsr : 0 ≤ (S : Int) * (r : Int) ∧ (S : Int) * (r : Int) ≤ 128 := by rcases hS with rfl | rfl <;> omega
        obtain ⟨sc1, sc2⟩ := hsc; obtain ⟨sr1, sr2⟩ := hsr
        have S1 : (8 : Int) ≤ S := by omega
        have S2 : (S : Int) ≤ 16 := by omega
        have hz : ((S : Int) == 0) = false := by simp; omega
        replace hsx := Lib.hid hsx; replace hsy := Lib.hid hsy; replace hfb := Lib.hid hfb; replace hS := Lib.hid hS
        replace s1 := Lib.hid s1; replace s2 := Lib.hid s2; replace s3 := Lib.hid s3; replace s4 := Lib.hid s4; replace s5 := Lib.hid s5
        go_wp2_with fail
        refine (parts_any (vk X k) (vk Y k) _ (by omega) (by omega)).mono ?_
        rintro e w4 ⟨rfl, rfl⟩
        go_wp2_with (refine wpList_load_ob_g HF rfl 43 _ rfl rfl Try.underlying43 (by kernel_rfl) ?_)
        refine (hfb.out _).mono ?_
        rintro e w5 ⟨rfl, hb⟩
        replace HO := laterB_aux HO hb; replace HV := HV.later hb; replace HF := HF.later hb; replace HW := below_step HW hb
        clear hb
        unfold plZ
        go_upto_region 12 with fail
        replace HO := HO.alloc (.cells #[.int .i64 0, .int .i64 0, .slice none 0 0] PLT); replace HV := HV.alloc (.cells #[.int .i64 0, .int .i64 0, .slice none 0 0] PLT); replace HF := HF.alloc (.cells #[.int .i64 0, .int .i64 0, .slice none 0 0] PLT); replace HW := HW.alloc HW.size (.cells #[.int .i64 0, .int .i64 0, .slice none 0 0] PLT)
        generalize w5.alloc (.cells #[.int .i64 0, .int .i64 0, .slice none 0 0] PLT) = w6 at *
        generalize w5.heap.size = pp at *
        go_wp2_with fail
        refine (hsx.out _).mono ?_
        rintro e w7 ⟨rfl, rfl⟩
        go_wp2_with fail
        refine (hsy.out _).mono ?_
        rintro e w8 ⟨rfl, rfl⟩
        clear sc1 sc2 sr1 sr2 hsx hsy hfb
        replace HK : KS D (rowTo c r mb X Y k b0) := HK.congr fun x => ⟨fun ⟨z, e, h⟩ => ⟨z, e, (s1.out z).2 h⟩, fun ⟨z, e, h⟩ => ⟨z, e, (s1.out z).1 h⟩⟩
        go_wp2_with fail
        go_loopw [23] (fun t wr => ∃ (j n : Nat) (D : DataW Unit), b0 ≤ j ∧ j ≤ b1 + 1 ∧ n ≤ 1000 * k + 100 * j ∧ t = .int .i64 j ∧ KS D (rowTo c r mb X Y k j) ∧ wr.ownsMap Try.prog 3 (plainElem Try.prog 4) (w.heap.size + 1) n D ∧ Blk wr w.heap.size 63 4 (vc4 X Y) ∧ Ob wr (w.heap.size + 1 + 1) FRT #[.int .i64 (c : Int), .int .i64 (r : Int), .int .i64 0, .int .i64 0, .slice none 0 0, .int .i64 0, .int .i64 0, .slice none 0 0, .int .i64 0, .int .i64 0, .slice none 0 0] ∧ Below w.heap.size w wr) (fun t _ => b1 + 1 - (intOf t).toNat)
        case atStart => exact ⟨b0, n, D, by omega, by omega, by omega, rfl, HK, HO, HV, HF, HW⟩
        case round =>
          clear HV HO HF HW HK
          obtain ⟨j, n, D, hj0, hj1, hn, rfl, HK, HO, HV, HF, HW⟩ := hrel
          by_cases hjb : j ≤ b1
          · have hd : decide ((j : Int) ≤ (b1 : Int)) = true := by simp; omega
            replace HK : KS D (colTo c r mb X Y k j a0) := HK.congr fun x => ⟨fun ⟨z, e, h⟩ => ⟨z, e, (s3.out j z).2 h⟩, fun ⟨z, e, h⟩ => ⟨z, e, (s3.out j z).1 h⟩⟩
            go_wp2_with fail
            clear hd
            go_loopw [24] (fun t wr => ∃ (i n : Nat) (D : DataW Unit), a0 ≤ i ∧ i ≤ a1 + 1 ∧ n ≤ 1000 * k + 100 * j + i ∧ t = .int .i64 i ∧ KS D (colTo c r mb X Y k j i) ∧ wr.ownsMap Try.prog 3 (plainElem Try.prog 4) (w.heap.size + 1) n D ∧ Blk wr w.heap.size 63 4 (vc4 X Y) ∧ Ob wr (w.heap.size + 1 + 1) FRT #[.int .i64 (c : Int), .int .i64 (r : Int), .int .i64 0, .int .i64 0, .slice none 0 0, .int .i64 0, .int .i64 0, .slice none 0 0, .int .i64 0, .int .i64 0, .slice none 0 0] ∧ Below w.heap.size w wr) (fun t _ => a1 + 1 - (intOf t).toNat)
            case atStart => exact ⟨a0, n, D, by omega, by omega, by omega, rfl, HK, HO, HV, HF, HW⟩
            case round =>
              clear HV HO HF HW HK
              obtain ⟨i, n, D, hi0, hi1, hn, rfl, HK, HO, HV, HF, HW⟩ := hrel
              by_cases hib : i ≤ a1
              · have hd : decide ((i : Int) ≤ (a1 : Int)) = true := by simp; omega
                have hjc : 0 ≤ (j : Int) * (c : Int) ∧ (j : Int) * (c : Int) ≤ 64 := by
                  rw [← Int.natCast_mul]
                  have : j * c ≤ 8 * 8 := Nat.mul_le_mul (by omega) h2
                  omega
                obtain ⟨jc1, jc2⟩ := hjc
                go_wp2_with (at_mapUpdate; refine wpList_mapUpdate_own _ rfl _ _ _ 138 rfl 3 4 lawInt undMap _ (w.heap.size + 1) n _ rfl HO (by unfold maxLen; omega) _ _ _ rfl rfl (keyOf_int_mk Try.underlying3 (WalkArith.wf_i64 (by omega))) _ [] (plainElem_bool Try.underlying4 true) ?_; intro w9 HO1 hgr)
                have hwr := Wr.of_grown hgr
                have n1 := HV.lt; have n2 := HF.lt
                replace HV := HV.wr hwr (by omega); replace HF := HF.wr hwr (by omega); replace HW := hwr.below HW (by omega)
                replace HK := (HK.put ((j : Int) * (c : Int) + (i : Int)) (.lit (.bool true))).congr (T := fun x => ∃ z : Nat, x = (z : Int) ∧ colTo c r mb X Y k j (i + 1) z) fun x => by
                  constructor
                  · rintro (⟨z, e, h⟩ | h)
                    · exact ⟨z, e, (s5.out j i hi0 z).2 (Or.inl h)⟩
                    · exact ⟨j * c + i, by rw [h]; simp, (s5.out j i hi0 _).2 (Or.inr rfl)⟩
                  · rintro ⟨z, e, h⟩
                    rcases (s5.out j i hi0 z).1 h with h | h
                    · exact Or.inl ⟨z, e, h⟩
                    · exact Or.inr (by rw [e, h]; simp)
                clear hgr hwr HO n1 n2 hd
                go_wp2_with fail
                exact ⟨⟨i + 1, n + 1, _, by omega, by omega, by omega, by go_num, HK, HO1, HV, HF, HW⟩, by simp [intOf]; omega⟩
              · obtain rfl : i = a1 + 1 := by omega
                have hd : decide (((a1 + 1 : Nat) : Int) ≤ (a1 : Int)) = false := decide_eq_false (by omega)
                replace HK : KS D (rowTo c r mb X Y k (j + 1)) := HK.congr fun x => ⟨fun ⟨z, e, h⟩ => ⟨z, e, (s4.out j hj0 z).1 h⟩, fun ⟨z, e, h⟩ => ⟨z, e, (s4.out j hj0 z).2 h⟩⟩
                go_wp2_with fail
                exact ⟨⟨j + 1, n, D, by omega, by omega, by omega, by go_num, HK, HO, HV, HF, HW⟩, by simp [intOf]; omega⟩
          · obtain rfl : j = b1 + 1 := by omega
            have hd : decide (((b1 + 1 : Nat) : Int) ≤ (b1 : Int)) = false := decide_eq_false (by omega)
            replace HK : KS D (upTo c r mb X Y (k + 1)) := HK.congr fun x => ⟨fun ⟨z, e, h⟩ => ⟨z, e, (s2.out z).1 h⟩, fun ⟨z, e, h⟩ => ⟨z, e, (s2.out z).2 h⟩⟩
            go_wp2_with fail
            exact ⟨⟨k + 1, n, D, by omega, by omega, by go_num, HK, HO, HV, HF, HW⟩, by simp [intOf]; omega⟩
    · obtain rfl : k = 5 := by omega
      have hd : decide (((5 : Nat) : Int) < 5) = false := by decide
      have hsz := owns_size HO
      have hBl := HO.lt
      clear HV HF
      go_wp2_with (at_range; refine wpList_range_own _ rfl _ 138 rfl 3 4 lawInt undMap _ (w.heap.size + 1) n _ rfl HO ?_; intro w0 hrg0 hg0 hs0)
      go_frame
      replace HW := HW.grown hg0 HW.size (fun j hj => by cases hj)
      obtain ⟨R, hR⟩ : ∃ R, wr.heap.size = R := ⟨_, rfl⟩
      rw [hR] at hrg0 hs0 hBl ⊢
      have hws := HW.size
      clear hg0 HO hd hR
      have hC := CollI.start D
      go_loopw [25] (fun v wx => ∃ (left : Lit → Bool) (cnt : Nat) (ss : List Int), wx.ranges Try.prog 3 (plainElem Try.prog 4) (w.heap.size + 1) R n D left cnt ∧ CollI D left ss ∧ ss.length + cnt ≤ n ∧ wx.ownsRow (R + 1) 3 1 v ss.length (ss.map (Value.int .i64)) ∧ R + 1 ≤ wx.heap.size ∧ Below w.heap.size w wx) (fun _ wx => wx.rangeLeft (w.heap.size + 1) R)
      case atStart => exact ⟨_, _, [], hrg0, hC, by simpa using hsz, World.ownsRow_nil _ _ _ _, by omega, HW⟩
      case round =>
        clear hrg0 hC HW
        obtain ⟨left, cnt, ss, hrg, hC, hcn, hown, hsR, HW⟩ := hrel
        go_wp2_with (at_next; refine wpList_next_keys _ rfl _ rfl 3 .i64 lawInt Try.underlying3 (plainElem Try.prog 4) (w.heap.size + 1) R n _ _ _ rfl hrg ?_ ?_)
        · intro _ hl0
          have hmem := hC.fin HK hl0
          have hnd := hC.1
          have hne : ss ≠ [] := by
            intro e
            have b1 := tx_bd (c := c) (r := r) (mb := mb) (X := X) h1 0
            have b2 := ty_bd (c := c) (r := r) (mb := mb) (Y := Y) h3 0
            have h9 := (hmem (((((ty0 c r mb Y 0).toNat / szb 0) * c + (tx0 c r mb X 0).toNat / szb 0 : Nat)) : Int)).2 ⟨_, rfl, 0, by omega, _, _, ⟨Nat.le_refl _, Nat.div_le_div_right (by omega)⟩, ⟨Nat.le_refl _, Nat.div_le_div_right (by omega)⟩, rfl⟩
            rw [e] at h9; cases h9
          have hlen : 0 < ss.length := List.length_pos_iff.2 hne
          rcases hown.2 with ⟨_, hx⟩ | ⟨g, cap, cur, rfl, hg, _⟩
          · omega
          · have hVB := (VB.of_owns (f := fun k => .int .i64 (ss.getD k 0)) hown (fun j hj => by simp [List.getD_eq_getElem?_getD, hj])).1
            clear hown hrg hC
            replace hmem := Lib.hid hmem; replace hne := Lib.hid hne; replace HK := Lib.hid HK; replace hl0 := Lib.hid hl0; replace hnd := Lib.hid hnd
            go_wp2_with fail
            refine (sort_vb g cap 3 ss _ hVB (by omega)).mono ?_
            rintro e w1 ⟨rfl, hV2, hWr⟩
            replace HW := hWr.below HW (by omega)
            go_wp2_with fail
            go_ret
            exact ⟨g, cap, srt ss, by rw [srt_len]; rfl, by omega, by rw [srt_len]; exact hlen, by rw [srt_len]; omega, srt_lt hnd.out, fun x => by rw [srt_mem, hmem.out x]; exact Iff.rfl, by rw [srt_len]; exact hV2, HW⟩
        · intro x cb dd w1 cnt1 hwx hlk hat hrg1 hlt hg1 hs1 hen
          have hC1 := hC.step hlk hat
          have hlq := hrg.left_eq
          have hown1 := hown.kept hg1 (by
            cases hv : u25.ownBlock with
            | none => exact Or.inl rfl
            | some j => have := (hown.lt j hv).1; exact Or.inr (by intro e; have := Option.some.inj e; omega))
          replace HW := HW.grown hg1 HW.size (fun j hj => by cases hj; omega)
          have hl1 : (ss ++ [x]).length = ss.length + 1 := by simp
          have hm1 : (ss ++ [x]).map (Value.int .i64) = ss.map (Value.int .i64) ++ [.int .i64 x] := by simp
          have hsR1 : R + 1 ≤ w1.heap.size := by omega
          clear hrg hown hg1 hs1 hat hlk hC
          replace hC1 := Lib.hid hC1; replace hl1 := Lib.hid hl1; replace hm1 := Lib.hid hm1; replace HK := Lib.hid HK; replace hlq := Lib.hid hlq
          go_wp2_with (at_builtin; refine wpList_append_own _ rfl _ _ 117 rfl (R + 1) 3 i0 (.int .i64 0) 1 8 Try.underlying117 hi hz0 hz1 hz2 rfl (by decide) _ _ _ rfl (hown1.alloc _) ⟨w1.heap.size, 0, none⟩ 1 1 [.int .i64 x] rfl rfl ?c1 ?c2 ?c3 ?c4 ?c5 ?_)
          case c1 =>
            intro j u hj
            match j, hj with
            | 0, hj => simp at hj; subst hj; simp [Addr.add]
          case c2 => intro u hu; simp at hu; subst hu; rfl
          case c3 => unfold maxLen; omega
          case c4 => omega
          case c5 => simp; omega
          intro v' w3 hown' hgrow _
          have hrow : ∀ j, u25.ownBlock = some j → R + 1 ≤ j := fun j hj => (hown1.lt j hj).1
          have HW1 : Below w.heap.size w w3 := (HW.alloc HW.size _).grown hgrow (by have := HW.size; simp; omega) (fun j hj => by have := hrow j hj; omega)
          have hrg3 := (hrg1.alloc (.cells #[.int .i64 x] 3)).kept hgrow (fun e => by have := hrow _ e.symm; omega) (fun e => by have := hrow _ e.symm; omega)
          have hs3 : R + 1 ≤ w3.heap.size := by have := hgrow.size; simp at this; omega
          rw [← hm1.out, ← hl1.out] at hown'
          clear hgrow hown1 HW hrow hen hrg1
          go_wp2_with fail
          go_roundw
          case rel =>
            have h9 : (ss ++ [x]).length + cnt1 ≤ n := by rw [hl1.out]; omega
            (repeat apply Exists.intro)
            exact ⟨⟨_, cnt1, ss ++ [x], hrg3, hC1.out, h9, hown', hs3, HW1⟩, rfl⟩
          case measure => rw [hrg3.left_eq, hlq.out]; exact hlt
end Go.Proofs.Ytbldgpemocnboaa

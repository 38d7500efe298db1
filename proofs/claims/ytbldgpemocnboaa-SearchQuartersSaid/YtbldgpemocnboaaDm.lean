/- damage.New, Has, Count, Same, walked. | damage.Same, Text, walked; kinescopelaw25.Awake. | damage.Set, Clone, List, walked. | kinescopelaw25.Map, walked. -/
import Derived.Test.YtbldgpemocnboaaOb
import Derived.Laws.AppendOwn
import Derived.OwnWalk
namespace Go.Proofs.Ytbldgpemocnboaa
open Go.RowKit
attribute [local go_sem ↓] run_imax run_imin

abbrev DMT : TypeId := 58
def dmC (C R b n c : Nat) : Array Value := #[.int .i64 (C : Int), .int .i64 (R : Int), .slice (some ⟨b, 0, none⟩) n c]
def dmV (C R b n c : Nat) : Value := .agg (dmC C R b n c)
def blv (f : Nat → Bool) (k : Nat) : Value := .bool (f k)
theorem infoBool : (Try.prog.info? 4).map (fun i => (i.zero, i.size, i.bytes)) = some (some (.bool false), 1, 1) := by kernel_rfl
section
variable {w : World} {C R b n c p : Nat}
theorem Ob.mC (h : Ob w p DMT (dmC C R b n c)) : w.cell? ⟨p, 0, none⟩ = some (.int .i64 (C : Int)) := h.cell 0 rfl
theorem Ob.mR (h : Ob w p DMT (dmC C R b n c)) : w.cell? ⟨p, 1, none⟩ = some (.int .i64 (R : Int)) := h.cell 1 rfl
theorem Ob.mS (h : Ob w p DMT (dmC C R b n c)) : w.cell? ⟨p, 2, none⟩ = some (.slice (some ⟨b, 0, none⟩) n c) := h.cell 2 rfl
end
theorem dm_size {C R : Nat} (hC : C ≤ 8) (hR : R ≤ 8) : C * R ≤ 64 := Nat.mul_le_mul hC hR

def NewDP (C R : Nat) (all : Bool) (w : World) (r : Ending) (w' : World) : Prop :=
  ∃ b, r = .returned (dmV C R b (C * R) (C * R)) ∧ w.heap.size ≤ b ∧ VB w' b 4 (C * R) (blv fun _ => all) ∧ Below w.heap.size w w'

set_option maxHeartbeats 1000000 in
theorem dmNew_any (x y : Int) (all : Bool) (C R : Nat) (w : World) (hx : imin (imax x 0) 8 = C) (hy : imin (imax y 0) 8 = R) :
    Calls Try.prog 48 #[.int .i64 x, .int .i64 y, .bool all] w (NewDP C R all w) := by
  have hC : C ≤ 8 := by rw [imin_eq, imax_eq] at hx; omega
  have hR : R ≤ 8 := by rw [imin_eq, imax_eq] at hy; omega
  have hm := dm_size hC hR
  go_enter Try.func48, Try.ntmps48
  go_wp2_with (refine wpList_make_vb rfl _ _ _ rfl 4 (.bool false) 1 Try.underlying55 infoBool rfl _ _ _ _ (C * R) rfl rfl (by simp) (by simp) (by omega) (by unfold maxLen; omega) ?_)
  replace hx := Lib.hid hx; replace hy := Lib.hid hy
  intro w1 hvb hb
  go_wp2_with fail
  have HB : VB w1 (w.heap.size + 1) 4 (C * R) (blv fun j => if j < 0 then all else false) := (show VB w1 (w.heap.size + 1) 4 (C * R) (fun _ => .bool false) by simpa using hvb).congr (fun _ _ => by simp [blv])
  have hb1 : Below w.heap.size w w1 := ((Below.refl _ _).alloc (Nat.le_refl _) _).trans (hb.mono (by simp))
  have HZ : Ob w1 w.heap.size DMT #[.int .i64 0, .int .i64 0, .slice none 0 0] := (Ob.new_at _ _ rfl).below hb (by simp)
  have hsz : w.heap.size + 1 < w1.heap.size := HB.lt
  clear hvb hb
  generalize hw2 : w1.alloc (.cells #[.int .i64 (C : Int), .int .i64 (R : Int), .slice (some ⟨w.heap.size + 1, 0, none⟩) (C * R) (C * R)] DMT) = w2
  have HO : Ob w2 w1.heap.size DMT (dmC C R (w.heap.size + 1) (C * R) (C * R)) := by rw [← hw2]; exact Ob.new_at _ _ rfl
  replace HB : VB w2 (w.heap.size + 1) 4 (C * R) (blv fun j => if j < 0 then all else false) := by rw [← hw2]; exact HB.alloc _
  replace HZ : Ob w2 w.heap.size DMT #[.int .i64 0, .int .i64 0, .slice none 0 0] := by rw [← hw2]; exact HZ.alloc _
  have HW : Below w.heap.size w w2 := by rw [← hw2]; exact hb1.alloc hb1.size _
  clear hw2 hb1
  generalize w1.heap.size = p at *
  clear w1
  go_loopw [25] (fun i wr => ∃ k : Nat, k ≤ C * R ∧ i = .int .i64 k ∧ Ob wr p DMT (dmC C R (w.heap.size + 1) (C * R) (C * R)) ∧ VB wr (w.heap.size + 1) 4 (C * R) (blv fun j => if j < k then all else false) ∧
      Ob wr w.heap.size DMT #[.int .i64 0, .int .i64 0, .slice none 0 0] ∧ Below w.heap.size w wr) (fun i _ => C * R - (intOf i).toNat)
  case atStart => exact ⟨0, by omega, rfl, HO, HB, HZ, HW⟩
  case round =>
    clear HO HB HZ HW
    obtain ⟨k, hk, rfl, HO, HB, HZ, HW⟩ := hrel
    by_cases hlt : k < C * R
    · have hd : decide ((k : Int) < (C : Int) * (R : Int)) = true := by
        have : ((k : Nat) : Int) < ((C * R : Nat) : Int) := by omega
        simpa using this
      have c1 := HO.mS
      have c2 := HB.cell hlt
      have f2 := HB.free k
      go_wp2_with fail
      exact ⟨⟨k + 1, by omega, by go_num, HO.other (by omega) _ _, (HB.set k (.bool all)).congr (fun j _ => by
        unfold blv
        by_cases e : j = k
        · simp [e]
        · by_cases e2 : j < k
          · simp [e, e2, show j < k + 1 by omega]
          · simp [e, e2, show ¬ j < k + 1 by omega]), HZ.other (by omega) _ _, HW.setCell (by simp) _⟩, by simp [intOf]; omega⟩
    · obtain rfl : k = C * R := by omega
      go_wp2_with (first | (refine wpList_load_ob HO rfl _ _ rfl rfl Try.underlying58 (by kernel_rfl) ?_) | (refine wpList_store_ob HZ rfl _ _ _ rfl rfl _ rfl (by kernel_rfl) rfl rfl ?_))
      exact bodyPost_ret (results_ob rfl _ (HZ.setRow_same _) rfl Try.underlying58 (by kernel_rfl)) rfl ⟨_, rfl, by omega, (HB.setRow (by omega) _).congr (fun j hj => by simp [blv, hj]), below_setRow HW (Nat.le_refl _) _⟩

def dmHas (n : Nat) (f : Nat → Bool) (mb : Int) : Bool := decide (0 ≤ mb) && (decide (mb < n) && f mb.toNat)

set_option maxHeartbeats 1000000 in
theorem dmHas_any (C R b n c : Nat) (f : Nat → Bool) (mb : Int) (w : World) (hB : VB w b 4 n (blv f)) :
    Calls Try.prog 46 #[dmV C R b n c, .int .i64 mb] w fun e w' => e = .returned (.bool (dmHas n f mb)) ∧ Below w.heap.size w w' := by
  have hlt := hB.lt
  unfold dmV dmC dmHas
  by_cases h1 : 0 ≤ mb
  · by_cases h2 : mb < n
    · obtain ⟨k, rfl⟩ : ∃ k : Nat, mb = k := ⟨mb.toNat, by omega⟩
      have hk : k < n := by omega
      have hc := hB.cell hk
      unfold blv at hc
      simp only [h1, h2, decide_true, Bool.true_and, Int.toNat_natCast]
      go_enter Try.func46, Try.ntmps46
      go_wp2_with fail
      go_ret
      exact ⟨rfl, by ((repeat (first | exact Below.refl _ _ | assumption | refine Below.setCell ?_ (by first | omega | (simp; done) | (simp; omega)) _ | refine Below.alloc ?_ (by first | omega | (simp; done) | (simp; omega)) _ | refine below_drewN ?_ _ | refine Below.drew ?_ | refine below_setRow ?_ (by first | omega | (simp; done) | (simp; omega)) _)))⟩
    · have e1 : decide (mb < (n : Int)) = false := by simpa using h2
      simp only [h1, e1, decide_true, Bool.true_and, Bool.false_and]
      go_enter Try.func46, Try.ntmps46
      go_wp2_with fail
      go_ret
      exact ⟨rfl, by ((repeat (first | exact Below.refl _ _ | assumption | refine Below.setCell ?_ (by first | omega | (simp; done) | (simp; omega)) _ | refine Below.alloc ?_ (by first | omega | (simp; done) | (simp; omega)) _ | refine below_drewN ?_ _ | refine Below.drew ?_ | refine below_setRow ?_ (by first | omega | (simp; done) | (simp; omega)) _)))⟩
  · have e1 : decide (0 ≤ mb) = false := by simpa using h1
    simp only [e1, Bool.false_and]
    go_enter Try.func46, Try.ntmps46
    go_wp2_with fail
    go_ret
    exact ⟨rfl, by ((repeat (first | exact Below.refl _ _ | assumption | refine Below.setCell ?_ (by first | omega | (simp; done) | (simp; omega)) _ | refine Below.alloc ?_ (by first | omega | (simp; done) | (simp; omega)) _ | refine below_drewN ?_ _ | refine Below.drew ?_ | refine below_setRow ?_ (by first | omega | (simp; done) | (simp; omega)) _)))⟩

def cntTo (f : Nat → Bool) : Nat → Nat
  | 0 => 0
  | k + 1 => cntTo f k + if f k = true then 1 else 0
theorem cntTo_le (f : Nat → Bool) (n : Nat) : cntTo f n ≤ n := by
  induction n with
  | zero => exact Nat.le_refl _
  | succ n ih => unfold cntTo; split <;> omega

end Go.Proofs.Ytbldgpemocnboaa

namespace Go.Proofs.Ytbldgpemocnboaa
open Go.RowKit
attribute [local go_sem ↓] run_imax run_imin

def eqTo (f g : Nat → Bool) : Nat → Bool
  | 0 => true
  | k + 1 => eqTo f g k && (f k == g k)
theorem eqTo_not {f g : Nat → Bool} {k n : Nat} (h : (f k == g k) = false) (hk : k < n) : eqTo f g n = false := by
  induction n with
  | zero => omega
  | succ n ih =>
    unfold eqTo
    by_cases e : k = n
    · subst e; rw [h]; simp
    · rw [ih (by omega)]; simp
theorem eqTo_iff {f g : Nat → Bool} {n : Nat} : eqTo f g n = true ↔ ∀ k, k < n → f k = g k := by
  induction n with
  | zero => simp [eqTo]
  | succ n ih =>
    unfold eqTo
    rw [Bool.and_eq_true, ih, beq_iff_eq]
    constructor
    · rintro ⟨h1, h2⟩ k hk
      by_cases e : k = n
      · subst e; exact h2
      · exact h1 k (by omega)
    · intro h; exact ⟨fun k hk => h k (by omega), h n (by omega)⟩
def dmSame (C R n : Nat) (f : Nat → Bool) (C' R' n' : Nat) (g : Nat → Bool) : Bool := decide (C = C') && (decide (R = R') && (decide (n = n') && eqTo f g n))

/-- A map's text, so far. -/
def txtB (C : Nat) (f : Nat → Bool) : Nat → ByteArray
  | 0 => ⟨#[]⟩
  | k + 1 => if 0 < C ∧ (k + 1) % C = 0 then (txtB C f k ++ (if f k = true then ⟨#[35]⟩ else ⟨#[46]⟩)) ++ ⟨#[10]⟩ else txtB C f k ++ (if f k = true then ⟨#[35]⟩ else ⟨#[46]⟩)
theorem txtB_size (C : Nat) (f : Nat → Bool) (k : Nat) : (txtB C f k).size ≤ 2 * k := by
  induction k with
  | zero => exact Nat.le_refl _
  | succ k ih =>
    unfold txtB
    have h1 : (if f k = true then (⟨#[35]⟩ : ByteArray) else ⟨#[46]⟩).size = 1 := by split <;> rfl
    have h2 : (⟨#[10]⟩ : ByteArray).size = 1 := rfl
    split
    · rw [ByteArray.size_append, ByteArray.size_append, h1, h2]; omega
    · rw [ByteArray.size_append, h1]; omega

set_option maxHeartbeats 2000000 in
theorem dmText_any (C R b n c : Nat) (f : Nat → Bool) (w : World) (hn : n ≤ 64) (hC : C ≤ 8) (hB : VB w b 4 n (blv f)) :
    Calls Try.prog 115 #[dmV C R b n c] w fun e w' => e = .returned (.string (txtB C f n)) ∧ Below w.heap.size w w' := by
  have hlt := hB.lt
  unfold dmV
  go_enter Try.func115, Try.ntmps115
  unfold dmC
  go_wp2_with fail
  have HO : Ob (w.alloc (.cells (dmC C R b n c) DMT)) w.heap.size DMT (dmC C R b n c) := Ob.new_at _ _ rfl
  have hB2 := hB.alloc (.cells (dmC C R b n c) DMT)
  have HW : Below w.heap.size w (w.alloc (.cells (dmC C R b n c) DMT)) := by ((repeat (first | exact Below.refl _ _ | assumption | refine Below.setCell ?_ (by first | omega | (simp; done) | (simp; omega)) _ | refine Below.alloc ?_ (by first | omega | (simp; done) | (simp; omega)) _ | refine below_drewN ?_ _ | refine Below.drew ?_ | refine below_setRow ?_ (by first | omega | (simp; done) | (simp; omega)) _)))
  unfold dmC at HO hB2 HW
  generalize w.alloc (.cells #[.int .i64 (C : Int), .int .i64 (R : Int), .slice (some ⟨b, 0, none⟩) n c] DMT) = w2 at *
  have c3 : w2.cell? ⟨w.heap.size, 0, none⟩ = some (.int .i64 (C : Int)) := HO.cell 0 rfl
  go_loop [3, 10] (fun s i => ∃ k : Nat, k ≤ n ∧ i = .int .i64 k ∧ s = .string (txtB C f k)) (fun _ i => n - (intOf i).toNat)
  case atStart => exact ⟨0, by omega, rfl, rfl⟩
  case round =>
    obtain ⟨k, hk, rfl, rfl⟩ := hrel
    have hsz := txtB_size C f k
    by_cases hkn : k < n
    · have c1 := hB2.cell hkn
      unfold blv at c1
      have hst := Lib.hid (show txtB C f (k + 1) = if 0 < C ∧ (k + 1) % C = 0 then (txtB C f k ++ (if f k = true then ⟨#[35]⟩ else ⟨#[46]⟩)) ++ ⟨#[10]⟩ else txtB C f k ++ (if f k = true then ⟨#[35]⟩ else ⟨#[46]⟩) from rfl)
      generalize txtB C f k = T at *
      cases hfk : f k
      all_goals
        rw [hfk] at c1
        replace hfk := Lib.hid hfk
        by_cases hc0 : 0 < C
        · by_cases hcm : (k + 1) % C = 0
          · have hcm' : ((k : Int) + 1) % (C : Int) = 0 := by
              have : (((k + 1) % C : Nat) : Int) = 0 := by rw [hcm]; rfl
              simpa using this
            have h9 := Lib.hid (And.intro hc0 hcm)
            clear hcm
            go_wp2_with fail
            go_round
            case rel => exact ⟨k + 1, by omega, by go_num, by rw [hst.out, hfk.out]; simp [h9.out]⟩
            case measure => simp [intOf]; omega
          · have hcm' : ¬ ((k : Int) + 1) % (C : Int) = 0 := by
              intro h
              have : (((k + 1) % C : Nat) : Int) = 0 := by simpa using h
              exact hcm (by omega)
            have h9 := Lib.hid hcm
            clear hcm
            go_wp2_with fail
            go_round
            case rel => exact ⟨k + 1, by omega, by go_num, by rw [hst.out, hfk.out]; simp [h9.out]⟩
            case measure => simp [intOf]; omega
        · have h8 : C = 0 := by omega
          have h9 := Lib.hid hc0
          subst h8
          go_wp2_with fail
          go_round
          case rel => exact ⟨k + 1, by omega, by go_num, by rw [hst.out, hfk.out]; simp [h9.out]⟩
          case measure => simp [intOf]; omega
    · obtain rfl : k = n := by omega
      go_wp2_with fail
      go_ret
      exact ⟨rfl, HW⟩
end Go.Proofs.Ytbldgpemocnboaa

namespace Go.Proofs.Ytbldgpemocnboaa
open Go.RowKit
attribute [local go_sem ↓] run_imax run_imin

def updB (n : Nat) (f : Nat → Bool) (mb : Int) (x : Bool) (k : Nat) : Bool := if 0 ≤ mb ∧ mb < n ∧ k = mb.toNat then x else f k
def SetP (b n : Nat) (f : Nat → Bool) (w : World) (r : Ending) (w' : World) : Prop := r = .returned (.tuple #[]) ∧ VB w' b 4 n (blv f) ∧ Wr b w w'

set_option maxHeartbeats 1000000 in
theorem dmSet_any (C R b n c : Nat) (f : Nat → Bool) (mb : Int) (x : Bool) (w : World) (hB : VB w b 4 n (blv f)) :
    Calls Try.prog 49 #[dmV C R b n c, .int .i64 mb, .bool x] w (SetP b n (updB n f mb x) w) := by
  have hlt := hB.lt
  unfold dmV dmC
  by_cases h1 : 0 ≤ mb
  · by_cases h2 : mb < n
    · obtain ⟨k, rfl⟩ : ∃ k : Nat, mb = k := ⟨mb.toNat, by omega⟩
      have hk : k < n := by omega
      have hf := hB.free k
      have hc := hB.cell hk
      unfold blv at hc
      have hup : ∀ j, (if j = k then Value.bool x else blv f j) = blv (updB n f k x) j := by
        intro j; unfold blv updB
        by_cases e : j = k
        · subst e; simp [hk]
        · simp [e]
      replace hup := Lib.hid hup
      go_enter Try.func49, Try.ntmps49
      go_wp2_with fail
      go_end0
      exact ⟨rfl, ((hB.set k (.bool x)).alloc _).congr (fun j _ => hup.out j), ((Wr.refl b w).setCell k _).alloc _⟩
    · have e1 : decide (mb < (n : Int)) = false := by simpa using h2
      have hup : ∀ j, blv f j = blv (updB n f mb x) j := by intro j; unfold blv updB; simp [h2]
      replace hup := Lib.hid hup
      go_enter Try.func49, Try.ntmps49
      go_wp2_with fail
      go_end0
      exact ⟨rfl, (hB.alloc _).congr (fun j _ => hup.out j), (Wr.refl b w).alloc _⟩
  · have e1 : decide (0 ≤ mb) = false := by simpa using h1
    have hup : ∀ j, blv f j = blv (updB n f mb x) j := by intro j; unfold blv updB; simp [h1]
    replace hup := Lib.hid hup
    go_enter Try.func49, Try.ntmps49
    go_wp2_with fail
    go_end0
    exact ⟨rfl, (hB.alloc _).congr (fun j _ => hup.out j), (Wr.refl b w).alloc _⟩

def ClonedP (C R n : Nat) (f : Nat → Bool) (w : World) (r : Ending) (w' : World) : Prop :=
  ∃ b' c', r = .returned (dmV C R b' n c') ∧ w.heap.size ≤ b' ∧ VB w' b' 4 n (blv f) ∧ Below w.heap.size w w'

set_option maxHeartbeats 1000000 in
theorem dmClone_any (C R b n c : Nat) (f : Nat → Bool) (w : World) (hn : 0 < n ∧ n ≤ 64) (hB : VB w b 4 n (blv f)) :
    Calls Try.prog 79 #[dmV C R b n c] w (ClonedP C R n f w) := by
  have hlt := hB.lt
  obtain ⟨hn0, hn⟩ := hn
  obtain ⟨i0, hi, hz0, hz1, hz2⟩ := info_parts infoBool
  unfold dmV
  go_enter Try.func79, Try.ntmps79
  unfold dmC
  go_wp2_with (at_builtin; refine wpList_append_own _ rfl _ _ 55 rfl w.heap.size 4 i0 (.bool false) 1 1 Try.underlying55 hi hz0 hz1 hz2 rfl (by decide) (.slice none 0 0) 0 [] rfl (World.ownsRow_nil _ _ _ _) ⟨b, 0, none⟩ n c ((List.range n).map (blv f)) rfl (by simp) ?c1 ?c2 ?c3 ?c4 ?c5 ?_)
  case c1 =>
    intro j u hj
    have hj' : j < n := by
      rcases Nat.lt_or_ge j n with h | h
      · exact h
      · rw [List.getElem?_eq_none (by simp; omega)] at hj; cases hj
    rw [List.getElem?_map, List.getElem?_range hj'] at hj
    have e : blv f j = u := by simpa using hj
    subst e
    rw [Addr.add_lit, Nat.zero_add]
    exact ((hB.alloc _).alloc _).cell hj'
  case c2 =>
    intro u hu
    obtain ⟨j, _, rfl⟩ := List.mem_map.1 hu
    rfl
  case c3 => unfold maxLen; omega
  case c4 => omega
  case c5 => simp; omega
  intro v' w1 hown' hgrow _
  rcases hown'.2 with ⟨_, h⟩ | ⟨g, cap, cur, hv, hg, _⟩
  · omega
  subst hv
  have HV : VB w1 g 4 n (blv f) := (VB.of_owns (show w1.ownsRow w.heap.size 4 1 (.slice (some ⟨g, 0, none⟩) n cap) n _ from hown') (fun k hk => by rw [List.getElem?_map, List.getElem?_range hk]; rfl)).1
  have hgd := below_grown hgrow
  have HO : Ob w1 w.heap.size DMT (dmC C R b n c) := (((Ob.new_at (w := w) DMT _ rfl).alloc _)).later hgd
  have HZ : Ob w1 (w.heap.size + 1) DMT #[.int .i64 0, .int .i64 0, .slice none 0 0] := (Ob.new_at _ _ (by simp)).later hgd
  have HW : Below w.heap.size w w1 := below_step (by ((repeat (first | exact Below.refl _ _ | assumption | refine Below.setCell ?_ (by first | omega | (simp; done) | (simp; omega)) _ | refine Below.alloc ?_ (by first | omega | (simp; done) | (simp; omega)) _ | refine below_drewN ?_ _ | refine Below.drew ?_ | refine below_setRow ?_ (by first | omega | (simp; done) | (simp; omega)) _)))) hgd
  have hgn : w.heap.size + 1 < g ∨ g ≤ w.heap.size + 1 := by omega
  have n1 : w.heap.size ≠ g := HO.ne_vb HV (by decide)
  have n2 : w.heap.size + 1 ≠ g := HZ.ne_vb HV (by decide)
  clear hown' hgrow hgd hgn
  have c2 := HO.mS
  have f2 := HO.free 2
  go_wp2_with (first | (refine wpList_load_ob (HO.set 2 _) rfl _ _ rfl rfl Try.underlying58 (by kernel_rfl) ?_) | (refine wpList_store_ob (HZ.other (c := w.heap.size) (by omega) 2 _) rfl _ _ _ rfl rfl _ rfl (by kernel_rfl) rfl rfl ?_))
  exact bodyPost_ret (results_ob rfl _ ((HZ.other (c := w.heap.size) (by omega) 2 _).setRow_same _) rfl Try.underlying58 (by kernel_rfl)) rfl ⟨g, cap, rfl, hg, (HV.other n1 2 _).setRow n2 _, below_setRow (HW.setCell (by simp) _) (by omega) _⟩

def lsTo (f : Nat → Bool) : Nat → List Nat
  | 0 => []
  | k + 1 => lsTo f k ++ (if f k = true then [k] else [])
theorem lsTo_len (f : Nat → Bool) (n : Nat) : (lsTo f n).length = cntTo f n := by
  induction n with
  | zero => rfl
  | succ n ih => unfold lsTo cntTo; split <;> simp [ih]
def lsv (xs : List Nat) : List Value := xs.map fun (x : Nat) => .int .i64 (x : Int)
theorem lsTo_at {f : Nat → Bool} {k : Nat} (hf : f k = true) : ∀ n, k < n → (lsTo f n)[cntTo f k]? = some k := by
  intro n
  induction n with
  | zero => intro h; omega
  | succ n ih =>
    intro h
    unfold lsTo
    by_cases e : k = n
    · subst e
      rw [List.getElem?_append_right (by rw [lsTo_len]; exact Nat.le_refl _), lsTo_len, Nat.sub_self, if_pos hf]; rfl
    · have h1 := ih (by omega)
      rw [List.getElem?_append_left (List.getElem?_eq_some_iff.1 h1).1]
      exact h1
theorem cntTo_mono (f : Nat → Bool) {k n : Nat} (h : k ≤ n) : cntTo f k ≤ cntTo f n := by
  induction n with
  | zero => obtain rfl : k = 0 := by omega
            exact Nat.le_refl _
  | succ n ih =>
    by_cases e : k = n + 1
    · subst e; exact Nat.le_refl _
    · have := ih (by omega)
      show cntTo f k ≤ cntTo f n + _
      omega
theorem cntTo_lt {f : Nat → Bool} {k n : Nat} (hf : f k = true) (h : k < n) : cntTo f k < cntTo f n := by
  have h1 := cntTo_mono f (show k + 1 ≤ n by omega)
  have h2 : cntTo f (k + 1) = cntTo f k + 1 := by show cntTo f k + _ = _; rw [if_pos hf]
  omega

theorem infoInt : (Try.prog.info? 3).map (fun i => (i.zero, i.size, i.bytes)) = some (some (.int .i64 0), 1, 8) := by kernel_rfl
def ListP (n : Nat) (f : Nat → Bool) (w : World) (r : Ending) (w' : World) : Prop :=
  ∃ p c, r = .returned (.slice p (cntTo f n) c) ∧ (∀ k, k < n → f k = true → ∃ g, p = some ⟨g, 0, none⟩ ∧ VB w' g 3 (cntTo f n) (fun j => (lsv (lsTo f n)).getD j undef)) ∧ Below w.heap.size w w'

end Go.Proofs.Ytbldgpemocnboaa

namespace Go.Proofs.Ytbldgpemocnboaa
open Go.RowKit
attribute [local go_sem ↓] run_imax run_imin

def flF (ls : Nat) (bad : Nat → Bool) (k : Nat) : Bool := decide (k < ls) && bad k
def flK (i ls : Nat) (bad : Nat → Bool) (k : Nat) : Bool := decide (k < i) && flF ls bad k
theorem flK_step {i ls n : Nat} {bad : Nat → Bool} (hi : i < ls) (j : Nat) (hj : j < n) : updB n (flK i ls bad) (i : Int) (bad i) j = flK (i + 1) ls bad j := by
  unfold updB flK flF
  by_cases e : j = i
  · subst e
    simp [hj, hi]
  · by_cases e2 : j < i
    · simp [e, e2, show j < i + 1 by omega]
    · simp [e, e2, show ¬ j < i + 1 by omega]
theorem flK_end {ls : Nat} {bad : Nat → Bool} (j : Nat) : flK ls ls bad j = flF ls bad j := by
  unfold flK flF; by_cases e : j < ls <;> simp [e]

set_option maxHeartbeats 2000000 in
theorem mapOf_any (a0 a1 : Int) (C R : Nat) (p : Option Addr) (ls lc : Nat) (bad : Nat → Bool) (w : World) (h0 : 0 ≤ a0 ∧ a0 ≤ 255) (h1 : 0 ≤ a1 ∧ a1 ≤ 255) (hA : 1 + a0 % 4 = (C : Int)) (hB : 1 + a1 % 4 = (R : Int))
    (hls : ls ≤ 100) (hS : SL w p ls (blv bad)) :
    Calls Try.prog 43 #[.int .u8 a0, .int .u8 a1, .slice p ls lc] w fun r w' =>
      ∃ b, r = .returned (dmV C R b (C * R) (C * R)) ∧ w.heap.size ≤ b ∧ VB w' b 4 (C * R) (blv (flF ls bad)) ∧ Below w.heap.size w w' := by
  have hC : C ≤ 4 := by omega
  have hR : R ≤ 4 := by omega
  replace hS := Lib.hid hS
  go_enter Try.func43, Try.ntmps43
  go_wp2_with fail
  have HZ : Ob (w.alloc (.cells #[.int .i64 0, .int .i64 0, .slice none 0 0] DMT)) w.heap.size DMT #[.int .i64 0, .int .i64 0, .slice none 0 0] := Ob.new_at _ _ rfl
  have HW : Below w.heap.size w (w.alloc (.cells #[.int .i64 0, .int .i64 0, .slice none 0 0] DMT)) := by ((repeat (first | exact Below.refl _ _ | assumption | refine Below.setCell ?_ (by first | omega | (simp; done) | (simp; omega)) _ | refine Below.alloc ?_ (by first | omega | (simp; done) | (simp; omega)) _ | refine below_drewN ?_ _ | refine Below.drew ?_ | refine below_setRow ?_ (by first | omega | (simp; done) | (simp; omega)) _)))
  generalize w.alloc (.cells #[.int .i64 0, .int .i64 0, .slice none 0 0] DMT) = w0 at *
  have hz := HZ.lt
  refine (dmNew_any _ _ false C R _ (by rw [imin_eq, imax_eq]; omega) (by rw [imin_eq, imax_eq]; omega)).mono ?_
  rintro e w1 ⟨b, rfl, hbf, HV, hb⟩
  replace HZ := HZ.later hb; replace HW := below_step HW hb
  clear hb
  unfold dmV dmC
  go_wp2_with fail
  generalize hw2 : w1.alloc (.cells #[.int .i64 (C : Int), .int .i64 (R : Int), .slice (some ⟨b, 0, none⟩) (C * R) (C * R)] DMT) = w2
  have HO : Ob w2 w1.heap.size DMT (dmC C R b (C * R) (C * R)) := by rw [← hw2]; exact Ob.new_at _ _ rfl
  have hbq := HV.lt
  have hz1 := HZ.lt
  replace HV : VB w2 b 4 (C * R) (blv (flK 0 ls bad)) := by rw [← hw2]; exact (HV.alloc _).congr (fun j _ => by simp [blv, flK])
  replace HZ : Ob w2 w.heap.size DMT #[.int .i64 0, .int .i64 0, .slice none 0 0] := by rw [← hw2]; exact HZ.alloc _
  replace HW : Below w.heap.size w w2 := by rw [← hw2]; exact HW.alloc HW.size _
  have hbw : w.heap.size < b := by omega
  clear hw2 hbf hz
  generalize w1.heap.size = q at *
  clear w1 w0
  go_loopw [21] (fun i wr => ∃ k : Nat, k ≤ ls ∧ i = .int .i64 k ∧ Ob wr q DMT (dmC C R b (C * R) (C * R)) ∧ VB wr b 4 (C * R) (blv (flK k ls bad)) ∧ Ob wr w.heap.size DMT #[.int .i64 0, .int .i64 0, .slice none 0 0] ∧ Below w.heap.size w wr) (fun i _ => ls - (intOf i).toNat)
  case atStart => exact ⟨0, by omega, rfl, HO, HV, HZ, HW⟩
  case round =>
    clear HO HV HZ HW
    obtain ⟨k, hk, rfl, HO, HV, HZ, HW⟩ := hrel
    by_cases hlt : k < ls
    · obtain ⟨bs, os, rfl, hbs, hcs⟩ : ∃ bs os, p = some ⟨bs, os, none⟩ ∧ bs < w.heap.size ∧ ∀ k, k < ls → w.cell? ⟨bs, os + k, none⟩ = some (blv bad k) := by
        rcases hS.out with h | h
        · omega
        · exact h
      have c4 : wr.cell? ⟨bs, os + k, none⟩ = some (.bool (bad k)) := by rw [HW.cell (p := ⟨bs, os + k, none⟩) hbs]; exact hcs k hlt
      clear hcs
      go_wp2_with (refine wpList_load_ob HO rfl 58 _ rfl rfl Try.underlying58 (by kernel_rfl) ?_)
      refine (dmSet_any C R b (C * R) _ _ _ _ _ HV).mono ?_
      rintro e w3 ⟨rfl, HV3, hWr⟩
      have m1 : q ≠ b := by omega
      have m2 : w.heap.size ≠ b := by omega
      replace HO := HO.wr hWr m1; replace HZ := HZ.wr hWr m2; replace HW := hWr.below HW (by omega)
      replace HV := HV3.congr (f' := blv (flK (k + 1) ls bad)) (fun j hj => by unfold blv; rw [flK_step hlt j hj])
      clear HV3 hWr c4
      go_wp2_with fail
      exact ⟨⟨k + 1, by omega, by go_num, HO, HV, HZ, HW⟩, by simp [intOf]; omega⟩
    · obtain rfl : k = ls := by omega
      go_wp2_with (first | (refine wpList_load_ob HO rfl 58 _ rfl rfl Try.underlying58 (by kernel_rfl) ?_) | (refine wpList_store_ob HZ rfl _ _ _ rfl rfl _ rfl (by kernel_rfl) rfl rfl ?_))
      exact bodyPost_ret (results_ob rfl _ (HZ.setRow_same _) rfl Try.underlying58 (by kernel_rfl)) rfl ⟨b, rfl, by omega, (HV.setRow (by omega) _).congr (fun j hj => by unfold blv; rw [flK_end]), below_setRow HW (Nat.le_refl _) _⟩
end Go.Proofs.Ytbldgpemocnboaa

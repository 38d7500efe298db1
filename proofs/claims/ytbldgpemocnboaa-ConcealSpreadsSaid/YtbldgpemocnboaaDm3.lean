/- damage.Set, Clone, List, walked. -/
import Derived.Test.YtbldgpemocnboaaDm2
import Derived.Laws.AppendOwn
import Derived.OwnWalk
namespace Go.Proofs.Ytbldgpemocnboaa
open Go.RowKit
attribute [local go_sem ↓] run_imax run_imin

def updB (n : Nat) (f : Nat → Bool) (mb : Int) (x : Bool) (k : Nat) : Bool := if 0 ≤ mb ∧ mb < n ∧ k = mb.toNat then x else f k
def SetP (b n : Nat) (f : Nat → Bool) (w : World) (r : Ending) (w' : World) : Prop := r = .returned (.tuple #[]) ∧ VB w' b 4 n (blv f) ∧ Wr b w w'

set_option maxHeartbeats 1000000 in
theorem dmSet_any (C R b n c : Nat) (f : Nat → Bool) (mb : Int) (x : Bool) (w : World) (hB : VB w b 4 n (blv f)) :
    Calls Try.prog 49 #[dmV C R b n c, .int .i64 mb, .bool x] w (SetP b n (updB n f mb x) w) := by
  have hlt := hB.lt
  unfold dmV dmC
  by_cases h1 : 0 ≤ mb
  · by_cases h2 : mb < n
    · obtain ⟨k, rfl⟩ : ∃ k : Nat, mb = k := ⟨mb.toNat, by omega⟩
      have hk : k < n := by omega
      have hf := hB.free k
      have hc := hB.cell hk
      unfold blv at hc
      have hup : ∀ j, (if j = k then Value.bool x else blv f j) = blv (updB n f k x) j := by
        intro j; unfold blv updB
        by_cases e : j = k
        · subst e; simp [hk]
        · simp [e]
      replace hup := Lib.hid hup
      go_enter Try.func49, Try.ntmps49
      go_wp2_with fail
      go_end0
      exact ⟨rfl, ((hB.set k (.bool x)).alloc _).congr (fun j _ => hup.out j), ((Wr.refl b w).setCell k _).alloc _⟩
    · have e1 : decide (mb < (n : Int)) = false := by simpa using h2
      have hup : ∀ j, blv f j = blv (updB n f mb x) j := by intro j; unfold blv updB; simp [h2]
      replace hup := Lib.hid hup
      go_enter Try.func49, Try.ntmps49
      go_wp2_with fail
      go_end0
      exact ⟨rfl, (hB.alloc _).congr (fun j _ => hup.out j), (Wr.refl b w).alloc _⟩
  · have e1 : decide (0 ≤ mb) = false := by simpa using h1
    have hup : ∀ j, blv f j = blv (updB n f mb x) j := by intro j; unfold blv updB; simp [h1]
    replace hup := Lib.hid hup
    go_enter Try.func49, Try.ntmps49
    go_wp2_with fail
    go_end0
    exact ⟨rfl, (hB.alloc _).congr (fun j _ => hup.out j), (Wr.refl b w).alloc _⟩

def ClonedP (C R n : Nat) (f : Nat → Bool) (w : World) (r : Ending) (w' : World) : Prop :=
  ∃ b' c', r = .returned (dmV C R b' n c') ∧ w.heap.size ≤ b' ∧ VB w' b' 4 n (blv f) ∧ Below w.heap.size w w'

set_option maxHeartbeats 1000000 in
theorem dmClone_any (C R b n c : Nat) (f : Nat → Bool) (w : World) (hn : 0 < n ∧ n ≤ 64) (hB : VB w b 4 n (blv f)) :
    Calls Try.prog 79 #[dmV C R b n c] w (ClonedP C R n f w) := by
  have hlt := hB.lt
  obtain ⟨hn0, hn⟩ := hn
  obtain ⟨i0, hi, hz0, hz1, hz2⟩ := info_parts infoBool
  unfold dmV
  go_enter Try.func79, Try.ntmps79
  unfold dmC
  go_wp2_with (at_builtin; refine wpList_append_own _ rfl _ _ 55 rfl w.heap.size 4 i0 (.bool false) 1 1 Try.underlying55 hi hz0 hz1 hz2 rfl (by decide) (.slice none 0 0) 0 [] rfl (World.ownsRow_nil _ _ _ _) ⟨b, 0, none⟩ n c ((List.range n).map (blv f)) rfl (by simp) ?c1 ?c2 ?c3 ?c4 ?c5 ?_)
  case c1 =>
    intro j u hj
    have hj' : j < n := by
      rcases Nat.lt_or_ge j n with h | h
      · exact h
      · rw [List.getElem?_eq_none (by simp; omega)] at hj; cases hj
    rw [List.getElem?_map, List.getElem?_range hj'] at hj
    have e : blv f j = u := by simpa using hj
    subst e
    rw [Addr.add_lit, Nat.zero_add]
    exact ((hB.alloc _).alloc _).cell hj'
  case c2 =>
    intro u hu
    obtain ⟨j, _, rfl⟩ := List.mem_map.1 hu
    rfl
  case c3 => unfold maxLen; omega
  case c4 => omega
  case c5 => simp; omega
  intro v' w1 hown' hgrow _
  rcases hown'.2 with ⟨_, h⟩ | ⟨g, cap, cur, hv, hg, _⟩
  · omega
  subst hv
  have HV : VB w1 g 4 n (blv f) := (VB.of_owns (show w1.ownsRow w.heap.size 4 1 (.slice (some ⟨g, 0, none⟩) n cap) n _ from hown') (fun k hk => by rw [List.getElem?_map, List.getElem?_range hk]; rfl)).1
  have hgd := below_grown hgrow
  have HO : Ob w1 w.heap.size DMT (dmC C R b n c) := (((Ob.new_at (w := w) DMT _ rfl).alloc _)).later hgd
  have HZ : Ob w1 (w.heap.size + 1) DMT #[.int .i64 0, .int .i64 0, .slice none 0 0] := (Ob.new_at _ _ (by simp)).later hgd
  have HW : Below w.heap.size w w1 := below_step (by ((repeat (first | exact Below.refl _ _ | assumption | refine Below.setCell ?_ (by first | omega | (simp; done) | (simp; omega)) _ | refine Below.alloc ?_ (by first | omega | (simp; done) | (simp; omega)) _ | refine below_drewN ?_ _ | refine Below.drew ?_ | refine below_setRow ?_ (by first | omega | (simp; done) | (simp; omega)) _)))) hgd
  have hgn : w.heap.size + 1 < g ∨ g ≤ w.heap.size + 1 := by omega
  have n1 : w.heap.size ≠ g := HO.ne_vb HV (by decide)
  have n2 : w.heap.size + 1 ≠ g := HZ.ne_vb HV (by decide)
  clear hown' hgrow hgd hgn
  have c2 := HO.mS
  have f2 := HO.free 2
  go_wp2_with (first | (refine wpList_load_ob (HO.set 2 _) rfl _ _ rfl rfl Try.underlying58 (by kernel_rfl) ?_) | (refine wpList_store_ob (HZ.other (c := w.heap.size) (by omega) 2 _) rfl _ _ _ rfl rfl _ rfl (by kernel_rfl) rfl rfl ?_))
  exact bodyPost_ret (results_ob rfl _ ((HZ.other (c := w.heap.size) (by omega) 2 _).setRow_same _) rfl Try.underlying58 (by kernel_rfl)) rfl ⟨g, cap, rfl, hg, (HV.other n1 2 _).setRow n2 _, below_setRow (HW.setCell (by simp) _) (by omega) _⟩

def lsTo (f : Nat → Bool) : Nat → List Nat
  | 0 => []
  | k + 1 => lsTo f k ++ (if f k = true then [k] else [])
theorem lsTo_len (f : Nat → Bool) (n : Nat) : (lsTo f n).length = cntTo f n := by
  induction n with
  | zero => rfl
  | succ n ih => unfold lsTo cntTo; split <;> simp [ih]
def lsv (xs : List Nat) : List Value := xs.map fun (x : Nat) => .int .i64 (x : Int)
theorem lsTo_at {f : Nat → Bool} {k : Nat} (hf : f k = true) : ∀ n, k < n → (lsTo f n)[cntTo f k]? = some k := by
  intro n
  induction n with
  | zero => intro h; omega
  | succ n ih =>
    intro h
    unfold lsTo
    by_cases e : k = n
    · subst e
      rw [List.getElem?_append_right (by rw [lsTo_len]; exact Nat.le_refl _), lsTo_len, Nat.sub_self, if_pos hf]; rfl
    · have h1 := ih (by omega)
      rw [List.getElem?_append_left (List.getElem?_eq_some_iff.1 h1).1]
      exact h1
theorem cntTo_mono (f : Nat → Bool) {k n : Nat} (h : k ≤ n) : cntTo f k ≤ cntTo f n := by
  induction n with
  | zero => obtain rfl : k = 0 := by omega
            exact Nat.le_refl _
  | succ n ih =>
    by_cases e : k = n + 1
    · subst e; exact Nat.le_refl _
    · have := ih (by omega)
      show cntTo f k ≤ cntTo f n + _
      omega
theorem cntTo_lt {f : Nat → Bool} {k n : Nat} (hf : f k = true) (h : k < n) : cntTo f k < cntTo f n := by
  have h1 := cntTo_mono f (show k + 1 ≤ n by omega)
  have h2 : cntTo f (k + 1) = cntTo f k + 1 := by show cntTo f k + _ = _; rw [if_pos hf]
  omega

theorem infoInt : (Try.prog.info? 3).map (fun i => (i.zero, i.size, i.bytes)) = some (some (.int .i64 0), 1, 8) := by kernel_rfl
def ListP (n : Nat) (f : Nat → Bool) (w : World) (r : Ending) (w' : World) : Prop :=
  ∃ p c, r = .returned (.slice p (cntTo f n) c) ∧ (∀ k, k < n → f k = true → ∃ g, p = some ⟨g, 0, none⟩ ∧ VB w' g 3 (cntTo f n) (fun j => (lsv (lsTo f n)).getD j undef)) ∧ Below w.heap.size w w'

end Go.Proofs.Ytbldgpemocnboaa

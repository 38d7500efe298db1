/- A region that draws its order, by an invariant over which of its operations are done: each operation is run once, alone, in whatever order. It must be shown not to panic. -/
import Derived.Test.YtbldgpemocnboaaArr
import Derived.Orders
namespace Go.Proofs.Ytbldgpemocnboaa
open Go.RowKit

/-- Only the plain way out. -/
def Only (K : Act → World → Prop) : Exit → Act → World → Prop
  | .normal, a, w => K a w
  | _, _, _ => False

section
variable {P : Program} {ops : Array Oper} {Q : Exit → Act → World → Prop}

theorem wp_only {o : Oper} {a : Act} {w : World} {K N : Act → World → Prop} (h : o.wp P a w K (Only N)) : o.wp P a w K Q := by
  unfold Oper.wp at *
  generalize (execOp a.eval o).run P w = r at *
  cases r with
  | ok n w' =>
    cases n <;> simp only [Oper.upon] at h ⊢ <;>
      first
        | exact h
        | exact Calls.mono h (fun e w'' he => by
            cases e
            · exact he
            · exact he.elim
            · obtain ⟨_, _, hf⟩ := he; exact hf.elim)
        | exact Rows.mono h (fun _ _ he => he)
  | halt x w' => cases x <;> simp only [Oper.upon] at h ⊢ <;> first | exact h | exact h.elim

theorem wpOp_of_list {i : Nat} {o : Oper} {K : Act → World → Prop} {a : Act} {w : World} (hi : ops[i]? = some o) (h : wpList P ops (Only K) [o] a w) : wpOp P ops Q i K a w := by
  unfold wpOp
  simp only [hi]
  unfold wpList at h
  split at h
  · rename_i hw
    rw [if_pos hw]
    rcases h with h | ⟨_, _, _, hf⟩
    · exact Or.inl (wp_only (Oper.wp_mono (fun a w h => h) h))
    · exact hf.elim
  · rename_i hw
    rw [if_neg hw]
    exact h

/-- Every edge that binds leads back. -/
def backB (ops : Array Oper) : Bool := (List.range ops.size).all fun i => match ops[i]? with
  | some o => o.after.all fun e => !Region.binds .any e || decide (e.on < i)
  | none => true

def unl (n : Nat) (listed : Array Bool) : Nat := (List.range n).countP fun j => !listed.getD j true
theorem unl_succ (n : Nat) (listed : Array Bool) : unl (n + 1) listed = unl n listed + if listed.getD n true = false then 1 else 0 := by
  unfold unl
  rw [List.range_succ, List.countP_append]
  simp
theorem unl_set (n : Nat) (listed : Array Bool) (i : Nat) (hi : i < listed.size) (h : listed.getD i true = false) : unl n (listed.setIfInBounds i true) + (if i < n then 1 else 0) = unl n listed := by
  induction n with
  | zero => simp [unl]
  | succ n ih =>
    rw [unl_succ, unl_succ]
    by_cases e : i = n
    · subst e
      have h2 : (listed.setIfInBounds i true).getD i true = true := by simp [hi]
      rw [h2, h]
      simp at ih ⊢
      omega
    · rw [getD_set_ne true e]
      by_cases h3 : i < n
      · rw [if_pos h3] at ih; rw [if_pos (show i < n + 1 by omega)]; omega
      · rw [if_neg h3] at ih; rw [if_neg (show ¬ i < n + 1 by omega)]; omega
theorem unl_zero (n : Nat) (listed : Array Bool) (h : unl n listed = 0) : ∀ j, j < n → listed.getD j true = true := by
  intro j hj
  unfold unl at h
  rw [List.countP_eq_zero] at h
  simpa using h j (by simpa using hj)
theorem unl_pos (n : Nat) (listed : Array Bool) (h : 0 < unl n listed) : ∃ j, j < n ∧ listed.getD j true = false := by
  unfold unl at h
  obtain ⟨j, hj, hb⟩ := List.countP_pos_iff.1 h
  exact ⟨j, by simpa using hj, by simpa using hb⟩
theorem least_unl (listed : Array Bool) : ∀ n, (∃ j, j < n ∧ listed.getD j true = false) → ∃ j, j < n ∧ listed.getD j true = false ∧ ∀ k, k < j → listed.getD k true = true := by
  intro n
  induction n with
  | zero => rintro ⟨j, hj, _⟩; omega
  | succ n ih =>
    rintro ⟨j, hj, hl⟩
    by_cases h : ∃ j, j < n ∧ listed.getD j true = false
    · obtain ⟨k, hk, h1, h2⟩ := ih h
      exact ⟨k, by omega, h1, h2⟩
    · have hjn : j = n := by
        rcases Nat.lt_or_ge j n with h' | h'
        · exact (h ⟨j, h', hl⟩).elim
        · omega
      subst hjn
      refine ⟨j, by omega, hl, fun k hk => ?_⟩
      cases hc : listed.getD k true with
      | true => rfl
      | false => exact (h ⟨k, hk, hc⟩).elim
theorem getD_tf {listed : Array Bool} {i : Nat} (hi : i < listed.size) (h : listed.getD i true = true) : listed.getD i false = true := by
  simp [hi] at h ⊢; exact h

theorem getD_ff {listed : Array Bool} {i : Nat} (h : listed.getD i true = false) : listed.getD i false = false := by
  by_cases hi : i < listed.size
  · simp [hi] at h ⊢; exact h
  · simp [hi] at h

theorem wpAny_inv (hac : backB ops = true) (Inv : (Nat → Bool) → Act → World → Prop)
    (hs : ∀ i o, ops[i]? = some o → ∀ L a w, L i = false → Inv L a w → (∀ e ∈ o.after, Region.binds .any e = true → L e.on = true) → wpList P ops (Only (fun a' w' => Inv (fun j => j == i || L j) a' w')) [o] a w)
    (he : ∀ L a w, (∀ j, j < ops.size → L j = true) → Inv L a w → Q .normal a w) :
    ∀ (fuel : Nat) (listed : Array Bool) (a : Act) (w : World), listed.size = ops.size → unl ops.size listed = fuel → Inv (fun j => listed.getD j false) a w → wpAny P .any ops Q fuel listed a w := by
  intro fuel
  induction fuel with
  | zero =>
    intro listed a w hsz hu hI
    have hall := unl_zero _ _ hu
    refine ⟨?_, he _ _ _ (fun j hj => getD_tf (by omega) (hall j hj)) hI⟩
    rw [List.eq_nil_iff_forall_not_mem]
    intro j hj
    obtain ⟨h1, o, ho, _⟩ := mem_ready.1 hj
    have hjs : j < ops.size := (Array.getElem?_eq_some_iff.1 ho).1
    rw [hall j hjs] at h1; cases h1
  | succ fuel ih =>
    intro listed a w hsz hu hI
    refine ⟨fun hr => ?_, fun i hi => ?_⟩
    · exfalso
      obtain ⟨j, hj, h1, h2⟩ := least_unl listed ops.size (unl_pos _ _ (by omega))
      have hm : j ∈ Region.ready .any ops listed := by
        refine mem_ready.2 ⟨h1, ops[j], by simp [hj], fun e he hbd => ?_⟩
        have hb := List.all_eq_true.1 hac j (List.mem_range.2 hj)
        rw [Array.getElem?_eq_getElem hj] at hb
        have hlt := Array.all_eq_true_iff_forall_mem.1 hb e he
        simp only [hbd, Bool.not_true, Bool.false_or, decide_eq_true_eq] at hlt
        exact getD_tf (by omega) (h2 _ hlt)
      rw [hr] at hm; cases hm
    · obtain ⟨h1, o, ho, hdep⟩ := mem_ready.1 hi
      have his : i < ops.size := (Array.getElem?_eq_some_iff.1 ho).1
      refine wpOp_mono (fun a' w' h => ?_) (wpOp_of_list ho (hs i o ho _ a w (getD_ff h1) hI hdep))
      refine ih _ a' w' (by simp [hsz]) ?_ ?_
      · have := unl_set ops.size listed i (by omega) h1
        rw [if_pos his] at this
        omega
      · have e : (fun j => (listed.setIfInBounds i true).getD j false) = fun j => j == i || listed.getD j false := by
          funext j
          by_cases hj : i = j
          · subst hj; simp [show i < listed.size by omega]
          · rw [getD_set_ne false hj]
            have : (j == i) = false := by simpa using fun h => hj h.symm
            rw [this, Bool.false_or]
        rw [e]; exact h

theorem wp_region_inv2 {id : Nat} {a : Act} {w : World} {l : List Oper} (hm : P.follows .mixedOrders = true) (hac : backB l.toArray = true) (Inv : (Nat → Bool) → Act → World → Prop)
    (h0 : Inv (fun _ => false) a w.drew)
    (hs : ∀ i o, l[i]? = some o → ∀ L a w, L i = false → Inv L a w → (∀ e ∈ o.after, Region.binds .any e = true → L e.on = true) → wpList P l.toArray (Only (fun a' w' => Inv (fun j => j == i || L j) a' w')) [o] a w)
    (he : ∀ L a w, (∀ j, j < l.length → L j = true) → Inv L a w → Q .normal a w) : (Code.region id l.toArray true).wp P Q a w := by
  refine wp_region_any hm (wpAny_inv hac Inv (fun i o hi => hs i o (by simpa using hi)) (fun L a w hL => he L a w (by simpa using hL)) _ _ _ _ (by simp) ?_ ?_)
  · have : ∀ n, n ≤ l.toArray.size → unl n (Array.replicate l.toArray.size false) = n := by
      intro n
      induction n with
      | zero => intro _; rfl
      | succ n ih =>
        intro hn
        have hn' : n < l.length := by simp at hn; omega
        rw [unl_succ, ih (by omega), if_pos (by simp [hn'])]
    exact this _ (Nat.le_refl _)
  · have e : (fun j => (Array.replicate l.toArray.size false).getD j false) = fun _ => false := by
      funext j
      by_cases h : j < l.length
      · simp [h]
      · simp [h]
    rw [e]; exact h0
end

theorem wp_region_inv {P : Program} {Q : Exit → Act → World → Prop} {id : Nat} {a : Act} {w : World} {l : List Oper} (hm : P.follows .mixedOrders = true) (hac : backB l.toArray = true) (Inv : (Nat → Bool) → Act → World → Prop)
    (h0 : Inv (fun _ => false) a w.drew)
    (hs : ∀ i o, l[i]? = some o → ∀ L a w, Inv L a w → (∀ e ∈ o.after, Region.binds .any e = true → L e.on = true) → wpList P l.toArray (Only (fun a' w' => Inv (fun j => j == i || L j) a' w')) [o] a w)
    (he : ∀ L a w, (∀ j, j < l.length → L j = true) → Inv L a w → Q .normal a w) : (Code.region id l.toArray true).wp P Q a w :=
  wp_region_inv2 hm hac Inv h0 (fun i o hi L a w _ => hs i o hi L a w) he

/-- One slot, set. -/
def upd (v : Nat → Value) (t : Nat) (x : Value) (s : Nat) : Value := if s = t then x else v s
/-- A frame with the slots D filled by v. -/
def fill (a : Act) : List Nat → (Nat → Value) → Act
  | [], _ => a
  | t :: D, v => fill (a.put (some t) (v t)) D v
theorem fill_self (a : Act) (D : List Nat) : fill a D (fun t => a.tmps.getD t undef) = a := by
  induction D with
  | nil => rfl
  | cons t D ih =>
    unfold fill
    have e : a.put (some t) (a.tmps.getD t undef) = a := by
      unfold Act.put
      cases a with
      | mk tmps defers =>
        simp only
        congr 1
        apply Array.ext_getElem?
        intro j
        rw [Array.getElem?_setIfInBounds]
        by_cases h : t = j
        · subst h
          by_cases h2 : t < tmps.size
          · simp [h2]
          · simp [h2]
        · rw [if_neg h]
    rw [e]; exact ih

/-- The frame is a filled one, and what is said of the slots holds. -/
def Filled (a : Act) (D : List Nat) (R : (Nat → Bool) → (Nat → Value) → World → Prop) (L : Nat → Bool) (a' : Act) (w' : World) : Prop := ∃ v', a' = fill a D v' ∧ R L v' w'

theorem wp_region_slots {P : Program} {Q : Exit → Act → World → Prop} {id : Nat} {a : Act} {w : World} {l : List Oper} (hm : P.follows .mixedOrders = true) (hac : backB l.toArray = true)
    (D : List Nat) (R : (Nat → Bool) → (Nat → Value) → World → Prop)
    (h0 : ∀ v, R (fun _ => false) v w.drew)
    (hs : ∀ i o, l[i]? = some o → ∀ L v w, R L v w → (∀ e ∈ o.after, Region.binds .any e = true → L e.on = true) → wpList P l.toArray (Only (Filled a D R (fun j => j == i || L j))) [o] (fill a D v) w)
    (he : ∀ L v w, (∀ j, j < l.length → L j = true) → R L v w → Q .normal (fill a D v) w) : (Code.region id l.toArray true).wp P Q a w := by
  refine wp_region_inv hm hac (Filled a D R) ⟨_, (fill_self a D).symm, h0 _⟩ ?_ ?_
  · rintro i o hi L a' w' ⟨v', rfl, hR⟩ hd
    exact hs i o hi L v' w' hR hd
  · rintro L a' w' hL ⟨v', rfl, hR⟩
    exact he L v' w' hL hR

theorem wp_region_slots2 {P : Program} {Q : Exit → Act → World → Prop} {id : Nat} {a : Act} {w : World} {l : List Oper} (hm : P.follows .mixedOrders = true) (hac : backB l.toArray = true)
    (D : List Nat) (R : (Nat → Bool) → (Nat → Value) → World → Prop)
    (h0 : ∀ v, R (fun _ => false) v w.drew)
    (hs : ∀ i o, l[i]? = some o → ∀ L v w, L i = false → R L v w → (∀ e ∈ o.after, Region.binds .any e = true → L e.on = true) → wpList P l.toArray (Only (Filled a D R (fun j => j == i || L j))) [o] (fill a D v) w)
    (he : ∀ L v w, (∀ j, j < l.length → L j = true) → R L v w → Q .normal (fill a D v) w) : (Code.region id l.toArray true).wp P Q a w := by
  refine wp_region_inv2 hm hac (Filled a D R) ⟨_, (fill_self a D).symm, h0 _⟩ ?_ ?_
  · rintro i o hi L a' w' hn ⟨v', rfl, hR⟩ hd
    exact hs i o hi L v' w' hn hR hd
  · rintro L a' w' hL ⟨v', rfl, hR⟩
    exact he L v' w' hL hR

/-- A guarded operation that is wanted: a whole array is read. -/
theorem wpList_load_blk_g {P : Program} {ops : Array Oper} {rest : List Oper} {o : Oper} {a : Act} {w : World} {Q : Exit → Act → World → Prop} {b n : Nat} {T E : TypeId} {f : Nat → Value}
    (H : Blk w b T n f) (hw : Region.wanted o (yielded ops a.tmps) = true) (ty : TypeId) (x : Operand) (ho : o.op = .load ty x) (hx : a.eval x = .pointer (some ⟨b, 0, none⟩))
    (hu : P.underlying ty = some (.array n E)) (hi : (P.info? ty).map (·.size) = some n)
    (h : wpList P ops Q rest (a.put o.dst (.agg (fcells n f))) w) : wpList P ops Q (o :: rest) a w :=
  wpList_step fun K hK => by
    rw [if_pos hw]
    exact wp_load_row ty x ho b hx T (fcells n f) (0, 0) _ H hu rfl (by rw [fcells_size]; exact hi) (hK _ _ h)
end Go.Proofs.Ytbldgpemocnboaa

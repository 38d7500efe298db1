/- A region that draws its order, by an invariant over which of its operations are done: each operation is run once, alone, in whatever order. It must be shown not to panic. | A region that draws its order: its operations read, compute, or call what leaves old memory as it was (a class of worlds C); blocks are made; at the end stores, one behind the other. One walk in the order of the text serves every order. Conditions: the checks are closed facts. | A region that draws its order, in which blocks are made and handed on: a chain of operations (each waits for the one before) that make memory, beside operations that read, and at the end stores. One walk serves every order. | A region that draws its order, some of whose operations yield what is only known by a property (a new block, a call's new slice), which others read. One walk of the text's order serves every order. | A slot of a region that draws its order which is to hold a new block: whether the block is made, whether it is stored into. -/
import Derived.Test.YtbldgpemocnboaaArr
import Derived.Orders
import Derived.Deep.Quiet
import Derived.BigQuiet
import Derived.Lib.QuietBelow
import Derived.Test.YtbldgpemocnboaaOb
namespace Go.Proofs.Ytbldgpemocnboaa
open Go.RowKit

/-- Only the plain way out. -/
def Only (K : Act → World → Prop) : Exit → Act → World → Prop
  | .normal, a, w => K a w
  | _, _, _ => False

section
variable {P : Program} {ops : Array Oper} {Q : Exit → Act → World → Prop}

theorem wp_only {o : Oper} {a : Act} {w : World} {K N : Act → World → Prop} (h : o.wp P a w K (Only N)) : o.wp P a w K Q := by
  unfold Oper.wp at *
  generalize (execOp a.eval o).run P w = r at *
  cases r with
  | ok n w' =>
    cases n <;> simp only [Oper.upon] at h ⊢ <;>
      first
        | exact h
        | exact Calls.mono h (fun e w'' he => by
            cases e
            · exact he
            · exact he.elim
            · obtain ⟨_, _, hf⟩ := he; exact hf.elim)
        | exact Rows.mono h (fun _ _ he => he)
  | halt x w' => cases x <;> simp only [Oper.upon] at h ⊢ <;> first | exact h | exact h.elim

theorem wpOp_of_list {i : Nat} {o : Oper} {K : Act → World → Prop} {a : Act} {w : World} (hi : ops[i]? = some o) (h : wpList P ops (Only K) [o] a w) : wpOp P ops Q i K a w := by
  unfold wpOp
  simp only [hi]
  unfold wpList at h
  split at h
  · rename_i hw
    rw [if_pos hw]
    rcases h with h | ⟨_, _, _, hf⟩
    · exact Or.inl (wp_only (Oper.wp_mono (fun a w h => h) h))
    · exact hf.elim
  · rename_i hw
    rw [if_neg hw]
    exact h

/-- Every edge that binds leads back. -/
def backB (ops : Array Oper) : Bool := (List.range ops.size).all fun i => match ops[i]? with
  | some o => o.after.all fun e => !Region.binds .any e || decide (e.on < i)
  | none => true

def unl (n : Nat) (listed : Array Bool) : Nat := (List.range n).countP fun j => !listed.getD j true
theorem unl_succ (n : Nat) (listed : Array Bool) : unl (n + 1) listed = unl n listed + if listed.getD n true = false then 1 else 0 := by
  unfold unl
  rw [List.range_succ, List.countP_append]
  simp
theorem unl_set (n : Nat) (listed : Array Bool) (i : Nat) (hi : i < listed.size) (h : listed.getD i true = false) : unl n (listed.setIfInBounds i true) + (if i < n then 1 else 0) = unl n listed := by
  induction n with
  | zero => simp [unl]
  | succ n ih =>
    rw [unl_succ, unl_succ]
    by_cases e : i = n
    · subst e
      have h2 : (listed.setIfInBounds i true).getD i true = true := by simp [hi]
      rw [h2, h]
      simp at ih ⊢
      omega
    · rw [getD_set_ne true e]
      by_cases h3 : i < n
      · rw [if_pos h3] at ih; rw [if_pos (show i < n + 1 by omega)]; omega
      · rw [if_neg h3] at ih; rw [if_neg (show ¬ i < n + 1 by omega)]; omega
theorem unl_zero (n : Nat) (listed : Array Bool) (h : unl n listed = 0) : ∀ j, j < n → listed.getD j true = true := by
  intro j hj
  unfold unl at h
  rw [List.countP_eq_zero] at h
  simpa using h j (by simpa using hj)
theorem unl_pos (n : Nat) (listed : Array Bool) (h : 0 < unl n listed) : ∃ j, j < n ∧ listed.getD j true = false := by
  unfold unl at h
  obtain ⟨j, hj, hb⟩ := List.countP_pos_iff.1 h
  exact ⟨j, by simpa using hj, by simpa using hb⟩
theorem least_unl (listed : Array Bool) : ∀ n, (∃ j, j < n ∧ listed.getD j true = false) → ∃ j, j < n ∧ listed.getD j true = false ∧ ∀ k, k < j → listed.getD k true = true := by
  intro n
  induction n with
  | zero => rintro ⟨j, hj, _⟩; omega
  | succ n ih =>
    rintro ⟨j, hj, hl⟩
    by_cases h : ∃ j, j < n ∧ listed.getD j true = false
    · obtain ⟨k, hk, h1, h2⟩ := ih h
      exact ⟨k, by omega, h1, h2⟩
    · have hjn : j = n := by
        rcases Nat.lt_or_ge j n with h' | h'
        · exact (h ⟨j, h', hl⟩).elim
        · omega
      subst hjn
      refine ⟨j, by omega, hl, fun k hk => ?_⟩
      cases hc : listed.getD k true with
      | true => rfl
      | false => exact (h ⟨k, hk, hc⟩).elim
theorem getD_tf {listed : Array Bool} {i : Nat} (hi : i < listed.size) (h : listed.getD i true = true) : listed.getD i false = true := by
  simp [hi] at h ⊢; exact h

theorem getD_ff {listed : Array Bool} {i : Nat} (h : listed.getD i true = false) : listed.getD i false = false := by
  by_cases hi : i < listed.size
  · simp [hi] at h ⊢; exact h
  · simp [hi] at h

theorem wpAny_inv (hac : backB ops = true) (Inv : (Nat → Bool) → Act → World → Prop)
    (hs : ∀ i o, ops[i]? = some o → ∀ L a w, L i = false → Inv L a w → (∀ e ∈ o.after, Region.binds .any e = true → L e.on = true) → wpList P ops (Only (fun a' w' => Inv (fun j => j == i || L j) a' w')) [o] a w)
    (he : ∀ L a w, (∀ j, j < ops.size → L j = true) → Inv L a w → Q .normal a w) :
    ∀ (fuel : Nat) (listed : Array Bool) (a : Act) (w : World), listed.size = ops.size → unl ops.size listed = fuel → Inv (fun j => listed.getD j false) a w → wpAny P .any ops Q fuel listed a w := by
  intro fuel
  induction fuel with
  | zero =>
    intro listed a w hsz hu hI
    have hall := unl_zero _ _ hu
    refine ⟨?_, he _ _ _ (fun j hj => getD_tf (by omega) (hall j hj)) hI⟩
    rw [List.eq_nil_iff_forall_not_mem]
    intro j hj
    obtain ⟨h1, o, ho, _⟩ := mem_ready.1 hj
    have hjs : j < ops.size := (Array.getElem?_eq_some_iff.1 ho).1
    rw [hall j hjs] at h1; cases h1
  | succ fuel ih =>
    intro listed a w hsz hu hI
    refine ⟨fun hr => ?_, fun i hi => ?_⟩
    · exfalso
      obtain ⟨j, hj, h1, h2⟩ := least_unl listed ops.size (unl_pos _ _ (by omega))
      have hm : j ∈ Region.ready .any ops listed := by
        refine mem_ready.2 ⟨h1, ops[j], by simp [hj], fun e he hbd => ?_⟩
        have hb := List.all_eq_true.1 hac j (List.mem_range.2 hj)
        rw [Array.getElem?_eq_getElem hj] at hb
        have hlt := Array.all_eq_true_iff_forall_mem.1 hb e he
        simp only [hbd, Bool.not_true, Bool.false_or, decide_eq_true_eq] at hlt
        exact getD_tf (by omega) (h2 _ hlt)
      rw [hr] at hm; cases hm
    · obtain ⟨h1, o, ho, hdep⟩ := mem_ready.1 hi
      have his : i < ops.size := (Array.getElem?_eq_some_iff.1 ho).1
      refine wpOp_mono (fun a' w' h => ?_) (wpOp_of_list ho (hs i o ho _ a w (getD_ff h1) hI hdep))
      refine ih _ a' w' (by simp [hsz]) ?_ ?_
      · have := unl_set ops.size listed i (by omega) h1
        rw [if_pos his] at this
        omega
      · have e : (fun j => (listed.setIfInBounds i true).getD j false) = fun j => j == i || listed.getD j false := by
          funext j
          by_cases hj : i = j
          · subst hj; simp [show i < listed.size by omega]
          · rw [getD_set_ne false hj]
            have : (j == i) = false := by simpa using fun h => hj h.symm
            rw [this, Bool.false_or]
        rw [e]; exact h

theorem wp_region_inv2 {id : Nat} {a : Act} {w : World} {l : List Oper} (hm : P.follows .mixedOrders = true) (hac : backB l.toArray = true) (Inv : (Nat → Bool) → Act → World → Prop)
    (h0 : Inv (fun _ => false) a w.drew)
    (hs : ∀ i o, l[i]? = some o → ∀ L a w, L i = false → Inv L a w → (∀ e ∈ o.after, Region.binds .any e = true → L e.on = true) → wpList P l.toArray (Only (fun a' w' => Inv (fun j => j == i || L j) a' w')) [o] a w)
    (he : ∀ L a w, (∀ j, j < l.length → L j = true) → Inv L a w → Q .normal a w) : (Code.region id l.toArray true).wp P Q a w := by
  refine wp_region_any hm (wpAny_inv hac Inv (fun i o hi => hs i o (by simpa using hi)) (fun L a w hL => he L a w (by simpa using hL)) _ _ _ _ (by simp) ?_ ?_)
  · have : ∀ n, n ≤ l.toArray.size → unl n (Array.replicate l.toArray.size false) = n := by
      intro n
      induction n with
      | zero => intro _; rfl
      | succ n ih =>
        intro hn
        have hn' : n < l.length := by simp at hn; omega
        rw [unl_succ, ih (by omega), if_pos (by simp [hn'])]
    exact this _ (Nat.le_refl _)
  · have e : (fun j => (Array.replicate l.toArray.size false).getD j false) = fun _ => false := by
      funext j
      by_cases h : j < l.length
      · simp [h]
      · simp [h]
    rw [e]; exact h0
end

theorem wp_region_inv {P : Program} {Q : Exit → Act → World → Prop} {id : Nat} {a : Act} {w : World} {l : List Oper} (hm : P.follows .mixedOrders = true) (hac : backB l.toArray = true) (Inv : (Nat → Bool) → Act → World → Prop)
    (h0 : Inv (fun _ => false) a w.drew)
    (hs : ∀ i o, l[i]? = some o → ∀ L a w, Inv L a w → (∀ e ∈ o.after, Region.binds .any e = true → L e.on = true) → wpList P l.toArray (Only (fun a' w' => Inv (fun j => j == i || L j) a' w')) [o] a w)
    (he : ∀ L a w, (∀ j, j < l.length → L j = true) → Inv L a w → Q .normal a w) : (Code.region id l.toArray true).wp P Q a w :=
  wp_region_inv2 hm hac Inv h0 (fun i o hi L a w _ => hs i o hi L a w) he

/-- One slot, set. -/
def upd (v : Nat → Value) (t : Nat) (x : Value) (s : Nat) : Value := if s = t then x else v s
/-- A frame with the slots D filled by v. -/
def fill (a : Act) : List Nat → (Nat → Value) → Act
  | [], _ => a
  | t :: D, v => fill (a.put (some t) (v t)) D v
theorem fill_self (a : Act) (D : List Nat) : fill a D (fun t => a.tmps.getD t undef) = a := by
  induction D with
  | nil => rfl
  | cons t D ih =>
    unfold fill
    have e : a.put (some t) (a.tmps.getD t undef) = a := by
      unfold Act.put
      cases a with
      | mk tmps defers =>
        simp only
        congr 1
        apply Array.ext_getElem?
        intro j
        rw [Array.getElem?_setIfInBounds]
        by_cases h : t = j
        · subst h
          by_cases h2 : t < tmps.size
          · simp [h2]
          · simp [h2]
        · rw [if_neg h]
    rw [e]; exact ih

/-- The frame is a filled one, and what is said of the slots holds. -/
def Filled (a : Act) (D : List Nat) (R : (Nat → Bool) → (Nat → Value) → World → Prop) (L : Nat → Bool) (a' : Act) (w' : World) : Prop := ∃ v', a' = fill a D v' ∧ R L v' w'

theorem wp_region_slots {P : Program} {Q : Exit → Act → World → Prop} {id : Nat} {a : Act} {w : World} {l : List Oper} (hm : P.follows .mixedOrders = true) (hac : backB l.toArray = true)
    (D : List Nat) (R : (Nat → Bool) → (Nat → Value) → World → Prop)
    (h0 : ∀ v, R (fun _ => false) v w.drew)
    (hs : ∀ i o, l[i]? = some o → ∀ L v w, R L v w → (∀ e ∈ o.after, Region.binds .any e = true → L e.on = true) → wpList P l.toArray (Only (Filled a D R (fun j => j == i || L j))) [o] (fill a D v) w)
    (he : ∀ L v w, (∀ j, j < l.length → L j = true) → R L v w → Q .normal (fill a D v) w) : (Code.region id l.toArray true).wp P Q a w := by
  refine wp_region_inv hm hac (Filled a D R) ⟨_, (fill_self a D).symm, h0 _⟩ ?_ ?_
  · rintro i o hi L a' w' ⟨v', rfl, hR⟩ hd
    exact hs i o hi L v' w' hR hd
  · rintro L a' w' hL ⟨v', rfl, hR⟩
    exact he L v' w' hL hR

theorem wp_region_slots2 {P : Program} {Q : Exit → Act → World → Prop} {id : Nat} {a : Act} {w : World} {l : List Oper} (hm : P.follows .mixedOrders = true) (hac : backB l.toArray = true)
    (D : List Nat) (R : (Nat → Bool) → (Nat → Value) → World → Prop)
    (h0 : ∀ v, R (fun _ => false) v w.drew)
    (hs : ∀ i o, l[i]? = some o → ∀ L v w, L i = false → R L v w → (∀ e ∈ o.after, Region.binds .any e = true → L e.on = true) → wpList P l.toArray (Only (Filled a D R (fun j => j == i || L j))) [o] (fill a D v) w)
    (he : ∀ L v w, (∀ j, j < l.length → L j = true) → R L v w → Q .normal (fill a D v) w) : (Code.region id l.toArray true).wp P Q a w := by
  refine wp_region_inv2 hm hac (Filled a D R) ⟨_, (fill_self a D).symm, h0 _⟩ ?_ ?_
  · rintro i o hi L a' w' hn ⟨v', rfl, hR⟩ hd
    exact hs i o hi L v' w' hn hR hd
  · rintro L a' w' hL ⟨v', rfl, hR⟩
    exact he L v' w' hL hR

/-- A guarded operation that is wanted: a whole array is read. -/
theorem wpList_load_blk_g {P : Program} {ops : Array Oper} {rest : List Oper} {o : Oper} {a : Act} {w : World} {Q : Exit → Act → World → Prop} {b n : Nat} {T E : TypeId} {f : Nat → Value}
    (H : Blk w b T n f) (hw : Region.wanted o (yielded ops a.tmps) = true) (ty : TypeId) (x : Operand) (ho : o.op = .load ty x) (hx : a.eval x = .pointer (some ⟨b, 0, none⟩))
    (hu : P.underlying ty = some (.array n E)) (hi : (P.info? ty).map (·.size) = some n)
    (h : wpList P ops Q rest (a.put o.dst (.agg (fcells n f))) w) : wpList P ops Q (o :: rest) a w :=
  wpList_step fun K hK => by
    rw [if_pos hw]
    exact wp_load_row ty x ho b hx T (fcells n f) (0, 0) _ H hu rfl (by rw [fcells_size]; exact hi) (hK _ _ h)
end Go.Proofs.Ytbldgpemocnboaa

namespace Go.Proofs.Ytbldgpemocnboaa
open Go.RowKit Go.Sort

/-! ### Which operation waits for which -/
def ancMask (acc : List Nat) (es : List Edge) : Nat := es.foldl (fun s e => if Region.binds .any e then s ||| 2 ^ e.on ||| acc.getD e.on 0 else s) 0
def ancs : List Oper → List Nat → List Nat
  | [], acc => acc
  | o :: r, acc => ancs r (acc ++ [ancMask acc o.after.toList])
inductive Anc (ops : Array Oper) : Nat → Nat → Prop
  | one {j : Nat} {o : Oper} {e : Edge} : ops[j]? = some o → e ∈ o.after → Region.binds .any e = true → Anc ops j e.on
  | tr {j i : Nat} {o : Oper} {e : Edge} : ops[j]? = some o → e ∈ o.after → Region.binds .any e = true → Anc ops e.on i → Anc ops j i

theorem ancMask_bit (acc : List Nat) (i : Nat) : ∀ (es : List Edge) (s : Nat), (es.foldl (fun s e => if Region.binds .any e then s ||| 2 ^ e.on ||| acc.getD e.on 0 else s) s).testBit i = true →
    s.testBit i = true ∨ ∃ e ∈ es, Region.binds .any e = true ∧ (e.on = i ∨ (acc.getD e.on 0).testBit i = true)
  | [], s, h => Or.inl h
  | e :: es, s, h => by
    rw [List.foldl_cons] at h
    rcases ancMask_bit acc i es _ h with h | ⟨e', he', h'⟩
    · by_cases hb : Region.binds .any e = true
      · rw [if_pos hb, Nat.testBit_or, Nat.testBit_or] at h
        simp only [Bool.or_eq_true] at h
        rcases h with (h | h) | h
        · exact Or.inl h
        · refine Or.inr ⟨e, List.mem_cons_self, hb, Or.inl ?_⟩
          rw [Nat.testBit_two_pow] at h; simpa using h
        · exact Or.inr ⟨e, List.mem_cons_self, hb, Or.inr h⟩
      · rw [if_neg hb] at h; exact Or.inl h
    · exact Or.inr ⟨e', List.mem_cons_of_mem _ he', h'⟩

theorem ancs_spec (ops : Array Oper) : ∀ (r : List Oper) (acc : List Nat), (∀ j, r[j]? = ops[acc.length + j]?) → (∀ j i, (acc.getD j 0).testBit i = true → Anc ops j i) →
    ∀ j i, ((ancs r acc).getD j 0).testBit i = true → Anc ops j i
  | [], acc, _, h => h
  | o :: r, acc, hl, h => by
    refine ancs_spec ops r _ (fun j => ?_) ?_
    · have := hl (j + 1)
      simp only [List.getElem?_cons_succ] at this
      rw [this, List.length_append, List.length_singleton, Nat.add_assoc, Nat.add_comm 1 j]
    · intro j i hb
      have h0 : ops[acc.length]? = some o := by simpa using (hl 0).symm
      by_cases hj : j < acc.length
      · rw [List.getD_eq_getElem?_getD, List.getElem?_append_left hj, ← List.getD_eq_getElem?_getD] at hb
        exact h j i hb
      · by_cases hj2 : j = acc.length
        · subst hj2
          rw [List.getD_eq_getElem?_getD, List.getElem?_append_right (Nat.le_refl _)] at hb
          simp only [Nat.sub_self, List.getElem?_cons_zero, Option.getD_some] at hb
          rcases ancMask_bit acc i _ _ hb with h1 | ⟨e, he, hbd, h1⟩
          · simp at h1
          · rcases h1 with rfl | h1
            · exact .one h0 (by simpa using he) hbd
            · exact .tr h0 (by simpa using he) hbd (h _ _ h1)
        · rw [List.getD_eq_getElem?_getD, List.getElem?_append_right (by omega), List.getElem?_eq_none (by simp; omega)] at hb
          simp at hb

def Clo (ops : Array Oper) (L : Nat → Bool) : Prop := ∀ j o, ops[j]? = some o → L j = true → ∀ e ∈ o.after, Region.binds .any e = true → L e.on = true
theorem anc_done {ops : Array Oper} {L : Nat → Bool} (hc : Clo ops L) {j i : Nat} (h : Anc ops j i) : (∀ o, ops[j]? = some o → ∀ e ∈ o.after, Region.binds .any e = true → L e.on = true) → L i = true := by
  induction h with
  | one ho he hb => intro hd; exact hd _ ho _ he hb
  | tr ho he hb _ ih => intro hd; exact ih (fun o' ho' => hc _ o' ho' (hd _ ho _ he hb))

/-! ### The frame, filled in the order of the text by what is done -/
def dstOf (ops : Array Oper) (k : Nat) : Option Tmp := (ops[k]?).bind (·.dst)
def puts (ops : Array Oper) (v : Nat → Value) (L : Nat → Bool) (a : Act) : Nat → Act
  | 0 => a
  | k + 1 => if L k then (puts ops v L a k).put (dstOf ops k) (v k) else puts ops v L a k

section
variable {ops : Array Oper} {v v' : Nat → Value} {L L' : Nat → Bool} {a : Act}
theorem put_size (a : Act) (d : Option Tmp) (x : Value) : (a.put d x).tmps.size = a.tmps.size := by cases d <;> simp [Act.put]
theorem put_get_ne (a : Act) {d : Option Tmp} {t : Nat} (h : d ≠ some t) (x : Value) : (a.put d x).tmps[t]? = a.tmps[t]? := by
  cases d with
  | none => rfl
  | some d => simp only [Act.put]; rw [Array.getElem?_setIfInBounds_ne (fun e => h (by rw [e]))]
theorem put_get_eq {a b : Act} (hs : a.tmps.size = b.tmps.size) (t : Nat) (x : Value) : (a.put (some t) x).tmps[t]? = (b.put (some t) x).tmps[t]? := by
  simp only [Act.put, Array.getElem?_setIfInBounds]
  simp [hs]
theorem puts_size (n : Nat) : (puts ops v L a n).tmps.size = a.tmps.size := by
  induction n with
  | zero => rfl
  | succ n ih => unfold puts; split
                 · rw [put_size, ih]
                 · exact ih
theorem puts_congr {n : Nat} (hL : ∀ k, k < n → L k = L' k) (hv : ∀ k, k < n → L k = true → v k = v' k) : puts ops v L a n = puts ops v' L' a n := by
  induction n with
  | zero => rfl
  | succ n ih =>
    unfold puts
    rw [ih (fun k hk => hL k (by omega)) (fun k hk => hv k (by omega)), ← hL n (by omega)]
    split
    · rename_i h; rw [hv n (by omega) h]
    · rfl
theorem puts_add {i n : Nat} (hi : i < n) (hLi : L i = false) (hfree : ∀ k, i < k → k < n → L k = true → ∀ d, dstOf ops k = some d → dstOf ops i ≠ some d) :
    puts ops v (fun j => j == i || L j) a n = (puts ops v L a n).put (dstOf ops i) (v i) := by
  induction n with
  | zero => omega
  | succ n ih =>
    by_cases hin : i = n
    · subst hin
      unfold puts
      rw [if_pos (by simp), if_neg (by simp [hLi])]
      congr 1
      exact puts_congr (fun k hk => by have : (k == i) = false := by simpa using (show k ≠ i by omega)
                                       simp [this]) (fun _ _ _ => rfl)
    · have ih' := ih (by omega) (fun k h1 h2 => hfree k h1 (by omega))
      unfold puts
      have hne : (n == i) = false := by simpa using (show n ≠ i by omega)
      simp only [hne, Bool.false_or]
      rw [ih']
      split
      · rename_i hn
        exact Act.put_comm _ _ _ (fun d hd => fun h2 => hfree n (by omega) (by omega) hn d h2 hd)
      · rfl
theorem puts_beyond {t i n : Nat} (hin : i ≤ n) (h : ∀ k, i ≤ k → k < n → L k = true → dstOf ops k ≠ some t) : (puts ops v L a n).tmps[t]? = (puts ops v L a i).tmps[t]? := by
  induction n with
  | zero => obtain rfl : i = 0 := by omega
            rfl
  | succ n ih =>
    by_cases e : i = n + 1
    · subst e; rfl
    · rw [← ih (by omega) (fun k h1 h2 => h k h1 (by omega))]
      conv => lhs; unfold puts
      split
      · rename_i hn; exact put_get_ne _ (h n (by omega) (by omega) hn) _
      · rfl
theorem puts_same {t n : Nat} (h : ∀ k, k < n → dstOf ops k = some t → L k = true ∧ L' k = true ∧ v k = v' k) : (puts ops v L a n).tmps[t]? = (puts ops v' L' a n).tmps[t]? := by
  induction n with
  | zero => rfl
  | succ n ih =>
    have ih' := ih (fun k hk => h k (by omega))
    by_cases e : dstOf ops n = some t
    · obtain ⟨h1, h2, h3⟩ := h n (by omega) e
      unfold puts
      rw [if_pos h1, if_pos h2, e, h3]
      exact put_get_eq (by rw [puts_size, puts_size]) _ _
    · have hl : (puts ops v L a (n + 1)).tmps[t]? = (puts ops v L a n).tmps[t]? := by
        conv => lhs; unfold puts
        split
        · exact put_get_ne _ e _
        · rfl
      have hr : (puts ops v' L' a (n + 1)).tmps[t]? = (puts ops v' L' a n).tmps[t]? := by
        conv => lhs; unfold puts
        split
        · exact put_get_ne _ e _
        · rfl
      rw [hl, hr, ih']
end

/-! ### The checks -/
def namesOf (ops : Array Oper) (o : Oper) : List Tmp := o.dst.toList ++ o.looksAt ops
def shareB (ops : Array Oper) (x y : Oper) : Bool :=
  (match x.dst with | some d => (namesOf ops y).contains d | none => false) || (match y.dst with | some d => (namesOf ops x).contains d | none => false)
def isAlloc (o : Oper) : Bool := match o.op, o.guard with | .alloc _, none => true | _, _ => false
/-- The operations below n: those that share a slot wait for each other; blocks that are made are named by none of the others. Those from n on wait for all ahead of them. -/
def detB (l : List Oper) (n : Nat) : Bool :=
  let ops := l.toArray
  let m := ancs l []
  Region.noSelect ops && decide (n ≤ l.length) && backB ops &&
  ((List.range n).all fun i => (List.range i).all fun k => match ops[i]?, ops[k]? with
    | some x, some y => (!shareB ops x y || (m.getD i 0).testBit k) && (!(isAlloc x || isAlloc y) || !shareB ops x y) && (!x.dst.isSome || x.dst != y.dst)
    | _, _ => false) &&
  ((List.range l.length).all fun i => decide (i < n) || ((List.range i).all fun k => (m.getD i 0).testBit k))

/-- An operation that makes a block, struck. -/
def mute (o : Oper) : Oper := if isAlloc o then { o with op := .move (.const undef) } else o

theorem shareB_comm (ops : Array Oper) (x y : Oper) : shareB ops x y = shareB ops y x := by unfold shareB; rw [Bool.or_comm]
theorem not_share {ops : Array Oper} {x y : Oper} (h : shareB ops x y = false) : (∀ d, x.dst = some d → y.dst ≠ some d) ∧ (∀ d, x.dst = some d → d ∉ y.looksAt ops) ∧ (∀ d, y.dst = some d → d ∉ x.looksAt ops) := by
  unfold shareB namesOf at h
  simp only [Bool.or_eq_false_iff] at h
  refine ⟨fun d hd hy => ?_, fun d hd hm => ?_, fun d hd hm => ?_⟩
  · simp [hd, hy] at h
  · simp [hd, hm] at h
  · simp [hd, hm] at h
theorem share_dst {ops : Array Oper} {x y : Oper} {d : Tmp} (h1 : x.dst = some d) (h2 : y.dst = some d ∨ d ∈ y.looksAt ops) : shareB ops x y = true := by
  cases h : shareB ops x y with
  | true => rfl
  | false =>
    obtain ⟨a, b, _⟩ := not_share h
    rcases h2 with h2 | h2
    · exact (a d h1 h2).elim
    · exact (b d h1 h2).elim

/-! ### What the walk of the text gives -/
section
variable {P : Program} {C : World → Prop}

theorem quiet_vals {ops : Array Oper} {Qf : Act → Prop} : ∀ (r : List Oper) (a : Act), wpQuiet P ops C Qf r a →
    ∃ vals : Nat → Value, (∀ i o, r[i]? = some o → YieldsIn P ops C o (vals i) (puts r.toArray vals (fun _ => true) a i)) ∧ Qf (puts r.toArray vals (fun _ => true) a r.length)
  | [], a, h => ⟨fun _ => undef, fun i o hi => by simp at hi, h⟩
  | o :: r, a, h => by
    have hst : ∃ v, YieldsIn P ops C o v a ∧ wpQuiet P ops C Qf r (a.put o.dst v) := by
      unfold wpQuiet at h
      by_cases hw : Region.wanted o (yielded ops a.tmps) = true
      · rw [if_pos hw] at h
        obtain ⟨v, h1, h2⟩ := h
        exact ⟨v, .inl ⟨hw, h1⟩, h2⟩
      · rw [if_neg hw] at h
        exact ⟨undef, .inr ⟨by simpa using hw, rfl⟩, h⟩
    obtain ⟨v, hy, hr⟩ := hst
    obtain ⟨vals, h1, h2⟩ := quiet_vals r _ hr
    have key : ∀ n, puts (o :: r).toArray (fun i => match i with | 0 => v | i + 1 => vals i) (fun _ => true) a (n + 1) = puts r.toArray vals (fun _ => true) (a.put o.dst v) n := by
      intro n
      induction n with
      | zero => simp [puts, dstOf]
      | succ n ih =>
        rw [puts, if_pos rfl, ih]
        conv => rhs; rw [puts, if_pos rfl]
        simp [dstOf]
    refine ⟨fun i => match i with | 0 => v | i + 1 => vals i, fun i o' hi => ?_, ?_⟩
    · cases i with
      | zero => simp at hi; subst hi; exact hy
      | succ i => rw [key]; exact h1 i o' (by simpa using hi)
    · rw [List.length_cons, key]; exact h2
end

/-- What was there is as it was: the class of worlds. -/
def Cls (w : World) (w' : World) : Prop := ∃ p : Regrown, w' = grow (redrawn w p.d) p.os
theorem Cls.below {w w' : World} (h : Cls w w') : Below w.heap.size w w' := by
  obtain ⟨p, rfl⟩ := h; exact below_regrown w p.d p.os
theorem Cls.self (w : World) : Cls w w := regrown_of_below (Below.refl _ _)

def loB (ops : Array Oper) (k : Nat) : Bool := match ops[k]? with | some o => isAlloc o | none => false
def looseOf (ops : Array Oper) (n : Nat) : List (Nat × Option Tmp) := ((List.range n).filter (loB ops)).map fun k => (k, dstOf ops k)
def ptrAt (b : Nat) : Value := .pointer (some ⟨b, 0, none⟩)

theorem puts_loose (ops : Array Oper) (β : Nat → Nat) (F : Act) (n : Nat) : puts ops (fun k => ptrAt (β k)) (loB ops) F n = (looseOf ops n).foldl (fun A p => A.put p.2 (ptrAt (β p.1))) F := by
  induction n with
  | zero => rfl
  | succ n ih =>
    unfold looseOf
    rw [List.range_succ, List.filter_append, List.map_append, List.foldl_append]
    change _ = List.foldl _ ((looseOf ops n).foldl _ F) _
    rw [← ih]
    conv => lhs; unfold puts
    cases h : loB ops n <;> simp [h]

section
variable {P : Program} {Q : Exit → Act → World → Prop} {a : Act} {w : World} {l : List Oper} {n : Nat}

structure DetOk (l : List Oper) (n : Nat) : Prop where
  sel : ∀ (j : Nat) (o : Oper) cs b, l.toArray[j]? = some o → o.op ≠ .select cs b
  le : n ≤ l.length
  back : backB l.toArray = true
  share : ∀ i k x y, i < n → k < i → l.toArray[i]? = some x → l.toArray[k]? = some y → (shareB l.toArray x y = true → Anc l.toArray i k) ∧ ((isAlloc x = true ∨ isAlloc y = true) → shareB l.toArray x y = false) ∧ (∀ d, x.dst = some d → y.dst ≠ some d)
  tail : ∀ i k, n ≤ i → i < l.length → k < i → Anc l.toArray i k

theorem detOk (h : detB l n = true) : DetOk l n := by
  unfold detB at h
  simp only [Bool.and_eq_true, decide_eq_true_eq, List.all_eq_true, List.mem_range] at h
  obtain ⟨⟨⟨⟨h1, h2⟩, h3⟩, h4⟩, h5⟩ := h
  have hanc := ancs_spec l.toArray l [] (by simp) (by simp)
  refine ⟨Region.noSelect_spec h1, h2, h3, ?_, ?_⟩
  · intro i k x y hi hk hx hy
    have h6 := h4 i hi k hk
    rw [hx, hy] at h6
    simp only [Bool.and_eq_true, Bool.or_eq_true, Bool.not_eq_true', Bool.or_eq_false_iff] at h6
    obtain ⟨⟨h7, h8⟩, h9⟩ := h6
    refine ⟨fun hs => hanc _ _ (h7.resolve_left (by rw [hs]; simp)), fun ha => ?_, fun d hd hy2 => ?_⟩
    · rcases h8 with h8 | h8
      · rcases ha with ha | ha
        · rw [h8.1] at ha; cases ha
        · rw [h8.2] at ha; cases ha
      · exact h8
    · rw [hd, hy2] at h9; simp at h9
  · intro i k hi hl hk
    have h6 := h5 i hl
    simp only [Bool.or_eq_true, decide_eq_true_eq, List.all_eq_true, List.mem_range] at h6
    exact hanc _ _ ((h6.resolve_left (by omega)) k hk)

theorem mute_dst (o : Oper) : (mute o).dst = o.dst := by unfold mute; split <;> rfl
theorem mute_not {o : Oper} (h : isAlloc o = false) : mute o = o := by unfold mute; rw [h]; rfl

theorem head_get {i : Nat} (hi : i < n) : ((l.take n).map mute)[i]? = (l.toArray[i]?).map mute := by
  rw [List.getElem?_map, List.getElem?_take, if_pos hi]; simp
theorem puts_head {v : Nat → Value} {L : Nat → Bool} : ∀ k, k ≤ n → puts ((l.take n).map mute).toArray v L a k = puts l.toArray v L a k := by
  intro k
  induction k with
  | zero => intro _; rfl
  | succ k ih =>
    intro hk
    have e : dstOf ((l.take n).map mute).toArray k = dstOf l.toArray k := by
      unfold dstOf
      rw [List.getElem?_toArray, head_get (by omega)]
      cases l.toArray[k]? with
      | none => rfl
      | some o => exact mute_dst o
    unfold puts
    rw [ih (by omega), e]

theorem put_eq_of {A B : Act} (hs : A.tmps.size = B.tmps.size) {d : Nat} {x : Value} (h : B.tmps[d]? = (A.put (some d) x).tmps[d]?) : A.put (some d) x = A.put (some d) (B.tmps.getD d undef) := by
  simp only [Act.put, Array.getElem?_setIfInBounds] at h ⊢
  by_cases hd : d < A.tmps.size
  · rw [if_pos hd] at h
    have : B.tmps.getD d undef = x := by rw [Array.getD_eq_getD_getElem?, h]; rfl
    rw [this]
  · rw [Array.setIfInBounds_eq_of_size_le (by omega), Array.setIfInBounds_eq_of_size_le (by omega)]

/-- The values are the last frame's, whatever the world was. -/
def valsOf (l : List Oper) (F : Act) (k : Nat) : Value := match dstOf l.toArray k with | some d => F.tmps.getD d undef | none => undef
theorem puts_vals (ok : DetOk l n) {v : Nat → Value} {F : Act} (hF : puts l.toArray v (fun _ => true) a n = F) : ∀ k, k ≤ n → puts l.toArray v (fun _ => true) a k = puts l.toArray (valsOf l F) (fun _ => true) a k := by
  intro k
  induction k with
  | zero => intro _; rfl
  | succ k ih =>
    intro hk
    have ih' := ih (by omega)
    have e1 : puts l.toArray v (fun _ => true) a (k + 1) = (puts l.toArray v (fun _ => true) a k).put (dstOf l.toArray k) (v k) := by rw [puts, if_pos rfl]
    have e2 : puts l.toArray (valsOf l F) (fun _ => true) a (k + 1) = (puts l.toArray (valsOf l F) (fun _ => true) a k).put (dstOf l.toArray k) (valsOf l F k) := by rw [puts, if_pos rfl]
    rw [e1, e2, ← ih']
    cases hd : dstOf l.toArray k with
    | none => rfl
    | some d =>
      have hv : valsOf l F k = F.tmps.getD d undef := by unfold valsOf; rw [hd]
      rw [hv]
      refine put_eq_of (by rw [← hF, puts_size, puts_size]) ?_
      rw [← hF, puts_beyond (i := k + 1) hk, e1, hd]
      intro j hj1 hj2 _ hj3
      have hl := ok.le
      have hj : j < l.length := by omega
      have hkk : k < l.length := by omega
      obtain ⟨_, _, h3⟩ := ok.share j k l[j] l[k] hj2 (by omega) (by simp [hj]) (by simp [hkk])
      refine h3 d ?_ ?_
      · simpa [dstOf, hj] using hj3
      · simpa [dstOf, hkk] using hd

/-- The second condition of the frame: two frames that agree on what an operation looks at. -/
theorem evalAgree {ops : Array Oper} {o : Oper} {A B : Act} (h : ∀ t, t ∈ o.looksAt ops → A.tmps[t]? = B.tmps[t]?) : ∀ x ∈ o.op.operands, A.eval x = B.eval x := by
  intro x hx
  cases x with
  | tmp t =>
    have ht : t ∈ o.looksAt ops := List.mem_append_left _ (List.mem_filterMap.2 ⟨.tmp t, by simpa using hx, rfl⟩)
    have := h t ht
    simp only [Act.eval, Array.getD_eq_getD_getElem?, this]
  | _ => rfl
theorem wantAgree {ops : Array Oper} {o : Oper} {A B : Act} (h : ∀ t, t ∈ o.looksAt ops → A.tmps[t]? = B.tmps[t]?) : Region.wanted o (yielded ops A.tmps) = Region.wanted o (yielded ops B.tmps) := by
  unfold Region.wanted
  cases hg : o.guard with
  | none => rfl
  | some gw =>
    obtain ⟨g, want⟩ := gw
    have hy : yielded ops A.tmps g = yielded ops B.tmps g := by
      unfold yielded
      cases ht : (ops[g]?).bind (·.dst) with
      | none => rfl
      | some t =>
        have := h t (by simp [Oper.looksAt, hg, ht])
        simp [this]
    simp only [hy]

structure Fresh (ops : Array Oper) (n : Nat) (w : World) (obj : Nat → Obj) (β : Nat → Nat) (L : Nat → Bool) (W : World) : Prop where
  old : ∀ k, k < n → loB ops k = true → L k = true → w.heap.size ≤ β k ∧ W.heap[β k]? = some (obj k)
  inj : ∀ j k, j < n → k < n → loB ops j = true → loB ops k = true → L j = true → L k = true → β j = β k → j = k

theorem Fresh.later {ops : Array Oper} {obj : Nat → Obj} {β : Nat → Nat} {L : Nat → Bool} {W W' : World} (h : Fresh ops n w obj β L W) (hb : Below W.heap.size W W') : Fresh ops n w obj β L W' :=
  ⟨fun k hk hl hL => ⟨(h.old k hk hl hL).1, by rw [hb.block _ (lt_of_block (h.old k hk hl hL).2)]; exact (h.old k hk hl hL).2⟩, h.inj⟩

def vb (l : List Oper) (F : Act) (β : Nat → Nat) (k : Nat) : Value := if loB l.toArray k = true then ptrAt (β k) else valsOf l F k

def DetInv (P : Program) (l : List Oper) (n : Nat) (Q : Exit → Act → World → Prop) (a : Act) (w : World) (F : Act) (obj : Nat → Obj) (L : Nat → Bool) (A : Act) (W : World) : Prop :=
  Clo l.toArray L ∧
  (((∃ i, i < n ∧ L i = false) ∧ (∀ t, n ≤ t → L t = false) ∧ Below w.heap.size w W ∧ ∃ β, A = puts l.toArray (vb l F β) L a n ∧ Fresh l.toArray n w obj β L W) ∨
   ((∀ i, i < n → L i = true) ∧ ∃ p, n ≤ p ∧ p ≤ l.length ∧ (∀ t, n ≤ t → t < l.length → L t = decide (t < p)) ∧ wpList P l.toArray Q (l.drop p) A W))

theorem loB_get {ops : Array Oper} {k : Nat} {o : Oper} (h : ops[k]? = some o) : loB ops k = isAlloc o := by unfold loB; rw [h]

/-- What an operation of the first part looks at is as in the order of the text. -/
theorem look_head (ok : DetOk l n) {F : Act} {β : Nat → Nat} {L : Nat → Bool} (hc : Clo l.toArray L) {i : Nat} {o : Oper} (hi : i < n) (ho : l.toArray[i]? = some o) (hL : L i = false)
    (hd : ∀ e ∈ o.after, Region.binds .any e = true → L e.on = true) : ∀ t, t ∈ o.looksAt l.toArray → (puts l.toArray (vb l F β) L a n).tmps[t]? = (puts l.toArray (valsOf l F) (fun _ => true) a i).tmps[t]? := by
  intro t ht
  have hle := ok.le
  rw [puts_beyond (i := i) (Nat.le_of_lt hi)]
  · refine puts_same (fun k hk hkd => ?_)
    obtain ⟨y, hy, hyd⟩ : ∃ y, l.toArray[k]? = some y ∧ y.dst = some t := by
      unfold dstOf at hkd
      cases h : l.toArray[k]? with
      | none => rw [h] at hkd; simp at hkd
      | some y => rw [h] at hkd; exact ⟨y, rfl, by simpa using hkd⟩
    obtain ⟨h1, h2, _⟩ := ok.share i k o y hi hk ho hy
    have hs : shareB l.toArray o y = true := by rw [shareB_comm]; exact share_dst hyd (Or.inr ht)
    refine ⟨anc_done hc (h1 hs) (fun o' ho' => by rw [ho] at ho'; obtain rfl := Option.some.inj ho'; exact hd), rfl, ?_⟩
    unfold vb
    rw [loB_get hy]
    cases ha : isAlloc y with
    | false => rfl
    | true => rw [h2 (Or.inr ha)] at hs; cases hs
  · intro k hk1 hk2 hk3 hkd
    by_cases e : k = i
    · subst e; rw [hL] at hk3; cases hk3
    · obtain ⟨y, hy, hyd⟩ : ∃ y, l.toArray[k]? = some y ∧ y.dst = some t := by
        unfold dstOf at hkd
        cases h : l.toArray[k]? with
        | none => rw [h] at hkd; simp at hkd
        | some y => rw [h] at hkd; exact ⟨y, rfl, by simpa using hkd⟩
      obtain ⟨h1, _, _⟩ := ok.share k i y o hk2 (by omega) hy ho
      have := anc_done hc (h1 (share_dst hyd (Or.inr ht))) (fun o' ho' => hc k o' ho' hk3)
      rw [hL] at this; cases this

theorem clo_add {ops : Array Oper} {L : Nat → Bool} (hc : Clo ops L) {i : Nat} {o : Oper} (ho : ops[i]? = some o) (hd : ∀ e ∈ o.after, Region.binds .any e = true → L e.on = true) : Clo ops (fun j => j == i || L j) := by
  intro j o' ho' hj e he hb
  by_cases e1 : j = i
  · subst e1
    rw [ho] at ho'; obtain rfl := Option.some.inj ho'
    simp [hd e he hb]
  · have : (j == i) = false := by simpa using e1
    simp only [this, Bool.false_or] at hj
    simp [hc j o' ho' hj e he hb]

/-- The frame behind the first part. -/
theorem frame_end (ok : DetOk l n) {F : Act} {β : Nat → Nat} (hF : puts l.toArray (valsOf l F) (fun _ => true) a n = F) {L : Nat → Bool} (hL : ∀ i, i < n → L i = true) :
    puts l.toArray (vb l F β) L a n = puts l.toArray (fun k => ptrAt (β k)) (loB l.toArray) F n := by
  have hle := ok.le
  have hdst : ∀ k t, k < n → dstOf l.toArray k = some t → ∃ y, l.toArray[k]? = some y ∧ y.dst = some t := by
    intro k t _ hkd
    unfold dstOf at hkd
    cases h : l.toArray[k]? with
    | none => rw [h] at hkd; simp at hkd
    | some y => rw [h] at hkd; exact ⟨y, rfl, by simpa using hkd⟩
  have hdef : ∀ (v : Nat → Value) (M : Nat → Bool) (b : Act) k, (puts l.toArray v M b k).defers = b.defers := by
    intro v M b k
    induction k with
    | zero => rfl
    | succ k ih =>
      unfold puts
      split
      · cases dstOf l.toArray k <;> simp [Act.put, ih]
      · exact ih
  have hsz : (puts l.toArray (vb l F β) L a n).tmps = (puts l.toArray (fun k => ptrAt (β k)) (loB l.toArray) F n).tmps := by
    apply Array.ext_getElem?
    intro t
    have hFt : F.tmps.size = a.tmps.size := by rw [← hF, puts_size]
    by_cases h : ∃ k, k < n ∧ loB l.toArray k = true ∧ dstOf l.toArray k = some t
    · obtain ⟨k, hk, hlo, hd⟩ := h
      obtain ⟨y, hy, hyd⟩ := hdst k t hk hd
      have hno : ∀ j, k + 1 ≤ j → j < n → dstOf l.toArray j ≠ some t := by
        intro j hj1 hj2 hj3
        obtain ⟨z, hz, hzd⟩ := hdst j t hj2 hj3
        exact (ok.share j k z y hj2 (by omega) hz hy).2.2 t hzd hyd
      rw [puts_beyond (i := k + 1) (by omega) (fun j h1 h2 _ => hno j h1 h2), puts_beyond (i := k + 1) (by omega) (fun j h1 h2 _ => hno j h1 h2)]
      rw [show puts l.toArray (vb l F β) L a (k + 1) = (puts l.toArray (vb l F β) L a k).put (some t) (ptrAt (β k)) from by rw [puts, if_pos (hL k hk), hd]; unfold vb; rw [if_pos hlo]]
      rw [show puts l.toArray (fun k => ptrAt (β k)) (loB l.toArray) F (k + 1) = (puts l.toArray (fun k => ptrAt (β k)) (loB l.toArray) F k).put (some t) (ptrAt (β k)) from by rw [puts, if_pos hlo, hd]]
      exact put_get_eq (by rw [puts_size, puts_size, hFt]) _ _
    · rw [puts_beyond (v := fun k => ptrAt (β k)) (i := 0) (Nat.zero_le _) (fun j _ h2 h3 h4 => h ⟨j, h2, h3, h4⟩)]
      conv => rhs; unfold puts; rw [← hF]
      refine puts_same (fun k hk hkd => ⟨hL k hk, rfl, ?_⟩)
      unfold vb
      rw [if_neg (fun h3 => h ⟨k, hk, h3, hkd⟩)]
  have hdf : (puts l.toArray (vb l F β) L a n).defers = (puts l.toArray (fun k => ptrAt (β k)) (loB l.toArray) F n).defers := by
    rw [hdef, hdef, ← hF, hdef]
  generalize puts l.toArray (vb l F β) L a n = X at *
  generalize puts l.toArray (fun k => ptrAt (β k)) (loB l.toArray) F n = Y at *
  cases X; cases Y; simp only at hsz hdf; subst hsz hdf; rfl

/-- An invariant over which operations are done: each comes up once all that it waits for is done. -/
theorem wpAny_inv3 {ops : Array Oper} (hac : backB ops = true) (Inv : (Nat → Bool) → Act → World → Prop)
    (hs : ∀ i o, ops[i]? = some o → ∀ L a w, L i = false → Inv L a w → (∀ e ∈ o.after, Region.binds .any e = true → L e.on = true) → wpOp P ops Q i (fun a' w' => Inv (fun j => j == i || L j) a' w') a w)
    (he : ∀ L a w, (∀ j, j < ops.size → L j = true) → Inv L a w → Q .normal a w) :
    ∀ (fuel : Nat) (listed : Array Bool) (a : Act) (w : World), listed.size = ops.size → unl ops.size listed = fuel → Inv (fun j => listed.getD j false) a w → wpAny P .any ops Q fuel listed a w := by
  intro fuel
  induction fuel with
  | zero =>
    intro listed a w hsz hu hI
    have hall := unl_zero _ _ hu
    refine ⟨?_, he _ _ _ (fun j hj => getD_tf (by omega) (hall j hj)) hI⟩
    rw [List.eq_nil_iff_forall_not_mem]
    intro j hj
    obtain ⟨h1, o, ho, _⟩ := mem_ready.1 hj
    have hjs : j < ops.size := (Array.getElem?_eq_some_iff.1 ho).1
    rw [hall j hjs] at h1; cases h1
  | succ fuel ih =>
    intro listed a w hsz hu hI
    refine ⟨fun hr => ?_, fun i hi => ?_⟩
    · exfalso
      obtain ⟨j, hj, h1, h2⟩ := least_unl listed ops.size (unl_pos _ _ (by omega))
      have hm : j ∈ Region.ready .any ops listed := by
        refine mem_ready.2 ⟨h1, ops[j], by simp [hj], fun e he hbd => ?_⟩
        have hb := List.all_eq_true.1 hac j (List.mem_range.2 hj)
        rw [Array.getElem?_eq_getElem hj] at hb
        have hlt := Array.all_eq_true_iff_forall_mem.1 hb e he
        simp only [hbd, Bool.not_true, Bool.false_or, decide_eq_true_eq] at hlt
        exact getD_tf (by omega) (h2 _ hlt)
      rw [hr] at hm; cases hm
    · obtain ⟨h1, o, ho, hdep⟩ := mem_ready.1 hi
      have his : i < ops.size := (Array.getElem?_eq_some_iff.1 ho).1
      refine wpOp_mono (fun a' w' h => ?_) (hs i o ho _ a w (getD_ff h1) hI hdep)
      refine ih _ a' w' (by simp [hsz]) ?_ ?_
      · have := unl_set ops.size listed i (by omega) h1
        rw [if_pos his] at this
        omega
      · have e : (fun j => (listed.setIfInBounds i true).getD j false) = fun j => j == i || listed.getD j false := by
          funext j
          by_cases hj : i = j
          · subst hj; simp [show i < listed.size by omega]
          · rw [getD_set_ne false hj]
            have : (j == i) = false := by simpa using fun h => hj h.symm
            rw [this, Bool.false_or]
        rw [e]; exact h

theorem detInv_start (ok : DetOk l n) {F : Act} {obj : Nat → Obj} (hF0 : puts l.toArray (valsOf l F) (fun _ => true) a n = F)
    (hT : ∀ β w', Below w.heap.size w w' → Fresh l.toArray n w obj β (fun _ => true) w' → wpList P l.toArray Q (l.drop n) ((looseOf l.toArray n).foldl (fun A p => A.put p.2 (ptrAt (β p.1))) F) w')
    {L : Nat → Bool} {A : Act} {W : World} (hc : Clo l.toArray L) (ht : ∀ t, n ≤ t → L t = false) (hb : Below w.heap.size w W) {β : Nat → Nat} (hA : A = puts l.toArray (vb l F β) L a n) (hf : Fresh l.toArray n w obj β L W) :
    DetInv P l n Q a w F obj L A W := by
  refine ⟨hc, ?_⟩
  by_cases h : ∃ i, i < n ∧ L i = false
  · exact Or.inl ⟨h, ht, hb, β, hA, hf⟩
  · have hall : ∀ i, i < n → L i = true := by
      intro i hi
      cases hL : L i with
      | true => rfl
      | false => exact (h ⟨i, hi, hL⟩).elim
    refine Or.inr ⟨hall, n, Nat.le_refl _, ok.le, fun t h1 _ => by rw [ht t h1]; simp; omega, ?_⟩
    rw [hA, frame_end ok hF0 hall, puts_loose]
    exact hT β W hb ⟨fun k hk hl _ => hf.old k hk hl (hall k hk), fun j k hj hk hlj hlk _ _ => hf.inj j k hj hk hlj hlk (hall j hj) (hall k hk)⟩

/-- **One walk of the text's order serves every order.** -/
theorem wp_region_det {id : Nat} (n : Nat) (hm : P.follows .mixedOrders = true) (hB : detB l n = true) (F : Act) (obj : Nat → Obj)
    (hF : ∀ w1, Below w.heap.size w w1 → wpQuiet P l.toArray (fun w' => ∃ p : Regrown, w' = grow (redrawn w1 p.d) p.os) (fun a' => a' = F) ((l.take n).map mute) a)
    (hz : ∀ k T, k < n → ((l.toArray[k]?).map (·.op) : Option Op) = some (.alloc T) → ∀ W : World, (Instr.alloc T true (.tuple #[])).run P W = .ok (.pointer (some ⟨W.heap.size, 0, none⟩)) (W.alloc (obj k)))
    (hT : ∀ β w', Below w.heap.size w w' → Fresh l.toArray n w obj β (fun _ => true) w' → wpList P l.toArray Q (l.drop n) ((looseOf l.toArray n).foldl (fun A p => A.put p.2 (ptrAt (β p.1))) F) w') :
    (Code.region id l.toArray true).wp P Q a w := by
  have ok := detOk hB
  have hvals : ∀ w1, Below w.heap.size w w1 → (∀ i o, i < n → l.toArray[i]? = some o → ∃ v, YieldsIn P l.toArray (fun w' => ∃ p : Regrown, w' = grow (redrawn w1 p.d) p.os) (mute o) v (puts l.toArray (valsOf l F) (fun _ => true) a i) ∧
      puts l.toArray (valsOf l F) (fun _ => true) a (i + 1) = (puts l.toArray (valsOf l F) (fun _ => true) a i).put o.dst v) ∧ puts l.toArray (valsOf l F) (fun _ => true) a n = F := by
    intro w1 hw1
    obtain ⟨vals, h1, h2⟩ := quiet_vals _ _ (hF w1 hw1)
    have hlen : ((l.take n).map mute).length = n := by have := ok.le; simp; omega
    rw [hlen, puts_head n (Nat.le_refl _)] at h2
    have hp := puts_vals ok h2
    refine ⟨fun i o hi ho => ⟨vals i, ?_, ?_⟩, (hp n (Nat.le_refl _)) ▸ h2⟩
    · have h3 := h1 i (mute o) (by rw [head_get hi, ho]; rfl)
      rw [puts_head i (Nat.le_of_lt hi), hp i (Nat.le_of_lt hi)] at h3
      exact h3
    · rw [← hp (i + 1) hi, ← hp i (Nat.le_of_lt hi), puts, if_pos rfl]
      simp [dstOf, ho]
  obtain ⟨_, hF0⟩ := hvals w (Below.refl _ _)
  refine wp_region_any hm (wpAny_inv3 ok.back (DetInv P l n Q a w F obj) ?_ ?_ _ _ _ _ (by simp) ?_ ?_)
  · intro i o ho L A W hL hI hd
    obtain ⟨hc, hI⟩ := hI
    have his : i < l.length := by simpa using (Array.getElem?_eq_some_iff.1 ho).1
    rcases hI with ⟨_, ht, hb, β, hA, hf⟩ | ⟨hall, p, hp1, hp2, hp3, hw⟩
    · -- the first part
      by_cases hin : i < n
      · have hfree : ∀ k, i < k → k < n → L k = true → ∀ d, dstOf l.toArray k = some d → dstOf l.toArray i ≠ some d := by
          intro k hk1 hk2 _ d hkd hid
          obtain ⟨y, hy⟩ : ∃ y, l.toArray[k]? = some y := ⟨l[k]'(by have := ok.le; omega), by simp [show k < l.length by have := ok.le; omega]⟩
          refine (ok.share k i y o hk2 hk1 hy ho).2.2 d ?_ ?_
          · simpa [dstOf, hy] using hkd
          · simpa [dstOf, ho] using hid
        have ht' : ∀ t, n ≤ t → (fun j => j == i || L j) t = false := by
          intro t h1
          have : (t == i) = false := by simpa using (show t ≠ i by omega)
          simp [this, ht t h1]
        cases ha : isAlloc o with
        | true =>
          -- a block is made
          obtain ⟨T, hop, hg⟩ : ∃ T, o.op = .alloc T ∧ o.guard = none := by
            unfold isAlloc at ha
            split at ha
            · rename_i T h1 h2; exact ⟨T, h1, h2⟩
            · cases ha
          have hzz := hz i T hin (by rw [ho]; simp [hop]) W
          unfold wpOp
          simp only [ho]
          rw [if_pos (by simp [Region.wanted, hg])]
          refine Or.inl ?_
          unfold Oper.wp execOp
          simp only [hop, hzz, Sem.run_bind, Sem.run_pure, Result.andThen_ok, Oper.upon]
          refine detInv_start ok hF0 hT (clo_add hc ho hd) ht' (hb.alloc hb.size _) (β := fun k => if k = i then W.heap.size else β k) ?_ ?_
          · rw [puts_add hin hL hfree, hA]
            have e1 : vb l F (fun k => if k = i then W.heap.size else β k) i = .pointer (some ⟨W.heap.size, 0, none⟩) := by
              unfold vb; rw [loB_get ho, if_pos ha]; simp [ptrAt]
            have e2 : dstOf l.toArray i = o.dst := by simp [dstOf, ho]
            rw [e1, e2]
            congr 1
            refine puts_congr (fun _ _ => rfl) (fun k hk hLk => ?_)
            have hki : k ≠ i := fun e => by rw [e, hL] at hLk; cases hLk
            unfold vb; simp only [if_neg hki]
          · refine ⟨fun k hk hlo hLk => ?_, fun j k hj hk hlj hlk hLj hLk hβ => ?_⟩
            · by_cases hki : k = i
              · subst hki
                simp only [↓reduceIte]
                exact ⟨hb.size, heap_alloc_new W _⟩
              · have : (k == i) = false := by simpa using hki
                simp only [this, Bool.false_or] at hLk
                rw [if_neg hki]
                have h5 := hf.old k hk hlo hLk
                exact ⟨h5.1, by rw [Below.heap_alloc W _ _ (lt_of_block h5.2)]; exact h5.2⟩
            · by_cases hji : j = i
              · by_cases hki : k = i
                · rw [hji, hki]
                · exfalso
                  have : (k == i) = false := by simpa using hki
                  simp only [this, Bool.false_or] at hLk
                  rw [if_pos hji, if_neg hki] at hβ
                  have := lt_of_block (hf.old k hk hlk hLk).2
                  omega
              · have hj2 : (j == i) = false := by simpa using hji
                simp only [hj2, Bool.false_or] at hLj
                by_cases hki : k = i
                · exfalso
                  rw [if_neg hji, if_pos hki] at hβ
                  have := lt_of_block (hf.old j hj hlj hLj).2
                  omega
                · have : (k == i) = false := by simpa using hki
                  simp only [this, Bool.false_or] at hLk
                  rw [if_neg hji, if_neg hki] at hβ
                  exact hf.inj j k hj hk hlj hlk hLj hLk hβ
        | false =>
          obtain ⟨h1, _⟩ := hvals W hb
          obtain ⟨v, hy, hput⟩ := h1 i o hin ho
          rw [mute_not ha] at hy
          have hag := look_head (β := β) (F := F) (a := a) ok hc hin ho hL hd
          have hy' : YieldsIn P l.toArray (fun w' => ∃ p : Regrown, w' = grow (redrawn W p.d) p.os) o v A := by
            rw [hA]
            exact hy.of_same (execOp_congr o (fun cs b => ok.sel i o cs b ho) (evalAgree hag)) (wantAgree hag)
          refine wpOp_of_qOp (Cls.self W) (fun a' w' hw' ha' => ?_) (hy'.qOp ho (K := fun a' => a' = A.put o.dst v) rfl)
          have hbw : Below W.heap.size W w' := Cls.below hw'
          refine detInv_start ok hF0 hT (clo_add hc ho hd) ht' (hb.trans (hbw.mono hb.size)) (β := β) ?_ ?_
          · rw [puts_add hin hL hfree, ha', hA]
            have e2 : dstOf l.toArray i = o.dst := by simp [dstOf, ho]
            rw [e2]
            have e3 : vb l F β i = valsOf l F i := by unfold vb; rw [loB_get ho, ha]; rfl
            rw [e3]
            cases hod : o.dst with
            | none => rfl
            | some d =>
              rw [hod] at hput
              have e4 : (puts l.toArray (valsOf l F) (fun _ => true) a i).put (some d) v = (puts l.toArray (valsOf l F) (fun _ => true) a i).put (some d) (valsOf l F i) := by
                rw [← hput, puts, if_pos rfl, e2, hod]
              have hs1 : (puts l.toArray (valsOf l F) (fun _ => true) a i).tmps.size = a.tmps.size := puts_size _
              have hs2 : (puts l.toArray (vb l F β) L a n).tmps.size = a.tmps.size := puts_size _
              by_cases hdl : d < a.tmps.size
              · have h7 := congrArg (fun A : Act => A.tmps[d]?) e4
                simp only [Act.put, Array.getElem?_setIfInBounds, if_pos, hs1, hdl] at h7
                rw [Option.some.inj h7]
              · have h8 : ∀ (B : Act) (x : Value), B.tmps.size = a.tmps.size → B.put (some d) x = B := by
                  intro B x hB
                  simp only [Act.put]
                  rw [Array.setIfInBounds_eq_of_size_le (by rw [hB]; exact Nat.le_of_not_lt hdl)]
                rw [h8 _ _ hs2, h8 _ _ hs2]
          · have hf' := hf.later hbw
            have hlo : loB l.toArray i = false := by rw [loB_get ho]; exact ha
            refine ⟨fun k hk hl hLk => hf'.old k hk hl ?_, fun j k hj hk hlj hlk hLj hLk => hf'.inj j k hj hk hlj hlk ?_ ?_⟩
            all_goals
              rename_i hLx
              have hne : ∀ q, loB l.toArray q = true → (q == i) = false := fun q hq => by
                have : q ≠ i := fun e => by rw [e, hlo] at hq; cases hq
                simpa using this
              first
                | simpa only [hne k hl, Bool.false_or] using hLk
                | simpa only [hne j hlj, Bool.false_or] using hLj
                | simpa only [hne k hlk, Bool.false_or] using hLk
      · -- none of the rest may come up yet
        exfalso
        rename_i hex
        obtain ⟨j, hj, hLj⟩ := hex
        have := anc_done hc (ok.tail i j (by omega) his (by omega)) (fun o' ho' => by rw [ho] at ho'; obtain rfl := Option.some.inj ho'; exact hd)
        rw [hLj] at this; cases this
    · -- the rest, one behind the other
      have hin : n ≤ i := by
        rcases Nat.lt_or_ge i n with h | h
        · rw [hall i h] at hL; cases hL
        · exact h
      have hip : i = p := by
        have h1 : ¬ i < p := by
          intro h; rw [hp3 i hin his] at hL; simp [h] at hL
        rcases Nat.lt_or_ge p i with h | h
        · exfalso
          have := anc_done hc (ok.tail i p (by omega) his h) (fun o' ho' => by rw [ho] at ho'; obtain rfl := Option.some.inj ho'; exact hd)
          rw [hp3 p hp1 (by omega)] at this; simp at this
        · omega
      subst hip
      have hdrop : l.drop i = o :: l.drop (i + 1) := by
        rw [List.drop_eq_getElem_cons his]
        have : l[i] = o := by simpa [his] using ho
        rw [this]
      rw [hdrop] at hw
      have hw2 : wpOp P l.toArray Q i (wpList P l.toArray Q (l.drop (i + 1))) A W := by
        unfold wpOp; simp only [ho]; exact hw
      refine wpOp_mono (fun a' w' h => ?_) hw2
      refine ⟨clo_add hc ho hd, Or.inr ⟨fun j hj => by simp [hall j hj], i + 1, by omega, by omega, fun t h1 h2 => ?_, h⟩⟩
      have := hp3 t h1 h2
      by_cases e : t = i
      · subst e; simp
      · have e2 : (t == i) = false := by simpa using e
        simp only [e2, Bool.false_or, this]
        simp only [decide_eq_decide]; omega
  · intro L A W hL hI
    obtain ⟨_, hI⟩ := hI
    rcases hI with ⟨⟨i, hi, hLi⟩, _⟩ | ⟨_, p, hp1, hp2, hp3, hw⟩
    · rw [hL i (by have := ok.le; simp; omega)] at hLi; cases hLi
    · have hpl : p = l.length := by
        rcases Nat.lt_or_ge p l.length with h | h
        · have h1 := hL p (by simpa using h)
          rw [hp3 p hp1 h] at h1; simp at h1
        · omega
      subst hpl
      simpa [wpList] using hw
  · have : ∀ m, m ≤ l.toArray.size → unl m (Array.replicate l.toArray.size false) = m := by
      intro m
      induction m with
      | zero => intro _; rfl
      | succ m ih =>
        intro hm
        have hm' : m < l.length := by simp at hm; omega
        rw [unl_succ, ih (by omega), if_pos (by simp [hm'])]
    exact this _ (Nat.le_refl _)
  · have e : (fun j => (Array.replicate l.toArray.size false).getD j false) = fun _ => false := by
      funext j
      by_cases h : j < l.length
      · simp [h]
      · simp [h]
    rw [e]
    refine detInv_start ok hF0 hT (fun j o _ h => by cases h) (fun _ _ => rfl) ⟨rfl, rfl, rfl, Nat.le_refl _, fun _ _ => rfl⟩ (β := fun _ => 0) ?_ ⟨fun k _ _ h => (by cases h), fun j k _ _ _ _ h => (by cases h)⟩
    have : ∀ k, puts l.toArray (vb l F (fun _ => 0)) (fun _ => false) a k = a := by
      intro k
      induction k with
      | zero => rfl
      | succ k ih => unfold puts; simp [ih]
    exact (this n).symm

def TailInv (P : Program) (C : World → Prop) (l : List Oper) (n : Nat) (Q : Exit → Act → World → Prop) (a : Act) (F : Act) (L : Nat → Bool) (A : Act) (W : World) : Prop :=
  Clo l.toArray L ∧
  (((∃ i, i < n ∧ L i = false) ∧ (∀ t, n ≤ t → L t = false) ∧ C W ∧ A = puts l.toArray (valsOf l F) L a n) ∨
   ((∀ i, i < n → L i = true) ∧ ∃ p, n ≤ p ∧ p ≤ l.length ∧ (∀ t, n ≤ t → t < l.length → L t = decide (t < p)) ∧ wpList P l.toArray Q (l.drop p) A W))

theorem tailInv_start {C : World → Prop} (ok : DetOk l n) {F : Act} (hF0 : puts l.toArray (valsOf l F) (fun _ => true) a n = F) (hT : ∀ w', C w' → wpList P l.toArray Q (l.drop n) F w')
    {L : Nat → Bool} {A : Act} {W : World} (hc : Clo l.toArray L) (ht : ∀ t, n ≤ t → L t = false) (hb : C W) (hA : A = puts l.toArray (valsOf l F) L a n) :
    TailInv P C l n Q a F L A W := by
  refine ⟨hc, ?_⟩
  by_cases h : ∃ i, i < n ∧ L i = false
  · exact Or.inl ⟨h, ht, hb, hA⟩
  · have hall : ∀ i, i < n → L i = true := by
      intro i hi
      cases hL : L i with
      | true => rfl
      | false => exact (h ⟨i, hi, hL⟩).elim
    refine Or.inr ⟨hall, n, Nat.le_refl _, ok.le, fun t h1 _ => by rw [ht t h1]; simp; omega, ?_⟩
    rw [hA, puts_congr (L' := fun _ => true) (v' := valsOf l F) (fun k hk => hall k hk) (fun _ _ _ => rfl), hF0]
    exact hT W hb

/-- The same where no block is made, over whatever class of worlds. -/
theorem wp_region_tail {C : World → Prop} {id : Nat} (n : Nat) (hm : P.follows .mixedOrders = true) (hB : detB l n = true) (hno : looseOf l.toArray n = []) (hC : C w.drew) (F : Act)
    (hF : wpQuiet P l.toArray C (fun a' => a' = F) (l.take n) a)
    (hT : ∀ w', C w' → wpList P l.toArray Q (l.drop n) F w') :
    (Code.region id l.toArray true).wp P Q a w := by
  have ok := detOk hB
  have hlo : ∀ k, k < n → loB l.toArray k = false := by
    intro k hk
    cases h : loB l.toArray k with
    | false => rfl
    | true =>
      have : (k, dstOf l.toArray k) ∈ looseOf l.toArray n := List.mem_map.2 ⟨k, List.mem_filter.2 ⟨List.mem_range.2 hk, h⟩, rfl⟩
      rw [hno] at this; cases this
  have hmu : (l.take n).map mute = l.take n := by
    have : ∀ o ∈ l.take n, mute o = o := by
      intro o ho
      obtain ⟨k, hk, he⟩ := List.getElem_of_mem ho
      have hkn : k < n := by have := hk; simp at this; omega
      have hkl : k < l.length := by have := ok.le; omega
      have h1 : l.toArray[k]? = some o := by
        rw [List.getElem_take] at he
        simp [hkl, he]
      exact mute_not (by rw [← loB_get h1]; exact hlo k hkn)
    exact (List.map_congr_left this).trans (List.map_id _)
  obtain ⟨vals, h1, h2⟩ := quiet_vals _ _ hF
  have hlen : (l.take n).length = n := by have := ok.le; simp; omega
  have hph : ∀ k, k ≤ n → puts (l.take n).toArray vals (fun _ => true) a k = puts l.toArray vals (fun _ => true) a k := by
    intro k hk; rw [← hmu]; exact puts_head k hk
  rw [hlen, hph n (Nat.le_refl _)] at h2
  have hp := puts_vals ok h2
  have hF0 : puts l.toArray (valsOf l F) (fun _ => true) a n = F := (hp n (Nat.le_refl _)) ▸ h2
  have hvals : ∀ i o, i < n → l.toArray[i]? = some o → ∃ v, YieldsIn P l.toArray C o v (puts l.toArray (valsOf l F) (fun _ => true) a i) ∧
      puts l.toArray (valsOf l F) (fun _ => true) a (i + 1) = (puts l.toArray (valsOf l F) (fun _ => true) a i).put o.dst v := by
    intro i o hi ho
    refine ⟨vals i, ?_, ?_⟩
    · have h3 := h1 i o (by rw [List.getElem?_take, if_pos hi]; simpa using ho)
      rw [hph i (Nat.le_of_lt hi), hp i (Nat.le_of_lt hi)] at h3
      exact h3
    · rw [← hp (i + 1) hi, ← hp i (Nat.le_of_lt hi), puts, if_pos rfl]
      simp [dstOf, ho]
  refine wp_region_any hm (wpAny_inv3 ok.back (TailInv P C l n Q a F) ?_ ?_ _ _ _ _ (by simp) ?_ ?_)
  · intro i o ho L A W hL hI hd
    obtain ⟨hc, hI⟩ := hI
    have his : i < l.length := by simpa using (Array.getElem?_eq_some_iff.1 ho).1
    rcases hI with ⟨hex, ht, hb, hA⟩ | ⟨hall, p, hp1, hp2, hp3, hw⟩
    · by_cases hin : i < n
      · have hfree : ∀ k, i < k → k < n → L k = true → ∀ d, dstOf l.toArray k = some d → dstOf l.toArray i ≠ some d := by
          intro k hk1 hk2 _ d hkd hid
          obtain ⟨y, hy⟩ : ∃ y, l.toArray[k]? = some y := ⟨l[k]'(by have := ok.le; omega), by simp [show k < l.length by have := ok.le; omega]⟩
          refine (ok.share k i y o hk2 hk1 hy ho).2.2 d ?_ ?_
          · simpa [dstOf, hy] using hkd
          · simpa [dstOf, ho] using hid
        have ht' : ∀ t, n ≤ t → (fun j => j == i || L j) t = false := by
          intro t h1
          have : (t == i) = false := by simpa using (show t ≠ i by omega)
          simp [this, ht t h1]
        have hvb : ∀ k, k < n → vb l F (fun _ => 0) k = valsOf l F k := by intro k hk; unfold vb; rw [hlo k hk]; rfl
        obtain ⟨v, hy, hput⟩ := hvals i o hin ho
        have hag := look_head (β := fun _ => 0) (F := F) (a := a) ok hc hin ho hL hd
        rw [puts_congr (L' := L) (v' := valsOf l F) (fun _ _ => rfl) (fun k hk _ => hvb k hk)] at hag
        have hy' : YieldsIn P l.toArray C o v A := by
          rw [hA]
          exact hy.of_same (execOp_congr o (fun cs b => ok.sel i o cs b ho) (evalAgree hag)) (wantAgree hag)
        refine wpOp_of_qOp hb (fun a' w' hw' ha' => ?_) (hy'.qOp ho (K := fun a' => a' = A.put o.dst v) rfl)
        refine tailInv_start ok hF0 hT (clo_add hc ho hd) ht' hw' ?_
        rw [puts_add hin hL hfree, ha', hA]
        have e2 : dstOf l.toArray i = o.dst := by simp [dstOf, ho]
        rw [e2]
        cases hod : o.dst with
        | none => rfl
        | some d =>
          rw [hod] at hput
          have e4 : (puts l.toArray (valsOf l F) (fun _ => true) a i).put (some d) v = (puts l.toArray (valsOf l F) (fun _ => true) a i).put (some d) (valsOf l F i) := by
            rw [← hput, puts, if_pos rfl, e2, hod]
          have hs1 : (puts l.toArray (valsOf l F) (fun _ => true) a i).tmps.size = a.tmps.size := puts_size _
          have hs2 : (puts l.toArray (valsOf l F) L a n).tmps.size = a.tmps.size := puts_size _
          by_cases hdl : d < a.tmps.size
          · have h7 := congrArg (fun A : Act => A.tmps[d]?) e4
            simp only [Act.put, Array.getElem?_setIfInBounds, if_pos, hs1, hdl] at h7
            rw [Option.some.inj h7]
          · have h8 : ∀ (B : Act) (x : Value), B.tmps.size = a.tmps.size → B.put (some d) x = B := by
              intro B x hB
              simp only [Act.put]
              rw [Array.setIfInBounds_eq_of_size_le (by rw [hB]; exact Nat.le_of_not_lt hdl)]
            rw [h8 _ _ hs2, h8 _ _ hs2]
      · exfalso
        obtain ⟨j, hj, hLj⟩ := hex
        have := anc_done hc (ok.tail i j (by omega) his (by omega)) (fun o' ho' => by rw [ho] at ho'; obtain rfl := Option.some.inj ho'; exact hd)
        rw [hLj] at this; cases this
    · have hin : n ≤ i := by
        rcases Nat.lt_or_ge i n with h | h
        · rw [hall i h] at hL; cases hL
        · exact h
      have hip : i = p := by
        have h1 : ¬ i < p := by
          intro h; rw [hp3 i hin his] at hL; simp [h] at hL
        rcases Nat.lt_or_ge p i with h | h
        · exfalso
          have := anc_done hc (ok.tail i p (by omega) his h) (fun o' ho' => by rw [ho] at ho'; obtain rfl := Option.some.inj ho'; exact hd)
          rw [hp3 p hp1 (by omega)] at this; simp at this
        · omega
      subst hip
      have hdrop : l.drop i = o :: l.drop (i + 1) := by
        rw [List.drop_eq_getElem_cons his]
        have : l[i] = o := by simpa [his] using ho
        rw [this]
      rw [hdrop] at hw
      have hw2 : wpOp P l.toArray Q i (wpList P l.toArray Q (l.drop (i + 1))) A W := by
        unfold wpOp; simp only [ho]; exact hw
      refine wpOp_mono (fun a' w' h => ?_) hw2
      refine ⟨clo_add hc ho hd, Or.inr ⟨fun j hj => by simp [hall j hj], i + 1, by omega, by omega, fun t h1 h2 => ?_, h⟩⟩
      have := hp3 t h1 h2
      by_cases e : t = i
      · subst e; simp
      · have e2 : (t == i) = false := by simpa using e
        simp only [e2, Bool.false_or, this]
        simp only [decide_eq_decide]; omega
  · intro L A W hL hI
    obtain ⟨_, hI⟩ := hI
    rcases hI with ⟨⟨i, hi, hLi⟩, _⟩ | ⟨_, p, hp1, hp2, hp3, hw⟩
    · rw [hL i (by have := ok.le; simp; omega)] at hLi; cases hLi
    · have hpl : p = l.length := by
        rcases Nat.lt_or_ge p l.length with h | h
        · have h1 := hL p (by simpa using h)
          rw [hp3 p hp1 h] at h1; simp at h1
        · omega
      subst hpl
      simpa [wpList] using hw
  · have : ∀ m, m ≤ l.toArray.size → unl m (Array.replicate l.toArray.size false) = m := by
      intro m
      induction m with
      | zero => intro _; rfl
      | succ m ih =>
        intro hm
        have hm' : m < l.length := by simp at hm; omega
        rw [unl_succ, ih (by omega), if_pos (by simp [hm'])]
    exact this _ (Nat.le_refl _)
  · have e : (fun j => (Array.replicate l.toArray.size false).getD j false) = fun _ => false := by
      funext j
      by_cases h : j < l.length
      · simp [h]
      · simp [h]
    rw [e]
    refine tailInv_start ok hF0 hT (fun j o _ h => by cases h) (fun _ _ => rfl) hC ?_
    have : ∀ k, puts l.toArray (valsOf l F) (fun _ => false) a k = a := by
      intro k
      induction k with
      | zero => rfl
      | succ k ih => unfold puts; simp [ih]
    exact (this n).symm

/-- Reads and arithmetic, then stores: the class 'some draws later'. -/
theorem wp_region_tail_drew {id : Nat} (n : Nat) (hm : P.follows .mixedOrders = true) (hB : detB l n = true) (hno : looseOf l.toArray n = []) (F : Act)
    (hF : wpQuiet P l.toArray (fun w' => ∃ n, w' = w.drewN n) (fun a' => a' = F) (l.take n) a)
    (hT : ∀ q, wpList P l.toArray Q (l.drop n) F (w.drewN q)) : (Code.region id l.toArray true).wp P Q a w :=
  wp_region_tail n hm hB hno ⟨1, rfl⟩ F hF (fun w' ⟨q, hq⟩ => by subst hq; exact hT q)
/-- Reads, arithmetic and calls that leave old memory alone, then stores. -/
theorem wp_region_tail_below {id : Nat} (n : Nat) (hm : P.follows .mixedOrders = true) (hB : detB l n = true) (hno : looseOf l.toArray n = []) (F : Act)
    (hF : wpQuiet P l.toArray (fun w' => ∃ p : Regrown, w' = grow (redrawn w p.d) p.os) (fun a' => a' = F) (l.take n) a)
    (hT : ∀ w', Below w.heap.size w w' → wpList P l.toArray Q (l.drop n) F w') : (Code.region id l.toArray true).wp P Q a w :=
  wp_region_tail n hm hB hno (regrown_of_below ⟨rfl, rfl, rfl, Nat.le_refl _, fun _ _ => rfl⟩) F hF (fun w' hw' => hT w' (Cls.below hw'))
end
end Go.Proofs.Ytbldgpemocnboaa

namespace Go.Proofs.Ytbldgpemocnboaa
open Go.RowKit Go.Sort

/-- The chain: before each of its operations others may have made blocks. -/
def GrowL (P : Program) (ops : Array Oper) : List Oper → Act → World → (Act → World → Prop) → Prop
  | [], a, w, K => ∀ w', Below w.heap.size w w' → K a w'
  | o :: r, a, w, K => ∀ w', Below w.heap.size w w' → wpList P ops (Only fun a' w'' => a'.defers = a.defers ∧ Below w'.heap.size w' w'' ∧ GrowL P ops r a' w'' K) [o] a w'

theorem GrowL.later {P : Program} {ops : Array Oper} {r : List Oper} {a : Act} {w w1 : World} {K : Act → World → Prop} (h : GrowL P ops r a w K) (hb : Below w.heap.size w w1) : GrowL P ops r a w1 K := by
  cases r with
  | nil => intro w' hw'; exact h w' (below_step hb hw')
  | cons o r => intro w' hw'; exact h w' (below_step hb hw')

def neutral (o : Oper) : Oper := { o with op := .move (.const undef), guard := none }
def muteG (gs : List Nat) : Nat → List Oper → List Oper
  | _, [] => []
  | k, o :: r => (if gs.contains k then neutral o else mute o) :: muteG gs (k + 1) r
theorem muteG_get (gs : List Nat) : ∀ (l : List Oper) (k i : Nat), (muteG gs k l)[i]? = (l[i]?).map fun o => if gs.contains (k + i) then neutral o else mute o
  | [], k, i => by simp [muteG]
  | o :: r, k, 0 => by simp [muteG]
  | o :: r, k, i + 1 => by
    simp only [muteG, List.getElem?_cons_succ]
    rw [muteG_get gs r (k + 1) i, show k + 1 + i = k + (i + 1) by omega]
theorem muteG_len (gs : List Nat) : ∀ (l : List Oper) (k : Nat), (muteG gs k l).length = l.length
  | [], _ => rfl
  | o :: r, k => by simp [muteG, muteG_len gs r (k + 1)]

/-- The checks: as detB, and of the chain. -/
def grwB (l : List Oper) (n : Nat) (gs : List Nat) : Bool :=
  let ops := l.toArray
  let m := ancs l []
  Region.noSelect ops && decide (n ≤ l.length) && backB ops &&
  ((List.range n).all fun i => (List.range i).all fun k => match ops[i]?, ops[k]? with
    | some x, some y => (!shareB ops x y || (m.getD i 0).testBit k) && (!(isAlloc x || isAlloc y) || !shareB ops x y) && (!x.dst.isSome || x.dst != y.dst)
    | _, _ => false) &&
  ((List.range l.length).all fun i => decide (i < n) || ((List.range i).all fun k => (m.getD i 0).testBit k)) &&
  (gs.all fun g => decide (g < n) && (match ops[g]? with
    | some o => !isAlloc o && o.guard.isNone && ((List.range n).all fun k => match ops[k]? with
      | some y => (gs.contains k || (match o.dst with | some d => !(namesOf ops y).contains d | none => true)) && (decide (k < g) || (match y.dst with | some d => !(o.looksAt ops).contains d | none => true))
      | none => false)
    | none => false)) &&
  ((List.range gs.length).all fun j => (List.range j).all fun k => (m.getD (gs.getD j 0) 0).testBit (gs.getD k 0) && decide (gs.getD k 0 < gs.getD j 0))

section
variable {P : Program} {Q : Exit → Act → World → Prop} {a : Act} {w : World} {l : List Oper} {n : Nat} {gs : List Nat}

structure GrwOk (l : List Oper) (n : Nat) (gs : List Nat) : Prop where
  ok : DetOk l n
  lt : ∀ g ∈ gs, g < n
  plain : ∀ g ∈ gs, ∀ o, l.toArray[g]? = some o → isAlloc o = false ∧ o.guard = none
  apart : ∀ g ∈ gs, ∀ o, l.toArray[g]? = some o → ∀ k y, k < n → l.toArray[k]? = some y →
    (gs.contains k = false → ∀ d, o.dst = some d → d ∉ namesOf l.toArray y) ∧ (g ≤ k → ∀ d, y.dst = some d → d ∉ o.looksAt l.toArray)
  chain : ∀ j k, j < gs.length → k < j → Anc l.toArray (gs.getD j 0) (gs.getD k 0) ∧ gs.getD k 0 < gs.getD j 0

theorem grwOk (h : grwB l n gs = true) : GrwOk l n gs := by
  unfold grwB at h
  simp only [Bool.and_eq_true, decide_eq_true_eq, List.all_eq_true, List.mem_range] at h
  obtain ⟨⟨⟨⟨⟨⟨h1, h2⟩, h3⟩, h4⟩, h5⟩, h6⟩, h7⟩ := h
  have hd : detB l n = true := by
    unfold detB
    simp only [Bool.and_eq_true, decide_eq_true_eq, List.all_eq_true, List.mem_range]
    exact ⟨⟨⟨⟨h1, h2⟩, h3⟩, h4⟩, h5⟩
  have hanc := ancs_spec l.toArray l [] (by simp) (by simp)
  have hget : ∀ g ∈ gs, ∀ o, l.toArray[g]? = some o → (isAlloc o = false ∧ o.guard = none) ∧ ∀ k, k < n → (match l.toArray[k]? with
      | some y => (gs.contains k || (match o.dst with | some d => !(namesOf l.toArray y).contains d | none => true)) && (decide (k < g) || (match y.dst with | some d => !(o.looksAt l.toArray).contains d | none => true))
      | none => false) = true := by
    intro g hg o ho
    have h8 := (h6 g hg).2
    rw [ho] at h8
    simp only [Bool.and_eq_true, Bool.not_eq_true', List.all_eq_true, List.mem_range, Option.isNone_iff_eq_none] at h8
    exact ⟨⟨h8.1.1, h8.1.2⟩, h8.2⟩
  refine ⟨detOk hd, fun g hg => (h6 g hg).1, fun g hg o ho => (hget g hg o ho).1, ?_, ?_⟩
  · intro g hg o ho k y hk hy
    have h9 := (hget g hg o ho).2 k hk
    rw [hy] at h9
    simp only [Bool.and_eq_true, Bool.or_eq_true, decide_eq_true_eq] at h9
    obtain ⟨h10, h11⟩ := h9
    refine ⟨fun hkg d hd2 hm => ?_, fun hgk d hd2 hm => ?_⟩
    · rcases h10 with h10 | h10
      · rw [hkg] at h10; cases h10
      · rw [hd2] at h10; simp [hm] at h10
    · rcases h11 with h11 | h11
      · omega
      · rw [hd2] at h11; simp [hm] at h11
  · intro j k hj hk
    have h8 := h7 j hj k hk
    exact ⟨hanc _ _ h8.1, h8.2⟩

/-- One operation, run in another frame that agrees on what it looks at. -/
theorem run_agree {ops : Array Oper} {o : Oper} {A B : Act} {W : World} {R : Act → World → Prop} (hag : ∀ t, t ∈ o.looksAt ops → A.tmps[t]? = B.tmps[t]?) (hsel : ∀ cs b, o.op ≠ .select cs b) (hg : o.guard = none) (hdefs : ∀ a' W', R a' W' → a'.defers = B.defers)
    (h : wpList P ops (Only R) [o] B W) : wpList P ops (Only fun A' W' => ∃ v, A' = A.put o.dst v ∧ R (B.put o.dst v) W') [o] A W := by
  unfold wpList at *
  have hw : ∀ X : Act, Region.wanted o (yielded ops X.tmps) = true := fun X => by simp [Region.wanted, hg]
  rw [if_pos (hw B)] at h
  rw [if_pos (hw A)]
  have he : execOp A.eval o = execOp B.eval o := execOp_congr o hsel (evalAgree hag)
  rcases h with h | ⟨_, _, _, hf⟩
  · refine Or.inl ?_
    unfold Oper.wp at *
    rw [he]
    cases hr : (execOp B.eval o).run P W with
    | halt x w' =>
      rw [hr] at h
      cases x <;> simp only [Oper.upon] at h ⊢ <;> first | exact h | exact h.elim
    | ok nx w' =>
      rw [hr] at h
      cases nx with
      | value v => exact ⟨v, rfl, h⟩
      | skip => exact ⟨undef, rfl, h⟩
      | enter f args =>
        simp only [Oper.upon] at h ⊢
        exact Calls.mono h (fun e w'' he => by
          cases e with
          | returned v => exact ⟨v, rfl, he⟩
          | panicked c => exact he
          | outgrown => obtain ⟨_, _, hf⟩ := he; exact hf.elim)
      | row row args =>
        simp only [Oper.upon] at h ⊢
        exact Rows.mono h (fun v w'' he => ⟨v, rfl, he⟩)
      | defer d =>
        simp only [Oper.upon] at h
        have := hdefs _ _ h
        have e2 : (({ B with defers := d :: B.defers } : Act).put o.dst undef).defers = d :: B.defers := by cases o.dst <;> rfl
        rw [e2] at this
        exact absurd this (List.cons_ne_self _ _)
      | _ => simp only [Oper.upon] at h ⊢
  · exact hf.elim

theorem puts_hit {ops : Array Oper} {v : Nat → Value} {L : Nat → Bool} {b : Act} {k t : Nat} (hu : ∀ j, k < j → j < n → dstOf ops j ≠ some t) (hk : k < n) (hL : L k = true) (hd : dstOf ops k = some t) :
    (puts ops v L b n).tmps[t]? = (b.put (some t) (v k)).tmps[t]? := by
  rw [puts_beyond (i := k + 1) hk (fun j h1 h2 _ => hu j h1 h2), puts, if_pos hL, hd]
  exact put_get_eq (puts_size k) _ _
theorem puts_miss {ops : Array Oper} {v : Nat → Value} {L : Nat → Bool} {b : Act} {t : Nat} (h : ∀ k, k < n → L k = true → dstOf ops k ≠ some t) : (puts ops v L b n).tmps[t]? = b.tmps[t]? :=
  puts_beyond (i := 0) (Nat.zero_le _) (fun k _ h2 h3 => h k h2 h3)
theorem puts_defers {ops : Array Oper} {v : Nat → Value} {L : Nat → Bool} {b : Act} (k : Nat) : (puts ops v L b k).defers = b.defers := by
  induction k with
  | zero => rfl
  | succ k ih =>
    unfold puts
    split
    · cases dstOf ops k <;> simp [Act.put, ih]
    · exact ih
theorem act_ext {X Y : Act} (h : ∀ t : Nat, X.tmps[t]? = Y.tmps[t]?) (hd : X.defers = Y.defers) : X = Y := by
  cases X; cases Y
  simp only at h hd
  subst hd
  congr 1
  exact Array.ext_getElem? h
theorem put_hit {A B : Act} (hs : A.tmps.size = B.tmps.size) (t : Nat) : (A.put (some t) (B.tmps.getD t undef)).tmps[t]? = B.tmps[t]? := by
  simp only [Act.put, Array.getElem?_setIfInBounds]
  by_cases h : t < A.tmps.size
  · simp [h, show t < B.tmps.size by omega]
  · rw [if_pos trivial, if_neg h, Array.getElem?_eq_none (by omega)]

def vg (l : List Oper) (F : Act) (gs : List Nat) (β : Nat → Nat) (γ : Nat → Value) (k : Nat) : Value := if gs.contains k = true then γ k else vb l F β k
/-- The frame of the text's order, with what the chain has made so far. -/
def fG (l : List Oper) (n : Nat) (F : Act) (gs : List Nat) (γ : Nat → Value) (j : Nat) : Act := puts l.toArray γ (fun k => (gs.take j).contains k) F n

def GrwInv (P : Program) (l : List Oper) (n : Nat) (gs : List Nat) (Q : Exit → Act → World → Prop) (a : Act) (w : World) (F : Act) (obj : Nat → Obj) (K : Act → World → Prop) (L : Nat → Bool) (A : Act) (W : World) : Prop :=
  Clo l.toArray L ∧
  (((∃ i, i < n ∧ L i = false) ∧ (∀ t, n ≤ t → L t = false) ∧ Below w.heap.size w W ∧ ∃ β γ j, (∀ i, i < gs.length → L (gs.getD i 0) = decide (i < j)) ∧ j ≤ gs.length ∧ A = puts l.toArray (vg l F gs β γ) L a n ∧ Fresh l.toArray n w obj β L W ∧
      GrowL P l.toArray ((gs.drop j).filterMap (l.toArray[·]?)) (fG l n F gs γ j) W K) ∨
   ((∀ i, i < n → L i = true) ∧ ∃ p, n ≤ p ∧ p ≤ l.length ∧ (∀ t, n ≤ t → t < l.length → L t = decide (t < p)) ∧ wpList P l.toArray Q (l.drop p) A W))

theorem dst_get {k t : Nat} (hkd : dstOf l.toArray k = some t) : ∃ y, l.toArray[k]? = some y ∧ y.dst = some t := by
  unfold dstOf at hkd
  cases h : l.toArray[k]? with
  | none => rw [h] at hkd; simp at hkd
  | some y => rw [h] at hkd; exact ⟨y, rfl, by simpa using hkd⟩
theorem dst_one (ok : DetOk l n) {j k t : Nat} (hj : j < n) (hk : k < n) (h1 : dstOf l.toArray j = some t) (h2 : dstOf l.toArray k = some t) : j = k := by
  obtain ⟨x, hx, hxd⟩ := dst_get h1
  obtain ⟨y, hy, hyd⟩ := dst_get h2
  rcases Nat.lt_trichotomy j k with h | h | h
  · exact ((ok.share k j y x hk h hy hx).2.2 t hyd hxd).elim
  · exact h
  · exact ((ok.share j k x y hj h hx hy).2.2 t hxd hyd).elim

/-- The frame behind all of it. -/
theorem frame_end2 (ok : GrwOk l n gs) {F : Act} {β : Nat → Nat} {γ : Nat → Value} (hF : puts l.toArray (valsOf l F) (fun _ => true) a n = F) {L : Nat → Bool} (hL : ∀ i, i < n → L i = true) :
    puts l.toArray (vg l F gs β γ) L a n = puts l.toArray (fun k => ptrAt (β k)) (loB l.toArray) (fG l n F gs γ gs.length) n := by
  have hsF : F.tmps.size = a.tmps.size := by rw [← hF, puts_size]
  refine act_ext (fun t => ?_) (by unfold fG; rw [puts_defers, puts_defers, puts_defers, ← hF, puts_defers])
  by_cases h : ∃ k, k < n ∧ dstOf l.toArray k = some t
  · obtain ⟨k, hk, hd⟩ := h
    have hu : ∀ j, k < j → j < n → dstOf l.toArray j ≠ some t := fun j h1 h2 h3 => by have := dst_one ok.ok h2 hk h3 hd; omega
    rw [puts_hit hu hk (hL k hk) hd]
    by_cases hg : gs.contains k = true
    · -- made by the chain
      have hm : k ∈ gs := by simpa using hg
      obtain ⟨o, ho, _⟩ := dst_get hd
      have hlo : loB l.toArray k = false := by rw [loB_get ho]; exact (ok.plain k hm o ho).1
      rw [puts_miss (L := loB l.toArray) (fun j hj hlj hdj => by have := dst_one ok.ok hj hk hdj hd; subst this; rw [hlo] at hlj; cases hlj)]
      unfold fG
      rw [puts_hit (L := fun k => (gs.take gs.length).contains k) hu hk (by simpa using hm) hd]
      unfold vg; rw [if_pos hg]
      exact put_get_eq hsF.symm _ _
    · by_cases hlo : loB l.toArray k = true
      · rw [puts_hit (L := loB l.toArray) hu hk hlo hd]
        unfold vg vb; rw [if_neg hg, if_pos hlo]
        exact put_get_eq (by unfold fG; rw [puts_size, hsF]) _ _
      · rw [puts_miss (L := loB l.toArray) (fun j hj hlj hdj => by have := dst_one ok.ok hj hk hdj hd; subst this; exact hlo hlj)]
        unfold fG
        rw [puts_miss (L := fun k => (gs.take gs.length).contains k) (fun j hj hlj hdj => by have := dst_one ok.ok hj hk hdj hd; subst this; exact hg (by simpa using hlj))]
        unfold vg vb; rw [if_neg hg, if_neg hlo]
        have hv : valsOf l F k = F.tmps.getD t undef := by unfold valsOf; rw [hd]
        rw [hv]
        exact put_hit (by rw [hsF]) t
  · have hno : ∀ k, k < n → dstOf l.toArray k ≠ some t := fun k hk hd => h ⟨k, hk, hd⟩
    rw [puts_miss (fun k hk _ => hno k hk), puts_miss (fun k hk _ => hno k hk)]
    unfold fG
    rw [puts_miss (fun k hk _ => hno k hk), ← hF, puts_miss (fun k hk _ => hno k hk)]

theorem grwInv_start (ok : GrwOk l n gs) {F : Act} {obj : Nat → Obj} {K : Act → World → Prop} (hF0 : puts l.toArray (valsOf l F) (fun _ => true) a n = F)
    (hT : ∀ a' w', K a' w' → ∀ β, Below w.heap.size w w' → Fresh l.toArray n w obj β (fun _ => true) w' → wpList P l.toArray Q (l.drop n) ((looseOf l.toArray n).foldl (fun A p => A.put p.2 (ptrAt (β p.1))) a') w')
    {L : Nat → Bool} {A : Act} {W : World} (hc : Clo l.toArray L) (ht : ∀ t, n ≤ t → L t = false) (hb : Below w.heap.size w W) {β : Nat → Nat} {γ : Nat → Value} {j : Nat} (hj : ∀ i, i < gs.length → L (gs.getD i 0) = decide (i < j)) (hjl : j ≤ gs.length)
    (hA : A = puts l.toArray (vg l F gs β γ) L a n) (hf : Fresh l.toArray n w obj β L W) (hG : GrowL P l.toArray ((gs.drop j).filterMap (l.toArray[·]?)) (fG l n F gs γ j) W K) :
    GrwInv P l n gs Q a w F obj K L A W := by
  refine ⟨hc, ?_⟩
  by_cases h : ∃ i, i < n ∧ L i = false
  · exact Or.inl ⟨h, ht, hb, β, γ, j, hj, hjl, hA, hf, hG⟩
  · have hall : ∀ i, i < n → L i = true := by
      intro i hi
      cases hL : L i with
      | true => rfl
      | false => exact (h ⟨i, hi, hL⟩).elim
    refine Or.inr ⟨hall, n, Nat.le_refl _, ok.ok.le, fun t h1 _ => by rw [ht t h1]; simp; omega, ?_⟩
    obtain rfl : j = gs.length := by
      rcases Nat.lt_or_ge j gs.length with h1 | h1
      · have h2 := hj j h1
        rw [hall _ (ok.lt _ (by rw [List.getD_eq_getElem?_getD, List.getElem?_eq_getElem h1]; simp))] at h2
        simp at h2
      · omega
    rw [hA, frame_end2 ok hF0 hall, puts_loose]
    rw [List.drop_length] at hG
    exact hT _ _ (hG W (Below.refl _ _)) β hb ⟨fun k hk hl _ => hf.old k hk hl (hall k hk), fun j k hj hk hlj hlk _ _ => hf.inj j k hj hk hlj hlk (hall j hj) (hall k hk)⟩

theorem fG_zero {F : Act} {γ : Nat → Value} : fG l n F gs γ 0 = F := by
  unfold fG
  have : ∀ k, puts l.toArray γ (fun k => (gs.take 0).contains k) F k = F := by
    intro k
    induction k with
    | zero => rfl
    | succ k ih => unfold puts; simp at ih ⊢; exact ih
  exact this n

/-- **One walk serves every order**, where a chain of operations makes memory. -/
theorem wp_region_grow {id : Nat} (n : Nat) (gs : List Nat) (hm : P.follows .mixedOrders = true) (hB : grwB l n gs = true) (F : Act) (obj : Nat → Obj)
    (hF : ∀ w1, Below w.heap.size w w1 → wpQuiet P l.toArray (fun w' => ∃ p : Regrown, w' = grow (redrawn w1 p.d) p.os) (fun a' => a' = F) (muteG gs 0 (l.take n)) a)
    (hz : ∀ k T, k < n → ((l.toArray[k]?).map (·.op) : Option Op) = some (.alloc T) → ∀ W : World, (Instr.alloc T true (.tuple #[])).run P W = .ok (.pointer (some ⟨W.heap.size, 0, none⟩)) (W.alloc (obj k)))
    (K : Act → World → Prop)
    (hG : GrowL P l.toArray (gs.filterMap (l.toArray[·]?)) F w K)
    (hT : ∀ a' w', K a' w' → ∀ β, Below w.heap.size w w' → Fresh l.toArray n w obj β (fun _ => true) w' → wpList P l.toArray Q (l.drop n) ((looseOf l.toArray n).foldl (fun A p => A.put p.2 (ptrAt (β p.1))) a') w') :
    (Code.region id l.toArray true).wp P Q a w := by
  have gok := grwOk hB
  have ok := gok.ok
  have hlen : (muteG gs 0 (l.take n)).length = n := by rw [muteG_len]; have := ok.le; simp; omega
  have hget : ∀ i, i < n → (muteG gs 0 (l.take n))[i]? = (l.toArray[i]?).map fun o => if gs.contains i then neutral o else mute o := by
    intro i hi
    rw [muteG_get, Nat.zero_add, List.getElem?_take, if_pos hi]; simp
  have hph : ∀ (v : Nat → Value) (M : Nat → Bool) k, k ≤ n → puts (muteG gs 0 (l.take n)).toArray v M a k = puts l.toArray v M a k := by
    intro v M k
    induction k with
    | zero => intro _; rfl
    | succ k ih =>
      intro hk
      have e : dstOf (muteG gs 0 (l.take n)).toArray k = dstOf l.toArray k := by
        unfold dstOf
        rw [List.getElem?_toArray, hget k (by omega)]
        cases l.toArray[k]? with
        | none => rfl
        | some o =>
          simp only [Option.map_some, Option.bind_some]
          split
          · rfl
          · exact mute_dst o
      unfold puts
      rw [ih (by omega), e]
  have hvals : ∀ w1, Below w.heap.size w w1 → (∀ i o, i < n → l.toArray[i]? = some o → gs.contains i = false → ∃ v, YieldsIn P l.toArray (fun w' => ∃ p : Regrown, w' = grow (redrawn w1 p.d) p.os) (mute o) v (puts l.toArray (valsOf l F) (fun _ => true) a i) ∧
      puts l.toArray (valsOf l F) (fun _ => true) a (i + 1) = (puts l.toArray (valsOf l F) (fun _ => true) a i).put o.dst v) ∧ puts l.toArray (valsOf l F) (fun _ => true) a n = F := by
    intro w1 hw1
    obtain ⟨vals, h1, h2⟩ := quiet_vals _ _ (hF w1 hw1)
    rw [hlen, hph _ _ n (Nat.le_refl _)] at h2
    have hp := puts_vals ok h2
    refine ⟨fun i o hi ho hgi => ⟨vals i, ?_, ?_⟩, (hp n (Nat.le_refl _)) ▸ h2⟩
    · have h3 := h1 i (mute o) (by rw [hget i hi, ho]; simp only [Option.map_some, hgi]; rfl)
      rw [hph _ _ i (Nat.le_of_lt hi), hp i (Nat.le_of_lt hi)] at h3
      exact h3
    · rw [← hp (i + 1) hi, ← hp i (Nat.le_of_lt hi), puts, if_pos rfl]
      simp [dstOf, ho]
  obtain ⟨_, hF0⟩ := hvals w (Below.refl _ _)
  have hsF : F.tmps.size = a.tmps.size := by rw [← hF0, puts_size]
  refine wp_region_any hm (wpAny_inv3 ok.back (GrwInv P l n gs Q a w F obj K) ?_ ?_ _ _ _ _ (by simp) ?_ ?_)
  · intro i o ho L A W hL hI hd
    obtain ⟨hc, hI⟩ := hI
    have his : i < l.length := by simpa using (Array.getElem?_eq_some_iff.1 ho).1
    rcases hI with ⟨hex, ht, hb, β, γ, j, hj, hjl, hA, hf, hGr⟩ | ⟨hall, p, hp1, hp2, hp3, hw⟩
    · by_cases hin : i < n
      · have hdi : dstOf l.toArray i = o.dst := by simp [dstOf, ho]
        have hfree : ∀ k, i < k → k < n → L k = true → ∀ d, dstOf l.toArray k = some d → dstOf l.toArray i ≠ some d := by
          intro k hk1 hk2 _ d hkd hid
          have := dst_one ok hk2 hin hkd hid; omega
        have ht' : ∀ t, n ≤ t → (fun j => j == i || L j) t = false := by
          intro t h1
          have : (t == i) = false := by simpa using (show t ≠ i by omega)
          simp [this, ht t h1]
        have hA1 : A.tmps.size = a.tmps.size := by rw [hA, puts_size]
        by_cases hgi : gs.contains i = true
        · -- the chain's next
          have him : i ∈ gs := by simpa using hgi
          obtain ⟨m, hm1, hm2⟩ := List.getElem_of_mem him
          have hgm : gs.getD m 0 = i := by rw [List.getD_eq_getElem?_getD, List.getElem?_eq_getElem hm1]; simpa using hm2
          have hmj : m = j := by
            have h1 := hj m hm1
            rw [hgm, hL] at h1
            have h2 : j ≤ m := by simpa using h1
            rcases Nat.lt_or_ge j m with h3 | h3
            · exfalso
              have h4 := (gok.chain m j hm1 h3).1
              rw [hgm] at h4
              have h5 := anc_done hc h4 (fun o' ho' => by rw [ho] at ho'; obtain rfl := Option.some.inj ho'; exact hd)
              rw [hj j (by omega)] at h5; simp at h5
            · omega
          subst hmj
          have hdr : (gs.drop m).filterMap (l.toArray[·]?) = o :: (gs.drop (m + 1)).filterMap (l.toArray[·]?) := by
            rw [List.drop_eq_getElem_cons hm1, List.filterMap_cons, hm2, ho]
          rw [hdr] at hGr
          have hpl := gok.plain i him o ho
          have hrun := hGr W (Below.refl _ _)
          have hag : ∀ t, t ∈ o.looksAt l.toArray → A.tmps[t]? = (fG l n F gs γ m).tmps[t]? := by
            intro t htl
            rw [hA]
            unfold fG
            by_cases h : ∃ k, k < n ∧ dstOf l.toArray k = some t
            · obtain ⟨k, hk, hkd⟩ := h
              obtain ⟨y, hy, hyd⟩ := dst_get hkd
              have hap := gok.apart i him o ho k y hk hy
              have hki : k < i := by
                rcases Nat.lt_or_ge k i with h | h
                · exact h
                · exact (hap.2 h t hyd htl).elim
              have hsh : shareB l.toArray o y = true := by rw [shareB_comm]; exact share_dst hyd (Or.inr htl)
              have hs := ok.share i k o y hin hki ho hy
              have hLk : L k = true := anc_done hc (hs.1 hsh) (fun o' ho' => by rw [ho] at ho'; obtain rfl := Option.some.inj ho'; exact hd)
              have hlo : loB l.toArray k = false := by
                rw [loB_get hy]
                cases h : isAlloc y with
                | false => rfl
                | true => rw [hs.2.1 (Or.inr h)] at hsh; cases hsh
              have hu : ∀ j, k < j → j < n → dstOf l.toArray j ≠ some t := fun j h1 h2 h3 => by have := dst_one ok h2 hk h3 hkd; omega
              rw [puts_hit hu hk hLk hkd]
              by_cases hgk : gs.contains k = true
              · have hkm : k ∈ gs := by simpa using hgk
                obtain ⟨m', hm1', hm2'⟩ := List.getElem_of_mem hkm
                have hm'm : m' < m := by
                  have h1 := hj m' hm1'
                  rw [List.getD_eq_getElem?_getD, List.getElem?_eq_getElem hm1'] at h1
                  simp only [Option.getD_some, hm2', hLk] at h1
                  simpa using h1.symm
                have htk : (gs.take m).contains k = true := by
                  have : k ∈ gs.take m := List.mem_iff_getElem.2 ⟨m', by simp; omega, by rw [List.getElem_take]; exact hm2'⟩
                  simpa using this
                rw [puts_hit (L := fun k => (gs.take m).contains k) hu hk htk hkd]
                unfold vg; rw [if_pos hgk]
                exact put_get_eq hsF.symm _ _
              · have hnt : ∀ j, j < n → (gs.take m).contains j = true → dstOf l.toArray j ≠ some t := fun j h1 h2 h3 => by
                  have := dst_one ok h1 hk h3 hkd
                  subst this
                  have h4 : j ∈ gs.take m := by simpa using h2
                  exact hgk (by simpa using List.mem_of_mem_take h4)
                rw [puts_miss (L := fun k => (gs.take m).contains k) (fun j h1 h2 => hnt j h1 h2)]
                unfold vg vb; rw [if_neg hgk, if_neg (by rw [hlo]; simp)]
                have hv : valsOf l F k = F.tmps.getD t undef := by unfold valsOf; rw [hkd]
                rw [hv]
                exact put_hit (by rw [hsF]) t
            · have hno : ∀ k, k < n → dstOf l.toArray k ≠ some t := fun k hk hd => h ⟨k, hk, hd⟩
              rw [puts_miss (fun k hk _ => hno k hk), puts_miss (fun k hk _ => hno k hk), ← hF0, puts_miss (fun k hk _ => hno k hk)]
          have hr2 := run_agree hag (fun cs b => ok.sel i o cs b ho) hpl.2 (fun a' W' h => h.1) hrun
          refine wpOp_mono ?_ (wpOp_of_list ho hr2)
          rintro a' w' ⟨v, rfl, hdef, hbw, hGn⟩
          have hfG : (fG l n F gs γ m).put o.dst v = fG l n F gs (fun k => if k = i then v else γ k) (m + 1) := by
            unfold fG
            have e0 : (fun k => (gs.take (m + 1)).contains k) = fun k => k == i || (gs.take m).contains k := by
              funext k
              have : gs.take (m + 1) = gs.take m ++ [i] := by
                rw [List.take_add_one, List.getElem?_eq_getElem hm1, hm2]; rfl
              have h9 : [i].contains k = (k == i) := by rw [List.contains_cons, List.contains_nil, Bool.or_false]
              rw [this, List.contains_append, Bool.or_comm, h9]
            rw [e0, puts_add hin ?_ ?_]
            · rw [hdi]
              congr 1
              case e_v => simp
              · refine puts_congr (fun _ _ => rfl) (fun k hk hLk => ?_)
                have hne : k ≠ i := by
                  rintro rfl
                  have h4 : k ∈ gs.take m := by simpa using hLk
                  obtain ⟨m', hm1', hm2'⟩ := List.getElem_of_mem h4
                  rw [List.getElem_take] at hm2'
                  have hlt : m' < m := by simp at hm1'; omega
                  have h5 := (gok.chain m m' hm1 hlt).2
                  rw [hgm, List.getD_eq_getElem?_getD, List.getElem?_eq_getElem (by omega)] at h5
                  simp only [Option.getD_some, hm2'] at h5; omega
                rw [if_neg hne]
            · cases h : (gs.take m).contains i with
              | false => rfl
              | true =>
                exfalso
                have h4 : i ∈ gs.take m := by simpa using h
                obtain ⟨m', hm1', hm2'⟩ := List.getElem_of_mem h4
                rw [List.getElem_take] at hm2'
                have hlt : m' < m := by simp at hm1'; omega
                have h5 := (gok.chain m m' hm1 hlt).2
                rw [hgm, List.getD_eq_getElem?_getD, List.getElem?_eq_getElem (by omega)] at h5
                simp only [Option.getD_some, hm2'] at h5; omega
            · intro k hk1 hk2 _ d hkd hid
              have := dst_one ok hk2 hin hkd hid; omega
          rw [hfG] at hGn
          refine grwInv_start gok hF0 hT (clo_add hc ho hd) ht' (hb.trans (hbw.mono hb.size)) (β := β) (γ := fun k => if k = i then v else γ k) (j := m + 1) ?_ (by omega) ?_ ?_ hGn
          · intro q hq
            have h1 := hj q hq
            by_cases hqm : q = m
            · subst hqm; rw [hgm]; simp
            · have hne : gs.getD q 0 ≠ i := by
                intro e
                rcases Nat.lt_trichotomy q m with h | h | h
                · have := (gok.chain m q hm1 h).2; rw [hgm] at this; omega
                · exact hqm h
                · have := (gok.chain q m hq h).2; rw [hgm] at this; omega
              have hb2 : (gs.getD q 0 == i) = false := by simpa using hne
              simp only [hb2, Bool.false_or, h1, decide_eq_decide]; omega
          · rw [puts_add hin hL hfree, hA, hdi]
            have e3 : vg l F gs β (fun k => if k = i then v else γ k) i = v := by unfold vg; rw [if_pos hgi]; simp
            rw [e3]
            congr 1
            refine puts_congr (fun _ _ => rfl) (fun k hk hLk => ?_)
            have hne : k ≠ i := fun e => by rw [e, hL] at hLk; cases hLk
            unfold vg; simp only [if_neg hne]
          · have hf' := hf.later hbw
            have hlo : loB l.toArray i = false := by rw [loB_get ho]; exact hpl.1
            have hne : ∀ q, loB l.toArray q = true → (q == i) = false := fun q hq => by
              have : q ≠ i := fun e => by rw [e, hlo] at hq; cases hq
              simpa using this
            exact ⟨fun k hk hl hLk => hf'.old k hk hl (by simpa only [hne k hl, Bool.false_or] using hLk), fun j k hj hk hlj hlk hLj hLk => hf'.inj j k hj hk hlj hlk (by simpa only [hne j hlj, Bool.false_or] using hLj) (by simpa only [hne k hlk, Bool.false_or] using hLk)⟩
        · have hgi' : gs.contains i = false := by simpa using hgi
          have hjn : ∀ q, q < gs.length → (fun j => j == i || L j) (gs.getD q 0) = decide (q < j) := by
            intro q hq
            have hne : gs.getD q 0 ≠ i := by
              intro e
              have : i ∈ gs := by rw [← e, List.getD_eq_getElem?_getD, List.getElem?_eq_getElem hq]; simp
              exact hgi (by simpa using this)
            have hb2 : (gs.getD q 0 == i) = false := by simpa using hne
            simp only [hb2, Bool.false_or]; exact hj q hq
          cases ha : isAlloc o with
          | true =>
            obtain ⟨T, hop, hg⟩ : ∃ T, o.op = .alloc T ∧ o.guard = none := by
              unfold isAlloc at ha
              split at ha
              · rename_i T h1 h2; exact ⟨T, h1, h2⟩
              · cases ha
            have hzz := hz i T hin (by rw [ho]; simp [hop]) W
            unfold wpOp
            simp only [ho]
            rw [if_pos (by simp [Region.wanted, hg])]
            refine Or.inl ?_
            unfold Oper.wp execOp
            simp only [hop, hzz, Sem.run_bind, Sem.run_pure, Result.andThen_ok, Oper.upon]
            refine grwInv_start gok hF0 hT (clo_add hc ho hd) ht' (hb.alloc hb.size _) (β := fun k => if k = i then W.heap.size else β k) (γ := γ) (j := j) hjn hjl ?_ ?_ (hGr.later ((Below.refl _ _).alloc (Nat.le_refl _) _))
            · rw [puts_add hin hL hfree, hA]
              have e1 : vg l F gs (fun k => if k = i then W.heap.size else β k) γ i = .pointer (some ⟨W.heap.size, 0, none⟩) := by
                unfold vg vb; rw [if_neg hgi, loB_get ho, if_pos ha]; simp [ptrAt]
              rw [e1, hdi]
              congr 1
              refine puts_congr (fun _ _ => rfl) (fun k hk hLk => ?_)
              have hki : k ≠ i := fun e => by rw [e, hL] at hLk; cases hLk
              unfold vg vb; simp only [if_neg hki]
            · refine ⟨fun k hk hlo hLk => ?_, fun j k hj hk hlj hlk hLj hLk hβ => ?_⟩
              · by_cases hki : k = i
                · subst hki
                  simp only [↓reduceIte]
                  exact ⟨hb.size, heap_alloc_new W _⟩
                · have : (k == i) = false := by simpa using hki
                  simp only [this, Bool.false_or] at hLk
                  rw [if_neg hki]
                  have h5 := hf.old k hk hlo hLk
                  exact ⟨h5.1, by rw [Below.heap_alloc W _ _ (lt_of_block h5.2)]; exact h5.2⟩
              · by_cases hji : j = i
                · by_cases hki : k = i
                  · rw [hji, hki]
                  · exfalso
                    have : (k == i) = false := by simpa using hki
                    simp only [this, Bool.false_or] at hLk
                    rw [if_pos hji, if_neg hki] at hβ
                    have := lt_of_block (hf.old k hk hlk hLk).2
                    omega
                · have hj2 : (j == i) = false := by simpa using hji
                  simp only [hj2, Bool.false_or] at hLj
                  by_cases hki : k = i
                  · exfalso
                    rw [if_neg hji, if_pos hki] at hβ
                    have := lt_of_block (hf.old j hj hlj hLj).2
                    omega
                  · have : (k == i) = false := by simpa using hki
                    simp only [this, Bool.false_or] at hLk
                    rw [if_neg hji, if_neg hki] at hβ
                    exact hf.inj j k hj hk hlj hlk hLj hLk hβ
          | false =>
            obtain ⟨h1, _⟩ := hvals W hb
            obtain ⟨v, hy, hput⟩ := h1 i o hin ho hgi'
            rw [mute_not ha] at hy
            have hag : ∀ t, t ∈ o.looksAt l.toArray → A.tmps[t]? = (puts l.toArray (valsOf l F) (fun _ => true) a i).tmps[t]? := by
              intro t htl
              rw [hA, puts_beyond (i := i) (Nat.le_of_lt hin)]
              · refine puts_same (fun k hk hkd => ?_)
                obtain ⟨y, hyy, hyd⟩ := dst_get hkd
                have hs := ok.share i k o y hin hk ho hyy
                have hsh : shareB l.toArray o y = true := by rw [shareB_comm]; exact share_dst hyd (Or.inr htl)
                refine ⟨anc_done hc (hs.1 hsh) (fun o' ho' => by rw [ho] at ho'; obtain rfl := Option.some.inj ho'; exact hd), rfl, ?_⟩
                have hgk : gs.contains k = false := by
                  cases h : gs.contains k with
                  | false => rfl
                  | true =>
                    exfalso
                    exact (gok.apart k (by simpa using h) y hyy i o hin ho).1 hgi' t hyd (List.mem_append_right _ htl)
                unfold vg vb
                rw [hgk, loB_get hyy]
                cases hay : isAlloc y with
                | false => rfl
                | true => rw [hs.2.1 (Or.inr hay)] at hsh; cases hsh
              · intro k hk1 hk2 hk3 hkd
                by_cases e : k = i
                · subst e; rw [hL] at hk3; cases hk3
                · obtain ⟨y, hyy, hyd⟩ := dst_get hkd
                  have hs := ok.share k i y o hk2 (by omega) hyy ho
                  have := anc_done hc (hs.1 (share_dst hyd (Or.inr htl))) (fun o' ho' => hc k o' ho' hk3)
                  rw [hL] at this; cases this
            have hy' : YieldsIn P l.toArray (fun w' => ∃ p : Regrown, w' = grow (redrawn W p.d) p.os) o v A :=
              hy.of_same (execOp_congr o (fun cs b => ok.sel i o cs b ho) (evalAgree hag)) (wantAgree hag)
            refine wpOp_of_qOp (Cls.self W) (fun a' w' hw' ha' => ?_) (hy'.qOp ho (K := fun a' => a' = A.put o.dst v) rfl)
            have hbw : Below W.heap.size W w' := Cls.below hw'
            refine grwInv_start gok hF0 hT (clo_add hc ho hd) ht' (hb.trans (hbw.mono hb.size)) (β := β) (γ := γ) (j := j) hjn hjl ?_ ?_ (hGr.later hbw)
            · rw [puts_add hin hL hfree, ha', hA, hdi]
              have e3 : vg l F gs β γ i = valsOf l F i := by unfold vg vb; rw [hgi', loB_get ho, ha]; rfl
              rw [e3]
              cases hod : o.dst with
              | none => rfl
              | some d =>
                rw [hod] at hput
                have e4 : (puts l.toArray (valsOf l F) (fun _ => true) a i).put (some d) v = (puts l.toArray (valsOf l F) (fun _ => true) a i).put (some d) (valsOf l F i) := by
                  rw [← hput, puts, if_pos rfl, hdi, hod]
                have hs1 : (puts l.toArray (valsOf l F) (fun _ => true) a i).tmps.size = a.tmps.size := puts_size _
                have hs2 : (puts l.toArray (vg l F gs β γ) L a n).tmps.size = a.tmps.size := puts_size _
                by_cases hdl : d < a.tmps.size
                · have h7 := congrArg (fun A : Act => A.tmps[d]?) e4
                  simp only [Act.put, Array.getElem?_setIfInBounds, if_pos, hs1, hdl] at h7
                  rw [Option.some.inj h7]
                · have h8 : ∀ (B : Act) (x : Value), B.tmps.size = a.tmps.size → B.put (some d) x = B := by
                    intro B x hB
                    simp only [Act.put]
                    rw [Array.setIfInBounds_eq_of_size_le (by rw [hB]; exact Nat.le_of_not_lt hdl)]
                  rw [h8 _ _ hs2, h8 _ _ hs2]
            · have hf' := hf.later hbw
              have hlo : loB l.toArray i = false := by rw [loB_get ho]; exact ha
              have hne : ∀ q, loB l.toArray q = true → (q == i) = false := fun q hq => by
                have : q ≠ i := fun e => by rw [e, hlo] at hq; cases hq
                simpa using this
              exact ⟨fun k hk hl hLk => hf'.old k hk hl (by simpa only [hne k hl, Bool.false_or] using hLk), fun j k hj hk hlj hlk hLj hLk => hf'.inj j k hj hk hlj hlk (by simpa only [hne j hlj, Bool.false_or] using hLj) (by simpa only [hne k hlk, Bool.false_or] using hLk)⟩
      · exfalso
        obtain ⟨j, hj, hLj⟩ := hex
        have := anc_done hc (ok.tail i j (by omega) his (by omega)) (fun o' ho' => by rw [ho] at ho'; obtain rfl := Option.some.inj ho'; exact hd)
        rw [hLj] at this; cases this
    · have hin : n ≤ i := by
        rcases Nat.lt_or_ge i n with h | h
        · rw [hall i h] at hL; cases hL
        · exact h
      have hip : i = p := by
        have h1 : ¬ i < p := by
          intro h; rw [hp3 i hin his] at hL; simp [h] at hL
        rcases Nat.lt_or_ge p i with h | h
        · exfalso
          have := anc_done hc (ok.tail i p (by omega) his h) (fun o' ho' => by rw [ho] at ho'; obtain rfl := Option.some.inj ho'; exact hd)
          rw [hp3 p hp1 (by omega)] at this; simp at this
        · omega
      subst hip
      have hdrop : l.drop i = o :: l.drop (i + 1) := by
        rw [List.drop_eq_getElem_cons his]
        have : l[i] = o := by simpa [his] using ho
        rw [this]
      rw [hdrop] at hw
      have hw2 : wpOp P l.toArray Q i (wpList P l.toArray Q (l.drop (i + 1))) A W := by
        unfold wpOp; simp only [ho]; exact hw
      refine wpOp_mono (fun a' w' h => ?_) hw2
      refine ⟨clo_add hc ho hd, Or.inr ⟨fun j hj => by simp [hall j hj], i + 1, by omega, by omega, fun t h1 h2 => ?_, h⟩⟩
      have := hp3 t h1 h2
      by_cases e : t = i
      · subst e; simp
      · have e2 : (t == i) = false := by simpa using e
        simp only [e2, Bool.false_or, this]
        simp only [decide_eq_decide]; omega
  · intro L A W hL hI
    obtain ⟨_, hI⟩ := hI
    rcases hI with ⟨⟨i, hi, hLi⟩, _⟩ | ⟨_, p, hp1, hp2, hp3, hw⟩
    · rw [hL i (by have := ok.le; simp; omega)] at hLi; cases hLi
    · have hpl : p = l.length := by
        rcases Nat.lt_or_ge p l.length with h | h
        · have h1 := hL p (by simpa using h)
          rw [hp3 p hp1 h] at h1; simp at h1
        · omega
      subst hpl
      simpa [wpList] using hw
  · have : ∀ m, m ≤ l.toArray.size → unl m (Array.replicate l.toArray.size false) = m := by
      intro m
      induction m with
      | zero => intro _; rfl
      | succ m ih =>
        intro hm
        have hm' : m < l.length := by simp at hm; omega
        rw [unl_succ, ih (by omega), if_pos (by simp [hm'])]
    exact this _ (Nat.le_refl _)
  · have e : (fun j => (Array.replicate l.toArray.size false).getD j false) = fun _ => false := by
      funext j
      by_cases h : j < l.length
      · simp [h]
      · simp [h]
    rw [e]
    refine grwInv_start gok hF0 hT (fun j o _ h => by cases h) (fun _ _ => rfl) ⟨rfl, rfl, rfl, Nat.le_refl _, fun _ _ => rfl⟩ (β := fun _ => 0) (γ := fun _ => undef) (j := 0) (fun _ _ => by simp) (Nat.zero_le _) ?_ ⟨fun k _ _ h => (by cases h), fun j k _ _ _ _ h => (by cases h)⟩ ?_
    · have : ∀ k, puts l.toArray (vg l F gs (fun _ => 0) (fun _ => undef)) (fun _ => false) a k = a := by
        intro k
        induction k with
        | zero => rfl
        | succ k ih => unfold puts; simp [ih]
      exact (this n).symm
    · rw [List.drop_zero, fG_zero]
      exact hG.later ⟨rfl, rfl, rfl, Nat.le_refl _, fun _ _ => rfl⟩

/-- Every alloc below n has no guard. -/
def allocsPlain (l : List Oper) (n : Nat) : Bool := (List.range n).all fun k => match l.toArray[k]? with
  | some o => (match o.op with | .alloc _ => o.guard.isNone | _ => true)
  | none => true
theorem allocs_loose (hp : allocsPlain l n = true) {k : Nat} {T : TypeId} (hk : k < n) (h : ((l.toArray[k]?).map (·.op) : Option Op) = some (.alloc T)) : (k, dstOf l.toArray k) ∈ looseOf l.toArray n := by
  refine List.mem_map.2 ⟨k, List.mem_filter.2 ⟨List.mem_range.2 hk, ?_⟩, rfl⟩
  unfold allocsPlain at hp
  have h1 := List.all_eq_true.1 hp k (List.mem_range.2 hk)
  unfold loB
  cases ho : l.toArray[k]? with
  | none => rw [ho] at h; cases h
  | some o =>
    rw [ho] at h h1
    have h2 : o.op = .alloc T := by simpa using h
    simp only [h2] at h1
    show isAlloc o = true
    unfold isAlloc
    rw [h2]
    cases hg : o.guard with
    | none => rfl
    | some x => rw [hg] at h1; cases h1

/-- No block is made beside the chain. -/
theorem wp_region_grow0 {id : Nat} (n : Nat) (gs : List Nat) (hm : P.follows .mixedOrders = true) (hB : grwB l n gs = true) (hp : allocsPlain l n = true) (hlo : looseOf l.toArray n = []) (F : Act)
    (hF : ∀ w1, Below w.heap.size w w1 → wpQuiet P l.toArray (fun w' => ∃ p : Regrown, w' = grow (redrawn w1 p.d) p.os) (fun a' => a' = F) (muteG gs 0 (l.take n)) a)
    (hG : GrowL P l.toArray (gs.filterMap (l.toArray[·]?)) F w fun a' w' => wpList P l.toArray Q (l.drop n) a' w') :
    (Code.region id l.toArray true).wp P Q a w := by
  refine wp_region_grow n gs hm hB F (fun _ => .cells #[] 0) hF (fun k T hk h => ?_) _ hG (fun a' w' hK β hb hf => ?_)
  · have := allocs_loose hp hk h
    rw [hlo] at this; cases this
  · rw [hlo]; exact hK

/-- One block is made beside the chain. -/
theorem wp_region_grow1 {id : Nat} (n : Nat) (gs : List Nat) (k1 d1 : Nat) (T1 : TypeId) (cs1 : Array Value) (hm : P.follows .mixedOrders = true) (hB : grwB l n gs = true) (hp : allocsPlain l n = true) (hlo : looseOf l.toArray n = [(k1, some d1)])
    (hop : ((l.toArray[k1]?).map (fun o => match o.op with | .alloc T => some T | _ => none)) = some (some T1))
    (hz : ∀ W : World, (Instr.alloc T1 true (.tuple #[])).run P W = .ok (.pointer (some ⟨W.heap.size, 0, none⟩)) (W.alloc (.cells cs1 T1))) (F : Act)
    (hF : ∀ w1, Below w.heap.size w w1 → wpQuiet P l.toArray (fun w' => ∃ p : Regrown, w' = grow (redrawn w1 p.d) p.os) (fun a' => a' = F) (muteG gs 0 (l.take n)) a)
    (hG : GrowL P l.toArray (gs.filterMap (l.toArray[·]?)) F w fun a' w' => ∀ b, w.heap.size ≤ b → Ob w' b T1 cs1 → wpList P l.toArray Q (l.drop n) (a'.put (some d1) (ptrAt b)) w') :
    (Code.region id l.toArray true).wp P Q a w := by
  have hk1 : k1 < n ∧ loB l.toArray k1 = true := by
    have : (k1, some d1) ∈ looseOf l.toArray n := by rw [hlo]; exact List.mem_cons_self
    obtain ⟨k, hk, he⟩ := List.mem_map.1 this
    obtain ⟨hk2, hk3⟩ := List.mem_filter.1 hk
    simp only [Prod.mk.injEq] at he
    obtain ⟨rfl, _⟩ := he
    exact ⟨List.mem_range.1 hk2, hk3⟩
  refine wp_region_grow n gs hm hB F (fun _ => .cells cs1 T1) hF (fun k T hk h => ?_) _ hG (fun a' w' hK β hb hf => ?_)
  · have h1 := allocs_loose hp hk h
    rw [hlo] at h1
    simp only [List.mem_singleton, Prod.mk.injEq] at h1
    obtain ⟨rfl, _⟩ := h1
    obtain rfl : T = T1 := by
      cases ho : l.toArray[k]? with
      | none => rw [ho] at h; cases h
      | some o =>
        rw [ho] at h hop
        have h2 : o.op = .alloc T := by simpa using h
        simp [h2] at hop; exact hop
    exact hz
  · rw [hlo]
    have h1 := hf.old k1 hk1.1 hk1.2 rfl
    exact hK (β k1) h1.1 h1.2

/-- Two blocks are made beside the chain. -/
theorem wp_region_grow2 {id : Nat} (n : Nat) (gs : List Nat) (k1 d1 k2 d2 : Nat) (T1 T2 : TypeId) (cs1 cs2 : Array Value) (hm : P.follows .mixedOrders = true) (hB : grwB l n gs = true) (hp : allocsPlain l n = true) (hlo : looseOf l.toArray n = [(k1, some d1), (k2, some d2)]) (hne : k1 ≠ k2)
    (hop1 : ((l.toArray[k1]?).map (fun o => match o.op with | .alloc T => some T | _ => none)) = some (some T1))
    (hop2 : ((l.toArray[k2]?).map (fun o => match o.op with | .alloc T => some T | _ => none)) = some (some T2))
    (hz1 : ∀ W : World, (Instr.alloc T1 true (.tuple #[])).run P W = .ok (.pointer (some ⟨W.heap.size, 0, none⟩)) (W.alloc (.cells cs1 T1)))
    (hz2 : ∀ W : World, (Instr.alloc T2 true (.tuple #[])).run P W = .ok (.pointer (some ⟨W.heap.size, 0, none⟩)) (W.alloc (.cells cs2 T2))) (F : Act)
    (hF : ∀ w1, Below w.heap.size w w1 → wpQuiet P l.toArray (fun w' => ∃ p : Regrown, w' = grow (redrawn w1 p.d) p.os) (fun a' => a' = F) (muteG gs 0 (l.take n)) a)
    (hG : GrowL P l.toArray (gs.filterMap (l.toArray[·]?)) F w fun a' w' => ∀ b c, w.heap.size ≤ b → w.heap.size ≤ c → b ≠ c → Ob w' b T1 cs1 → Ob w' c T2 cs2 → wpList P l.toArray Q (l.drop n) ((a'.put (some d1) (ptrAt b)).put (some d2) (ptrAt c)) w') :
    (Code.region id l.toArray true).wp P Q a w := by
  have hmem : ∀ k d, (k, d) ∈ looseOf l.toArray n → k < n ∧ loB l.toArray k = true := by
    intro k' d this
    obtain ⟨k, hk, he⟩ := List.mem_map.1 this
    obtain ⟨hk2, hk3⟩ := List.mem_filter.1 hk
    simp only [Prod.mk.injEq] at he
    obtain ⟨rfl, _⟩ := he
    exact ⟨List.mem_range.1 hk2, hk3⟩
  have hk1 := hmem k1 (some d1) (by rw [hlo]; simp)
  have hk2 := hmem k2 (some d2) (by rw [hlo]; simp)
  refine wp_region_grow n gs hm hB F (fun k => if k = k1 then .cells cs1 T1 else .cells cs2 T2) hF (fun k T hk h => ?_) _ hG (fun a' w' hK β hb hf => ?_)
  · have h1 := allocs_loose hp hk h
    rw [hlo] at h1
    simp only [List.mem_cons, Prod.mk.injEq, List.not_mem_nil, or_false] at h1
    have hT : ∀ T', ((l.toArray[k]?).map (fun o => match o.op with | .alloc T => some T | _ => none)) = some (some T') → T = T' := by
      intro T' hop
      cases ho : l.toArray[k]? with
      | none => rw [ho] at h; cases h
      | some o =>
        rw [ho] at h hop
        have h2 : o.op = .alloc T := by simpa using h
        simp [h2] at hop; exact hop
    rcases h1 with ⟨rfl, _⟩ | ⟨rfl, _⟩
    · obtain rfl := hT _ hop1
      simpa using hz1
    · obtain rfl := hT _ hop2
      simpa [Ne.symm hne] using hz2
  · rw [hlo]
    have h1 := hf.old k1 hk1.1 hk1.2 rfl
    have h2 := hf.old k2 hk2.1 hk2.2 rfl
    simp only [↓reduceIte] at h1
    rw [if_neg (Ne.symm hne)] at h2
    exact hK (β k1) (β k2) h1.1 h2.1 (fun e => hne (hf.inj k1 k2 hk1.1 hk2.1 hk1.2 hk2.2 rfl rfl e)) h1.2 h2.2
end
end Go.Proofs.Ytbldgpemocnboaa

namespace Go.Proofs.Ytbldgpemocnboaa
open Go.RowKit Go.Sort

def relB (l : List Oper) (n : Nat) : Bool :=
  let ops := l.toArray
  let m := ancs l []
  Region.noSelect ops && decide (n ≤ l.length) && backB ops &&
  ((List.range n).all fun i => (List.range i).all fun k => match ops[i]?, ops[k]? with
    | some x, some y => (!shareB ops x y || (m.getD i 0).testBit k) && (!x.dst.isSome || x.dst != y.dst)
    | _, _ => false) &&
  ((List.range l.length).all fun i => decide (i < n) || ((List.range i).all fun k => (m.getD i 0).testBit k))

/-- The world w1 or one that leaves its blocks as they are. -/
def C1 (w1 w' : World) : Prop := ∃ p : Regrown, w' = grow (redrawn w1 p.d) p.os
theorem C1.below {w w' : World} (h : C1 w w') : Below w.heap.size w w' := by
  obtain ⟨p, rfl⟩ := h; exact below_regrown w p.d p.os
theorem C1.self (w : World) : C1 w w := regrown_of_below (Below.refl _ _)
theorem C1.of {w w' : World} (h : Below w.heap.size w w') : C1 w w' := regrown_of_below h

/-- What the new values that operation i waits for are. -/
def Facts (l : List Oper) (Λ : List Nat) (S : Nat → Value → World → Prop) (vs : Nat → Value) (i : Nat) (W : World) : Prop :=
  ∀ k, k ∈ Λ → ((ancs l []).getD i 0).testBit k = true → S k (vs k) W
/-- An operation, run: what is known of its value and of the world behind it. -/
def yldUpon (P : Program) (R : Value → World → Prop) : Result Next → Prop
  | .ok (.value u) w' => R u w'
  | .ok .skip w' => R undef w'
  | .ok (.enter f args) w' => Calls P f args w' fun e w'' => ∃ u, e = .returned u ∧ R u w''
  | _ => False

def WQ (P : Program) (l : List Oper) (Λ : List Nat) (S : Nat → Value → World → Prop) (w1 : World) (vs : Nat → Value) (Q : Act → Prop) : Nat → List Oper → Act → Prop
  | _, [], a => Q a
  | i, o :: r, a =>
    if Λ.contains i = true then
      (Region.wanted o (yielded l.toArray a.tmps) = true ∧ ∀ W, C1 w1 W → Facts l Λ S vs i W → yldUpon P (fun u W' => Below W.heap.size W W' ∧ S i u W') ((execOp a.eval o).run P W)) ∧ WQ P l Λ S w1 vs Q (i + 1) r (a.put o.dst (vs i))
    else
      ∃ v, ((Region.wanted o (yielded l.toArray a.tmps) = true ∧ ∀ W, C1 w1 W → Facts l Λ S vs i W → o.quietAt P a (C1 w1) W v) ∨ (Region.wanted o (yielded l.toArray a.tmps) = false ∧ v = undef)) ∧ WQ P l Λ S w1 vs Q (i + 1) r (a.put o.dst v)

section
variable {P : Program} {l : List Oper} {Λ : List Nat} {S : Nat → Value → World → Prop} {w1 : World} {vs : Nat → Value} {Qf : Act → Prop} {i : Nat} {o : Oper} {r : List Oper} {a : Act}

theorem WQ.nil (h : Qf a) : WQ P l Λ S w1 vs Qf i [] a := h
/-- An operation that reads, computes, calls what leaves old memory alone. -/
theorem WQ.want (hΛ : Λ.contains i = false) (hw : Region.wanted o (yielded l.toArray a.tmps) = true) (h : ∀ K : Act → Prop, (∀ a, WQ P l Λ S w1 vs Qf (i + 1) r a → K a) → o.quiet P a (fun w' => ∃ p : Regrown, w' = grow (redrawn w1 p.d) p.os) K) : WQ P l Λ S w1 vs Qf i (o :: r) a := by
  unfold WQ
  rw [if_neg (by rw [hΛ]; simp)]
  obtain ⟨v, h1, h2⟩ := h _ (fun _ h => h)
  exact ⟨v, Or.inl ⟨hw, fun W hW _ => h1 W hW⟩, h2⟩
theorem WQ.skip (hΛ : Λ.contains i = false) (hw : Region.wanted o (yielded l.toArray a.tmps) = false) (h : WQ P l Λ S w1 vs Qf (i + 1) r (a.put o.dst undef)) : WQ P l Λ S w1 vs Qf i (o :: r) a := by
  unfold WQ
  rw [if_neg (by rw [hΛ]; simp)]
  exact ⟨undef, Or.inr ⟨hw, rfl⟩, h⟩
/-- One that leans on what is known of new values. -/
theorem WQ.fact (hΛ : Λ.contains i = false) (hw : Region.wanted o (yielded l.toArray a.tmps) = true) (v : Value) (h : ∀ W, Below w1.heap.size w1 W → Facts l Λ S vs i W → o.quietAt P a (C1 w1) W v) (hr : WQ P l Λ S w1 vs Qf (i + 1) r (a.put o.dst v)) : WQ P l Λ S w1 vs Qf i (o :: r) a := by
  unfold WQ
  rw [if_neg (by rw [hΛ]; simp)]
  exact ⟨v, Or.inl ⟨hw, fun W hW hf => h W hW.below hf⟩, hr⟩
/-- One that yields something new. -/
theorem WQ.new (hΛ : Λ.contains i = true) (hw : Region.wanted o (yielded l.toArray a.tmps) = true) (h : ∀ W, Below w1.heap.size w1 W → Facts l Λ S vs i W → yldUpon P (fun u W' => Below W.heap.size W W' ∧ S i u W') ((execOp a.eval o).run P W))
    (hr : WQ P l Λ S w1 vs Qf (i + 1) r (a.put o.dst (vs i))) : WQ P l Λ S w1 vs Qf i (o :: r) a := by
  unfold WQ
  rw [if_pos hΛ]
  exact ⟨⟨hw, fun W hW hf => h W hW.below hf⟩, hr⟩
end

/-- A call met by its contract, in either kind of operation. -/
theorem calls_fact {P : Program} {f : FuncId} {args : Array Value} {w1 W : World} {v : Value} (hb : Below w1.heap.size w1 W) (h : Calls P f args W fun e w'' => e = .returned v ∧ Below W.heap.size W w'') : Calls P f args W fun e w'' => e = .returned v ∧ C1 w1 w'' :=
  h.mono fun _ _ ⟨he, hb2⟩ => ⟨he, C1.of (below_step hb hb2)⟩

section
variable {P : Program} {Q : Exit → Act → World → Prop} {a : Act} {w : World} {l : List Oper} {n : Nat} {Λ : List Nat} {S : Nat → Value → World → Prop}

structure RelOk (l : List Oper) (n : Nat) : Prop where
  sel : ∀ (j : Nat) (o : Oper) cs b, l.toArray[j]? = some o → o.op ≠ .select cs b
  le : n ≤ l.length
  back : backB l.toArray = true
  share : ∀ i k x y, i < n → k < i → l.toArray[i]? = some x → l.toArray[k]? = some y → (shareB l.toArray x y = true → Anc l.toArray i k) ∧ (∀ d, x.dst = some d → y.dst ≠ some d)
  tail : ∀ i k, n ≤ i → i < l.length → k < i → Anc l.toArray i k
  mask : ∀ j i, ((ancs l []).getD j 0).testBit i = true → Anc l.toArray j i

theorem relOk (h : relB l n = true) : RelOk l n := by
  unfold relB at h
  simp only [Bool.and_eq_true, decide_eq_true_eq, List.all_eq_true, List.mem_range] at h
  obtain ⟨⟨⟨⟨h1, h2⟩, h3⟩, h4⟩, h5⟩ := h
  have hanc := ancs_spec l.toArray l [] (by simp) (by simp)
  refine ⟨Region.noSelect_spec h1, h2, h3, ?_, ?_, hanc⟩
  · intro i k x y hi hk hx hy
    have h6 := h4 i hi k hk
    rw [hx, hy] at h6
    simp only [Bool.and_eq_true, Bool.or_eq_true, Bool.not_eq_true'] at h6
    obtain ⟨h7, h9⟩ := h6
    refine ⟨fun hs => hanc _ _ (h7.resolve_left (by rw [hs]; simp)), fun d hd hy2 => ?_⟩
    rw [hd, hy2] at h9; simp at h9
  · intro i k hi hl hk
    have h6 := h5 i hl
    simp only [Bool.or_eq_true, decide_eq_true_eq, List.all_eq_true, List.mem_range] at h6
    exact hanc _ _ ((h6.resolve_left (by omega)) k hk)

theorem dst_one2 (ok : RelOk l n) {j k t : Nat} (hj : j < n) (hk : k < n) (h1 : dstOf l.toArray j = some t) (h2 : dstOf l.toArray k = some t) : j = k := by
  obtain ⟨x, hx, hxd⟩ := dst_get h1
  obtain ⟨y, hy, hyd⟩ := dst_get h2
  rcases Nat.lt_trichotomy j k with h | h | h
  · exact ((ok.share k j y x hk h hy hx).2 t hyd hxd).elim
  · exact h
  · exact ((ok.share j k x y hj h hx hy).2 t hxd hyd).elim

/-- What the walk gives, operation by operation. -/
theorem wq_vals {w1 : World} {vs : Nat → Value} {Qf : Act → Prop} : ∀ (r : List Oper) (i0 : Nat) (a : Act), WQ P l Λ S w1 vs Qf i0 r a →
    ∃ vals : Nat → Value, (∀ i o, r[i]? = some o → (Λ.contains (i0 + i) = true → vals i = vs (i0 + i) ∧ Region.wanted o (yielded l.toArray (puts r.toArray vals (fun _ => true) a i).tmps) = true ∧ ∀ W, C1 w1 W → Facts l Λ S vs (i0 + i) W → yldUpon P (fun u W' => Below W.heap.size W W' ∧ S (i0 + i) u W') ((execOp (puts r.toArray vals (fun _ => true) a i).eval o).run P W)) ∧
        (Λ.contains (i0 + i) = false → (Region.wanted o (yielded l.toArray (puts r.toArray vals (fun _ => true) a i).tmps) = true ∧ ∀ W, C1 w1 W → Facts l Λ S vs (i0 + i) W → o.quietAt P (puts r.toArray vals (fun _ => true) a i) (C1 w1) W (vals i)) ∨ (Region.wanted o (yielded l.toArray (puts r.toArray vals (fun _ => true) a i).tmps) = false ∧ vals i = undef))) ∧
      Qf (puts r.toArray vals (fun _ => true) a r.length)
  | [], _, a, h => ⟨fun _ => undef, fun i o hi => by simp at hi, h⟩
  | o :: r, i0, a, h => by
    have hst : ∃ v, ((Λ.contains i0 = true → v = vs i0 ∧ Region.wanted o (yielded l.toArray a.tmps) = true ∧ ∀ W, C1 w1 W → Facts l Λ S vs i0 W → yldUpon P (fun u W' => Below W.heap.size W W' ∧ S i0 u W') ((execOp a.eval o).run P W)) ∧
        (Λ.contains i0 = false → (Region.wanted o (yielded l.toArray a.tmps) = true ∧ ∀ W, C1 w1 W → Facts l Λ S vs i0 W → o.quietAt P a (C1 w1) W v) ∨ (Region.wanted o (yielded l.toArray a.tmps) = false ∧ v = undef))) ∧ WQ P l Λ S w1 vs Qf (i0 + 1) r (a.put o.dst v) := by
      unfold WQ at h
      by_cases hc : Λ.contains i0 = true
      · rw [if_pos hc] at h
        exact ⟨vs i0, ⟨fun _ => ⟨rfl, h.1.1, h.1.2⟩, fun h2 => by rw [hc] at h2; cases h2⟩, h.2⟩
      · rw [if_neg hc] at h
        obtain ⟨v, h1, h2⟩ := h
        exact ⟨v, ⟨fun h3 => absurd h3 hc, fun _ => h1⟩, h2⟩
    obtain ⟨v, hy, hr⟩ := hst
    obtain ⟨vals, h1, h2⟩ := wq_vals r (i0 + 1) _ hr
    have key : ∀ n, puts (o :: r).toArray (fun i => match i with | 0 => v | i + 1 => vals i) (fun _ => true) a (n + 1) = puts r.toArray vals (fun _ => true) (a.put o.dst v) n := by
      intro n
      induction n with
      | zero => simp [puts, dstOf]
      | succ n ih =>
        rw [puts, if_pos rfl, ih]
        conv => rhs; rw [puts, if_pos rfl]
        simp [dstOf]
    refine ⟨fun i => match i with | 0 => v | i + 1 => vals i, fun i o' hi => ?_, ?_⟩
    · cases i with
      | zero => simp at hi; subst hi; exact hy
      | succ i =>
        have h3 := h1 i o' (by simpa using hi)
        rw [key, show i0 + (i + 1) = i0 + 1 + i by omega]
        exact h3
    · rw [List.length_cons, key]; exact h2

theorem wpOp_of_quietAt {ops : Array Oper} {i : Nat} {o : Oper} {A : Act} {W : World} {C : World → Prop} {v : Value} {K : Act → World → Prop} (ho : ops[i]? = some o) (hw : Region.wanted o (yielded ops A.tmps) = true) (hC : C W)
    (h : o.quietAt P A C W v) (hK : ∀ w', C w' → K (A.put o.dst v) w') : wpOp P ops Q i K A W := by
  unfold wpOp
  simp only [ho, hw, if_true]
  refine Or.inl ?_
  unfold Oper.quietAt at h
  unfold Oper.wp
  generalize (execOp A.eval o).run P W = r at *
  cases r with
  | ok nx w' =>
    cases nx <;> simp only [Oper.quietUpon] at h <;> simp only [Oper.upon]
    case value u =>
      obtain ⟨e1, e2⟩ := h
      rw [e1, e2]
      exact hK _ hC
    case skip =>
      obtain ⟨e1, e2⟩ := h
      rw [e1, ← e2]
      exact hK _ hC
    case enter f args =>
      obtain ⟨e1, hc⟩ := h
      rw [e1]
      exact hc.mono fun e w'' ⟨he, hw''⟩ => by subst he; exact hK _ hw''
  | halt x w' => simp only [Oper.quietUpon] at h
theorem wpOp_of_yld {ops : Array Oper} {i : Nat} {o : Oper} {A : Act} {W : World} {R : Value → World → Prop} {K : Act → World → Prop} (ho : ops[i]? = some o) (hw : Region.wanted o (yielded ops A.tmps) = true)
    (h : yldUpon P R ((execOp A.eval o).run P W)) (hK : ∀ u w', R u w' → K (A.put o.dst u) w') : wpOp P ops Q i K A W := by
  unfold wpOp
  simp only [ho, hw, if_true]
  refine Or.inl ?_
  unfold Oper.wp
  generalize (execOp A.eval o).run P W = r at *
  cases r with
  | ok nx w' =>
    cases nx <;> simp only [yldUpon] at h <;> simp only [Oper.upon]
    case value u => exact hK _ _ h
    case skip => exact hK _ _ h
    case enter f args =>
      exact h.mono fun e w'' ⟨u, he, hw''⟩ => by subst he; exact hK _ _ hw''
  | halt x w' => simp only [yldUpon] at h

theorem puts_congr_put {ops : Array Oper} {v v' : Nat → Value} {L : Nat → Bool} {m : Nat} (h : ∀ k, k < m → L k = true → ∀ B : Act, B.tmps.size = a.tmps.size → B.put (dstOf ops k) (v k) = B.put (dstOf ops k) (v' k)) : puts ops v L a m = puts ops v' L a m := by
  induction m with
  | zero => rfl
  | succ m ih =>
    unfold puts
    rw [ih (fun k hk => h k (by omega))]
    split
    · rename_i hL
      exact h m (by omega) hL _ (puts_size m)
    · rfl

def RelInv (P : Program) (l : List Oper) (n : Nat) (Λ : List Nat) (S : Nat → Value → World → Prop) (Q : Exit → Act → World → Prop) (a : Act) (w : World) (F : (Nat → Value) → Act) (L : Nat → Bool) (A : Act) (W : World) : Prop :=
  Clo l.toArray L ∧
  (((∃ i, i < n ∧ L i = false) ∧ (∀ t, n ≤ t → L t = false) ∧ Below w.heap.size w W ∧ ∃ vs, A = puts l.toArray (valsOf l (F vs)) L a n ∧ ∀ k, k ∈ Λ → L k = true → S k (vs k) W) ∨
   ((∀ i, i < n → L i = true) ∧ ∃ p, n ≤ p ∧ p ≤ l.length ∧ (∀ t, n ≤ t → t < l.length → L t = decide (t < p)) ∧ wpList P l.toArray Q (l.drop p) A W))

theorem relInv_start (ok : RelOk l n) {F : (Nat → Value) → Act} (hlt : ∀ k, k ∈ Λ → k < n) (hFe : ∀ vs, puts l.toArray (valsOf l (F vs)) (fun _ => true) a n = F vs)
    (hT : ∀ vs w', Below w.heap.size w w' → (∀ k, k ∈ Λ → S k (vs k) w') → wpList P l.toArray Q (l.drop n) (F vs) w')
    {L : Nat → Bool} {A : Act} {W : World} (hc : Clo l.toArray L) (ht : ∀ t, n ≤ t → L t = false) (hb : Below w.heap.size w W) {vs : Nat → Value} (hA : A = puts l.toArray (valsOf l (F vs)) L a n) (hS : ∀ k, k ∈ Λ → L k = true → S k (vs k) W) :
    RelInv P l n Λ S Q a w F L A W := by
  refine ⟨hc, ?_⟩
  by_cases h : ∃ i, i < n ∧ L i = false
  · exact Or.inl ⟨h, ht, hb, vs, hA, hS⟩
  · have hall : ∀ i, i < n → L i = true := by
      intro i hi
      cases hL : L i with
      | true => rfl
      | false => exact (h ⟨i, hi, hL⟩).elim
    refine Or.inr ⟨hall, n, Nat.le_refl _, ok.le, fun t h1 _ => by rw [ht t h1]; simp; omega, ?_⟩
    rw [hA, puts_congr (L' := fun _ => true) (v' := valsOf l (F vs)) (fun k hk => hall k hk) (fun _ _ _ => rfl), hFe]
    exact hT vs W hb (fun k hk => hS k hk (hall k (hlt k hk)))

/-- **One walk of the text's order serves every order**, where operations yield what only a property tells. -/
theorem wp_region_rel {id : Nat} (n : Nat) (Λ : List Nat) (S : Nat → Value → World → Prop) (hm : P.follows .mixedOrders = true) (hB : relB l n = true) (hΛ : (Λ.all fun k => decide (k < n)) = true)
    (hSm : ∀ k v W W', S k v W → Below W.heap.size W W' → S k v W') (F : (Nat → Value) → Act)
    (hF : ∀ w1, Below w.heap.size w w1 → ∀ vs, WQ P l Λ S w1 vs (fun a' => a' = F vs) 0 (l.take n) a)
    (hind : ∀ vs vs', puts l.toArray (fun _ => undef) (fun k => Λ.contains k) (F vs) n = puts l.toArray (fun _ => undef) (fun k => Λ.contains k) (F vs') n)
    (hT : ∀ vs w', Below w.heap.size w w' → (∀ k, k ∈ Λ → S k (vs k) w') → wpList P l.toArray Q (l.drop n) (F vs) w') :
    (Code.region id l.toArray true).wp P Q a w := by
  have ok := relOk hB
  have hle := ok.le
  have hlt : ∀ k, k ∈ Λ → k < n := fun k hk => by simpa using List.all_eq_true.1 hΛ k hk
  have hlen : (l.take n).length = n := by simp; omega
  have hph : ∀ (v : Nat → Value) (M : Nat → Bool) k, k ≤ n → puts (l.take n).toArray v M a k = puts l.toArray v M a k := by
    intro v M k
    induction k with
    | zero => intro _; rfl
    | succ k ih =>
      intro hk
      have e : dstOf (l.take n).toArray k = dstOf l.toArray k := by
        unfold dstOf
        rw [List.getElem?_toArray, List.getElem?_toArray, List.getElem?_take, if_pos (by omega)]
      unfold puts
      rw [ih (by omega), e]
  -- the values are those of the last frame
  have hpv : ∀ {v : Nat → Value} {G : Act}, puts l.toArray v (fun _ => true) a n = G → ∀ k, k ≤ n → puts l.toArray v (fun _ => true) a k = puts l.toArray (valsOf l G) (fun _ => true) a k := by
    intro v G hG k
    induction k with
    | zero => intro _; rfl
    | succ k ih =>
      intro hk
      have ih' := ih (by omega)
      have e1 : puts l.toArray v (fun _ => true) a (k + 1) = (puts l.toArray v (fun _ => true) a k).put (dstOf l.toArray k) (v k) := by rw [puts, if_pos rfl]
      have e2 : puts l.toArray (valsOf l G) (fun _ => true) a (k + 1) = (puts l.toArray (valsOf l G) (fun _ => true) a k).put (dstOf l.toArray k) (valsOf l G k) := by rw [puts, if_pos rfl]
      rw [e1, e2, ← ih']
      cases hd : dstOf l.toArray k with
      | none => rfl
      | some d =>
        have hv : valsOf l G k = G.tmps.getD d undef := by unfold valsOf; rw [hd]
        rw [hv]
        refine put_eq_of (by rw [← hG, puts_size, puts_size]) ?_
        rw [← hG, puts_beyond (i := k + 1) hk, e1, hd]
        intro j hj1 hj2 _ hj3
        have := dst_one2 ok hj2 (show k < n by omega) hj3 hd; omega
  have hvals : ∀ w1, Below w.heap.size w w1 → ∀ vs, ∃ vals : Nat → Value, puts l.toArray vals (fun _ => true) a n = F vs ∧ ∀ i o, i < n → l.toArray[i]? = some o →
      (Λ.contains i = true → vals i = vs i ∧ Region.wanted o (yielded l.toArray (puts l.toArray (valsOf l (F vs)) (fun _ => true) a i).tmps) = true ∧ ∀ W, C1 w1 W → Facts l Λ S vs i W → yldUpon P (fun u W' => Below W.heap.size W W' ∧ S i u W') ((execOp (puts l.toArray (valsOf l (F vs)) (fun _ => true) a i).eval o).run P W)) ∧
      (Λ.contains i = false → (Region.wanted o (yielded l.toArray (puts l.toArray (valsOf l (F vs)) (fun _ => true) a i).tmps) = true ∧ ∀ W, C1 w1 W → Facts l Λ S vs i W → o.quietAt P (puts l.toArray (valsOf l (F vs)) (fun _ => true) a i) (C1 w1) W (vals i)) ∨ (Region.wanted o (yielded l.toArray (puts l.toArray (valsOf l (F vs)) (fun _ => true) a i).tmps) = false ∧ vals i = undef)) := by
    intro w1 hw1 vs
    obtain ⟨vals, h1, h2⟩ := wq_vals _ _ _ (hF w1 hw1 vs)
    rw [hlen, hph _ _ n (Nat.le_refl _)] at h2
    have hp := hpv h2
    refine ⟨vals, h2, fun i o hi ho => ?_⟩
    have h3 := h1 i o (by rw [List.getElem?_take, if_pos hi]; simpa using ho)
    rw [hph _ _ i (Nat.le_of_lt hi), hp i (Nat.le_of_lt hi), Nat.zero_add] at h3
    exact h3
  have hFe : ∀ vs, puts l.toArray (valsOf l (F vs)) (fun _ => true) a n = F vs := by
    intro vs
    obtain ⟨vals, h1, _⟩ := hvals w (Below.refl _ _) vs
    rw [← hpv h1 n (Nat.le_refl _)]; exact h1
  have hsF : ∀ vs, (F vs).tmps.size = a.tmps.size := fun vs => by rw [← hFe vs, puts_size]
  -- a value put: what the walk found, or what the last frame holds
  have hput : ∀ vs (vals : Nat → Value) k, k < n → puts l.toArray vals (fun _ => true) a n = F vs → ∀ B : Act, B.tmps.size = a.tmps.size → B.put (dstOf l.toArray k) (valsOf l (F vs) k) = B.put (dstOf l.toArray k) (vals k) := by
    intro vs vals k hk hv B hBs
    cases hd : dstOf l.toArray k with
    | none => rfl
    | some d =>
      have hvo : valsOf l (F vs) k = (F vs).tmps.getD d undef := by unfold valsOf; rw [hd]
      rw [hvo]
      symm
      refine put_eq_of (by rw [hBs, hsF]) ?_
      rw [← hv, puts_hit (fun j h1 h2 h3 => by have := dst_one2 ok h2 hk h3 hd; omega) hk rfl hd]
      exact put_get_eq hBs.symm _ _
  have hVE : ∀ vs k, k ∈ Λ → ∀ B : Act, B.tmps.size = a.tmps.size → B.put (dstOf l.toArray k) (valsOf l (F vs) k) = B.put (dstOf l.toArray k) (vs k) := by
    intro vs k hk B hBs
    obtain ⟨vals, h1, h2⟩ := hvals w (Below.refl _ _) vs
    have hkn := hlt k hk
    rw [hput vs vals k hkn h1 B hBs]
    obtain ⟨o, ho⟩ : ∃ o, l.toArray[k]? = some o := ⟨l[k]'(by omega), by simp [show k < l.length by omega]⟩
    rw [((h2 k o hkn ho).1 (by simpa using hk)).1]
  have hVI : ∀ vs vs' k, k < n → Λ.contains k = false → valsOf l (F vs) k = valsOf l (F vs') k := by
    intro vs vs' k hk hkΛ
    unfold valsOf
    cases hd : dstOf l.toArray k with
    | none => rfl
    | some d =>
      have h1 := congrArg (fun X : Act => X.tmps[d]?) (hind vs vs')
      have h2 : ∀ u, (puts l.toArray (fun _ => undef) (fun k => Λ.contains k) (F u) n).tmps[d]? = (F u).tmps[d]? := by
        intro u
        refine puts_miss (fun j hj hLj hdj => ?_)
        have := dst_one2 ok hj hk hdj hd
        subst this
        rw [hkΛ] at hLj; cases hLj
      simp only [h2] at h1
      simp only [Array.getD_eq_getD_getElem?, h1]
  refine wp_region_any hm (wpAny_inv3 ok.back (RelInv P l n Λ S Q a w F) ?_ ?_ _ _ _ _ (by simp) ?_ ?_)
  · intro i o ho L A W hL hI hd
    obtain ⟨hc, hI⟩ := hI
    have his : i < l.length := by simpa using (Array.getElem?_eq_some_iff.1 ho).1
    rcases hI with ⟨hex, ht, hb, vs, hA, hS⟩ | ⟨hall, p, hp1, hp2, hp3, hw⟩
    · by_cases hin : i < n
      · have hdi : dstOf l.toArray i = o.dst := by simp [dstOf, ho]
        have hfree : ∀ k, i < k → k < n → L k = true → ∀ d, dstOf l.toArray k = some d → dstOf l.toArray i ≠ some d := by
          intro k hk1 hk2 _ d hkd hid
          have := dst_one2 ok hk2 hin hkd hid; omega
        have ht' : ∀ t, n ≤ t → (fun j => j == i || L j) t = false := by
          intro t h1
          have : (t == i) = false := by simpa using (show t ≠ i by omega)
          simp [this, ht t h1]
        have hag : ∀ t, t ∈ o.looksAt l.toArray → A.tmps[t]? = (puts l.toArray (valsOf l (F vs)) (fun _ => true) a i).tmps[t]? := by
          intro t htl
          rw [hA, puts_beyond (i := i) (Nat.le_of_lt hin)]
          · refine puts_same (fun k hk hkd => ?_)
            obtain ⟨y, hyy, hyd⟩ := dst_get hkd
            have hs := ok.share i k o y hin hk ho hyy
            have hsh : shareB l.toArray o y = true := by rw [shareB_comm]; exact share_dst hyd (Or.inr htl)
            exact ⟨anc_done hc (hs.1 hsh) (fun o' ho' => by rw [ho] at ho'; obtain rfl := Option.some.inj ho'; exact hd), rfl, rfl⟩
          · intro k hk1 hk2 hk3 hkd
            by_cases e : k = i
            · subst e; rw [hL] at hk3; cases hk3
            · obtain ⟨y, hyy, hyd⟩ := dst_get hkd
              have hs := ok.share k i y o hk2 (by omega) hyy ho
              have := anc_done hc (hs.1 (share_dst hyd (Or.inr htl))) (fun o' ho' => hc k o' ho' hk3)
              rw [hL] at this; cases this
        have hex2 : execOp A.eval o = execOp (puts l.toArray (valsOf l (F vs)) (fun _ => true) a i).eval o := execOp_congr o (fun cs b => ok.sel i o cs b ho) (evalAgree hag)
        have hwa := wantAgree hag
        have hAs : A.tmps.size = a.tmps.size := by rw [hA, puts_size]
        have hfacts : Facts l Λ S vs i W := fun k hk hbit =>
          hS k hk (anc_done hc (ok.mask i k hbit) (fun o' ho' => by rw [ho] at ho'; obtain rfl := Option.some.inj ho'; exact hd))
        obtain ⟨vals, hv1, hv2⟩ := hvals W hb vs
        obtain ⟨hnew, hold⟩ := hv2 i o hin ho
        by_cases hiΛ : Λ.contains i = true
        · obtain ⟨_, hw, hy⟩ := hnew hiΛ
          have hy2 := hy W (C1.self W) hfacts
          rw [← hex2] at hy2
          refine wpOp_of_yld ho (by rw [hwa]; exact hw) hy2 (fun u w' hR => ?_)
          obtain ⟨hbw, hSi⟩ := hR
          refine relInv_start ok hlt hFe hT (clo_add hc ho hd) ht' (hb.trans (hbw.mono hb.size)) (vs := fun k => if k = i then u else vs k) ?_ ?_
          · rw [puts_add hin hL hfree, hA, hdi]
            have hiL : i ∈ Λ := by simpa using hiΛ
            have e1 := hVE (fun k => if k = i then u else vs k) i hiL
            rw [hdi] at e1
            rw [e1 _ (puts_size n)]
            simp only [↓reduceIte]
            congr 1
            refine puts_congr_put (fun k hk hLk B hBs => ?_)
            have hki : k ≠ i := fun e => by rw [e, hL] at hLk; cases hLk
            by_cases hkΛ : Λ.contains k = true
            · have hkm : k ∈ Λ := by simpa using hkΛ
              rw [hVE _ k hkm B hBs, hVE _ k hkm B hBs, if_neg hki]
            · rw [hVI vs (fun k => if k = i then u else vs k) k hk (by simpa using hkΛ)]
          · intro k hk hLk
            by_cases hki : k = i
            · subst hki; simp only [↓reduceIte]; exact hSi
            · have : (k == i) = false := by simpa using hki
              simp only [this, Bool.false_or] at hLk
              simp only [if_neg hki]
              exact hSm _ _ _ _ (hS k hk hLk) hbw
        · have hiΛ' : Λ.contains i = false := by simpa using hiΛ
          have hfin : ∀ w', Below W.heap.size W w' → RelInv P l n Λ S Q a w F (fun j => j == i || L j) (A.put o.dst (vals i)) w' := by
            intro w' hbw
            refine relInv_start ok hlt hFe hT (clo_add hc ho hd) ht' (hb.trans (hbw.mono hb.size)) (vs := vs) ?_ ?_
            · rw [puts_add hin hL hfree, hA, hput vs vals i hin hv1 _ (puts_size n), hdi]
            · intro k hk hLk
              have hki : (k == i) = false := by
                have : k ≠ i := fun e => by subst e; exact hiΛ (by simpa using hk)
                simpa using this
              simp only [hki, Bool.false_or] at hLk
              exact hSm _ _ _ _ (hS k hk hLk) hbw
          rcases hold hiΛ' with ⟨hw, hy⟩ | ⟨hw, hv⟩
          · have hy2 := hy W (C1.self W) hfacts
            unfold Oper.quietAt at hy2
            rw [← hex2] at hy2
            exact wpOp_of_quietAt ho (by rw [hwa]; exact hw) (C1.self W) hy2 (fun w' hw' => hfin w' hw'.below)
          · unfold wpOp
            simp only [ho]
            rw [if_neg (by rw [hwa, hw]; simp), ← hv]
            exact hfin W (Below.refl _ _)
      · exfalso
        obtain ⟨j, hj, hLj⟩ := hex
        have := anc_done hc (ok.tail i j (by omega) his (by omega)) (fun o' ho' => by rw [ho] at ho'; obtain rfl := Option.some.inj ho'; exact hd)
        rw [hLj] at this; cases this
    · have hin : n ≤ i := by
        rcases Nat.lt_or_ge i n with h | h
        · rw [hall i h] at hL; cases hL
        · exact h
      have hip : i = p := by
        have h1 : ¬ i < p := by
          intro h; rw [hp3 i hin his] at hL; simp [h] at hL
        rcases Nat.lt_or_ge p i with h | h
        · exfalso
          have := anc_done hc (ok.tail i p (by omega) his h) (fun o' ho' => by rw [ho] at ho'; obtain rfl := Option.some.inj ho'; exact hd)
          rw [hp3 p hp1 (by omega)] at this; simp at this
        · omega
      subst hip
      have hdrop : l.drop i = o :: l.drop (i + 1) := by
        rw [List.drop_eq_getElem_cons his]
        have : l[i] = o := by simpa [his] using ho
        rw [this]
      rw [hdrop] at hw
      have hw2 : wpOp P l.toArray Q i (wpList P l.toArray Q (l.drop (i + 1))) A W := by
        unfold wpOp; simp only [ho]; exact hw
      refine wpOp_mono (fun a' w' h => ?_) hw2
      refine ⟨clo_add hc ho hd, Or.inr ⟨fun j hj => by simp [hall j hj], i + 1, by omega, by omega, fun t h1 h2 => ?_, h⟩⟩
      have := hp3 t h1 h2
      by_cases e : t = i
      · subst e; simp
      · have e2 : (t == i) = false := by simpa using e
        simp only [e2, Bool.false_or, this]
        simp only [decide_eq_decide]; omega
  · intro L A W hL hI
    obtain ⟨_, hI⟩ := hI
    rcases hI with ⟨⟨i, hi, hLi⟩, _⟩ | ⟨_, p, hp1, hp2, hp3, hw⟩
    · rw [hL i (by simp; omega)] at hLi; cases hLi
    · have hpl : p = l.length := by
        rcases Nat.lt_or_ge p l.length with h | h
        · have h1 := hL p (by simpa using h)
          rw [hp3 p hp1 h] at h1; simp at h1
        · omega
      subst hpl
      simpa [wpList] using hw
  · have : ∀ m, m ≤ l.toArray.size → unl m (Array.replicate l.toArray.size false) = m := by
      intro m
      induction m with
      | zero => intro _; rfl
      | succ m ih =>
        intro hm
        have hm' : m < l.length := by simp at hm; omega
        rw [unl_succ, ih (by omega), if_pos (by simp [hm'])]
    exact this _ (Nat.le_refl _)
  · have e : (fun j => (Array.replicate l.toArray.size false).getD j false) = fun _ => false := by
      funext j
      by_cases h : j < l.length
      · simp [h]
      · simp [h]
    rw [e]
    refine relInv_start ok hlt hFe hT (fun j o _ h => by cases h) (fun _ _ => rfl) ⟨rfl, rfl, rfl, Nat.le_refl _, fun _ _ => rfl⟩ (vs := fun _ => undef) ?_ (fun k _ h => (by cases h))
    have : ∀ k, puts l.toArray (valsOf l (F fun _ => undef)) (fun _ => false) a k = a := by
      intro k
      induction k with
      | zero => rfl
      | succ k ih => unfold puts; simp [ih]
    exact (this n).symm
end
end Go.Proofs.Ytbldgpemocnboaa

namespace Go.Proofs.Ytbldgpemocnboaa
open Go.RowKit

/-- m: made; s: stored into. -/
def OSl (T : TypeId) (w : World) (m s : Bool) (x : Value) (B : Nat) (F : Array Value) : Prop :=
  (s = true → m = true) ∧ (m = true → ∃ b cs, x = .pointer (some ⟨b, 0, none⟩) ∧ B ≤ b ∧ Ob w b T cs ∧ cs.size = F.size ∧ (s = true → cs = F))
section
variable {T : TypeId} {w : World} {m s : Bool} {x : Value} {B : Nat} {F : Array Value}
theorem OSl.none (T : TypeId) (w : World) (x : Value) (B : Nat) (F : Array Value) : OSl T w false false x B F := ⟨fun h => h, fun h => by cases h⟩
theorem OSl.later {w' : World} (h : OSl T w m s x B F) (hb : Below w.heap.size w w') : OSl T w' m s x B F :=
  ⟨h.1, fun hm => let ⟨b, cs, e, l, H, z, f⟩ := h.2 hm; ⟨b, cs, e, l, H.later hb, z, f⟩⟩
theorem OSl.alloc (h : OSl T w m s x B F) (o : Obj) : OSl T (w.alloc o) m s x B F :=
  ⟨h.1, fun hm => let ⟨b, cs, e, l, H, z, f⟩ := h.2 hm; ⟨b, cs, e, l, H.alloc o, z, f⟩⟩
theorem OSl.setRow (h : OSl T w m s x B F) {c : Nat} (hc : m = true → x ≠ .pointer (some ⟨c, 0, Option.none⟩)) (ds : Array Value) : OSl T (w.setRow c ds) m s x B F :=
  ⟨h.1, fun hm => let ⟨b, cs, e, l, H, z, f⟩ := h.2 hm; ⟨b, cs, e, l, H.setRow (fun q => hc hm (by rw [e, q])) ds, z, f⟩⟩
theorem OSl.new (h : OSl T w false s x B F) (hz : B ≤ w.heap.size) (cs : Array Value) (hs : cs.size = F.size) : OSl T (w.alloc (.cells cs T)) true s (.pointer (some ⟨w.heap.size, 0, Option.none⟩)) B F :=
  ⟨fun _ => rfl, fun _ => ⟨_, cs, rfl, hz, Ob.new_at _ _ rfl, hs, fun hs => by have := h.1 hs; cases this⟩⟩
/-- A new block is no other slot's. -/
theorem OSl.fresh (h : OSl T w m s x B F) (hm : m = true) : x ≠ .pointer (some ⟨w.heap.size, 0, Option.none⟩) := by
  obtain ⟨b, cs, e, _, H, _⟩ := h.2 hm
  rw [e]
  intro q
  have hb := H.lt
  injection q with q
  injection q with q
  injection q with q
  omega
end
end Go.Proofs.Ytbldgpemocnboaa

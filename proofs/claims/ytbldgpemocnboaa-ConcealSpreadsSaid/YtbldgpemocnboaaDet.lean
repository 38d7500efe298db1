/- A region that draws its order: its operations read, compute, or call what leaves old memory as it was (a class of worlds C); blocks are made; at the end stores, one behind the other. One walk in the order of the text serves every order. Conditions: the checks are closed facts. -/
import Derived.Test.YtbldgpemocnboaaReg
import Derived.Deep.Quiet
import Derived.BigQuiet
import Derived.Lib.QuietBelow
namespace Go.Proofs.Ytbldgpemocnboaa
open Go.RowKit Go.Sort

/-! ### Which operation waits for which -/
def ancMask (acc : List Nat) (es : List Edge) : Nat := es.foldl (fun s e => if Region.binds .any e then s ||| 2 ^ e.on ||| acc.getD e.on 0 else s) 0
def ancs : List Oper → List Nat → List Nat
  | [], acc => acc
  | o :: r, acc => ancs r (acc ++ [ancMask acc o.after.toList])
inductive Anc (ops : Array Oper) : Nat → Nat → Prop
  | one {j : Nat} {o : Oper} {e : Edge} : ops[j]? = some o → e ∈ o.after → Region.binds .any e = true → Anc ops j e.on
  | tr {j i : Nat} {o : Oper} {e : Edge} : ops[j]? = some o → e ∈ o.after → Region.binds .any e = true → Anc ops e.on i → Anc ops j i

theorem ancMask_bit (acc : List Nat) (i : Nat) : ∀ (es : List Edge) (s : Nat), (es.foldl (fun s e => if Region.binds .any e then s ||| 2 ^ e.on ||| acc.getD e.on 0 else s) s).testBit i = true →
    s.testBit i = true ∨ ∃ e ∈ es, Region.binds .any e = true ∧ (e.on = i ∨ (acc.getD e.on 0).testBit i = true)
  | [], s, h => Or.inl h
  | e :: es, s, h => by
    rw [List.foldl_cons] at h
    rcases ancMask_bit acc i es _ h with h | ⟨e', he', h'⟩
    · by_cases hb : Region.binds .any e = true
      · rw [if_pos hb, Nat.testBit_or, Nat.testBit_or] at h
        simp only [Bool.or_eq_true] at h
        rcases h with (h | h) | h
        · exact Or.inl h
        · refine Or.inr ⟨e, List.mem_cons_self, hb, Or.inl ?_⟩
          rw [Nat.testBit_two_pow] at h; simpa using h
        · exact Or.inr ⟨e, List.mem_cons_self, hb, Or.inr h⟩
      · rw [if_neg hb] at h; exact Or.inl h
    · exact Or.inr ⟨e', List.mem_cons_of_mem _ he', h'⟩

theorem ancs_spec (ops : Array Oper) : ∀ (r : List Oper) (acc : List Nat), (∀ j, r[j]? = ops[acc.length + j]?) → (∀ j i, (acc.getD j 0).testBit i = true → Anc ops j i) →
    ∀ j i, ((ancs r acc).getD j 0).testBit i = true → Anc ops j i
  | [], acc, _, h => h
  | o :: r, acc, hl, h => by
    refine ancs_spec ops r _ (fun j => ?_) ?_
    · have := hl (j + 1)
      simp only [List.getElem?_cons_succ] at this
      rw [this, List.length_append, List.length_singleton, Nat.add_assoc, Nat.add_comm 1 j]
    · intro j i hb
      have h0 : ops[acc.length]? = some o := by simpa using (hl 0).symm
      by_cases hj : j < acc.length
      · rw [List.getD_eq_getElem?_getD, List.getElem?_append_left hj, ← List.getD_eq_getElem?_getD] at hb
        exact h j i hb
      · by_cases hj2 : j = acc.length
        · subst hj2
          rw [List.getD_eq_getElem?_getD, List.getElem?_append_right (Nat.le_refl _)] at hb
          simp only [Nat.sub_self, List.getElem?_cons_zero, Option.getD_some] at hb
          rcases ancMask_bit acc i _ _ hb with h1 | ⟨e, he, hbd, h1⟩
          · simp at h1
          · rcases h1 with rfl | h1
            · exact .one h0 (by simpa using he) hbd
            · exact .tr h0 (by simpa using he) hbd (h _ _ h1)
        · rw [List.getD_eq_getElem?_getD, List.getElem?_append_right (by omega), List.getElem?_eq_none (by simp; omega)] at hb
          simp at hb

def Clo (ops : Array Oper) (L : Nat → Bool) : Prop := ∀ j o, ops[j]? = some o → L j = true → ∀ e ∈ o.after, Region.binds .any e = true → L e.on = true
theorem anc_done {ops : Array Oper} {L : Nat → Bool} (hc : Clo ops L) {j i : Nat} (h : Anc ops j i) : (∀ o, ops[j]? = some o → ∀ e ∈ o.after, Region.binds .any e = true → L e.on = true) → L i = true := by
  induction h with
  | one ho he hb => intro hd; exact hd _ ho _ he hb
  | tr ho he hb _ ih => intro hd; exact ih (fun o' ho' => hc _ o' ho' (hd _ ho _ he hb))

/-! ### The frame, filled in the order of the text by what is done -/
def dstOf (ops : Array Oper) (k : Nat) : Option Tmp := (ops[k]?).bind (·.dst)
def puts (ops : Array Oper) (v : Nat → Value) (L : Nat → Bool) (a : Act) : Nat → Act
  | 0 => a
  | k + 1 => if L k then (puts ops v L a k).put (dstOf ops k) (v k) else puts ops v L a k

section
variable {ops : Array Oper} {v v' : Nat → Value} {L L' : Nat → Bool} {a : Act}
theorem put_size (a : Act) (d : Option Tmp) (x : Value) : (a.put d x).tmps.size = a.tmps.size := by cases d <;> simp [Act.put]
theorem put_get_ne (a : Act) {d : Option Tmp} {t : Nat} (h : d ≠ some t) (x : Value) : (a.put d x).tmps[t]? = a.tmps[t]? := by
  cases d with
  | none => rfl
  | some d => simp only [Act.put]; rw [Array.getElem?_setIfInBounds_ne (fun e => h (by rw [e]))]
theorem put_get_eq {a b : Act} (hs : a.tmps.size = b.tmps.size) (t : Nat) (x : Value) : (a.put (some t) x).tmps[t]? = (b.put (some t) x).tmps[t]? := by
  simp only [Act.put, Array.getElem?_setIfInBounds]
  simp [hs]
theorem puts_size (n : Nat) : (puts ops v L a n).tmps.size = a.tmps.size := by
  induction n with
  | zero => rfl
  | succ n ih => unfold puts; split
                 · rw [put_size, ih]
                 · exact ih
theorem puts_congr {n : Nat} (hL : ∀ k, k < n → L k = L' k) (hv : ∀ k, k < n → L k = true → v k = v' k) : puts ops v L a n = puts ops v' L' a n := by
  induction n with
  | zero => rfl
  | succ n ih =>
    unfold puts
    rw [ih (fun k hk => hL k (by omega)) (fun k hk => hv k (by omega)), ← hL n (by omega)]
    split
    · rename_i h; rw [hv n (by omega) h]
    · rfl
theorem puts_add {i n : Nat} (hi : i < n) (hLi : L i = false) (hfree : ∀ k, i < k → k < n → L k = true → ∀ d, dstOf ops k = some d → dstOf ops i ≠ some d) :
    puts ops v (fun j => j == i || L j) a n = (puts ops v L a n).put (dstOf ops i) (v i) := by
  induction n with
  | zero => omega
  | succ n ih =>
    by_cases hin : i = n
    · subst hin
      unfold puts
      rw [if_pos (by simp), if_neg (by simp [hLi])]
      congr 1
      exact puts_congr (fun k hk => by have : (k == i) = false := by simpa using (show k ≠ i by omega)
                                       simp [this]) (fun _ _ _ => rfl)
    · have ih' := ih (by omega) (fun k h1 h2 => hfree k h1 (by omega))
      unfold puts
      have hne : (n == i) = false := by simpa using (show n ≠ i by omega)
      simp only [hne, Bool.false_or]
      rw [ih']
      split
      · rename_i hn
        exact Act.put_comm _ _ _ (fun d hd => fun h2 => hfree n (by omega) (by omega) hn d h2 hd)
      · rfl
theorem puts_beyond {t i n : Nat} (hin : i ≤ n) (h : ∀ k, i ≤ k → k < n → L k = true → dstOf ops k ≠ some t) : (puts ops v L a n).tmps[t]? = (puts ops v L a i).tmps[t]? := by
  induction n with
  | zero => obtain rfl : i = 0 := by omega
            rfl
  | succ n ih =>
    by_cases e : i = n + 1
    · subst e; rfl
    · rw [← ih (by omega) (fun k h1 h2 => h k h1 (by omega))]
      conv => lhs; unfold puts
      split
      · rename_i hn; exact put_get_ne _ (h n (by omega) (by omega) hn) _
      · rfl
theorem puts_same {t n : Nat} (h : ∀ k, k < n → dstOf ops k = some t → L k = true ∧ L' k = true ∧ v k = v' k) : (puts ops v L a n).tmps[t]? = (puts ops v' L' a n).tmps[t]? := by
  induction n with
  | zero => rfl
  | succ n ih =>
    have ih' := ih (fun k hk => h k (by omega))
    by_cases e : dstOf ops n = some t
    · obtain ⟨h1, h2, h3⟩ := h n (by omega) e
      unfold puts
      rw [if_pos h1, if_pos h2, e, h3]
      exact put_get_eq (by rw [puts_size, puts_size]) _ _
    · have hl : (puts ops v L a (n + 1)).tmps[t]? = (puts ops v L a n).tmps[t]? := by
        conv => lhs; unfold puts
        split
        · exact put_get_ne _ e _
        · rfl
      have hr : (puts ops v' L' a (n + 1)).tmps[t]? = (puts ops v' L' a n).tmps[t]? := by
        conv => lhs; unfold puts
        split
        · exact put_get_ne _ e _
        · rfl
      rw [hl, hr, ih']
end

/-! ### The checks -/
def namesOf (ops : Array Oper) (o : Oper) : List Tmp := o.dst.toList ++ o.looksAt ops
def shareB (ops : Array Oper) (x y : Oper) : Bool :=
  (match x.dst with | some d => (namesOf ops y).contains d | none => false) || (match y.dst with | some d => (namesOf ops x).contains d | none => false)
def isAlloc (o : Oper) : Bool := match o.op, o.guard with | .alloc _, none => true | _, _ => false
/-- The operations below n: those that share a slot wait for each other; blocks that are made are named by none of the others. Those from n on wait for all ahead of them. -/
def detB (l : List Oper) (n : Nat) : Bool :=
  let ops := l.toArray
  let m := ancs l []
  Region.noSelect ops && decide (n ≤ l.length) && backB ops &&
  ((List.range n).all fun i => (List.range i).all fun k => match ops[i]?, ops[k]? with
    | some x, some y => (!shareB ops x y || (m.getD i 0).testBit k) && (!(isAlloc x || isAlloc y) || !shareB ops x y) && (!x.dst.isSome || x.dst != y.dst)
    | _, _ => false) &&
  ((List.range l.length).all fun i => decide (i < n) || ((List.range i).all fun k => (m.getD i 0).testBit k))

/-- An operation that makes a block, struck. -/
def mute (o : Oper) : Oper := if isAlloc o then { o with op := .move (.const undef) } else o

theorem shareB_comm (ops : Array Oper) (x y : Oper) : shareB ops x y = shareB ops y x := by unfold shareB; rw [Bool.or_comm]
theorem not_share {ops : Array Oper} {x y : Oper} (h : shareB ops x y = false) : (∀ d, x.dst = some d → y.dst ≠ some d) ∧ (∀ d, x.dst = some d → d ∉ y.looksAt ops) ∧ (∀ d, y.dst = some d → d ∉ x.looksAt ops) := by
  unfold shareB namesOf at h
  simp only [Bool.or_eq_false_iff] at h
  refine ⟨fun d hd hy => ?_, fun d hd hm => ?_, fun d hd hm => ?_⟩
  · simp [hd, hy] at h
  · simp [hd, hm] at h
  · simp [hd, hm] at h
theorem share_dst {ops : Array Oper} {x y : Oper} {d : Tmp} (h1 : x.dst = some d) (h2 : y.dst = some d ∨ d ∈ y.looksAt ops) : shareB ops x y = true := by
  cases h : shareB ops x y with
  | true => rfl
  | false =>
    obtain ⟨a, b, _⟩ := not_share h
    rcases h2 with h2 | h2
    · exact (a d h1 h2).elim
    · exact (b d h1 h2).elim

/-! ### What the walk of the text gives -/
section
variable {P : Program} {C : World → Prop}

theorem quiet_vals {ops : Array Oper} {Qf : Act → Prop} : ∀ (r : List Oper) (a : Act), wpQuiet P ops C Qf r a →
    ∃ vals : Nat → Value, (∀ i o, r[i]? = some o → YieldsIn P ops C o (vals i) (puts r.toArray vals (fun _ => true) a i)) ∧ Qf (puts r.toArray vals (fun _ => true) a r.length)
  | [], a, h => ⟨fun _ => undef, fun i o hi => by simp at hi, h⟩
  | o :: r, a, h => by
    have hst : ∃ v, YieldsIn P ops C o v a ∧ wpQuiet P ops C Qf r (a.put o.dst v) := by
      unfold wpQuiet at h
      by_cases hw : Region.wanted o (yielded ops a.tmps) = true
      · rw [if_pos hw] at h
        obtain ⟨v, h1, h2⟩ := h
        exact ⟨v, .inl ⟨hw, h1⟩, h2⟩
      · rw [if_neg hw] at h
        exact ⟨undef, .inr ⟨by simpa using hw, rfl⟩, h⟩
    obtain ⟨v, hy, hr⟩ := hst
    obtain ⟨vals, h1, h2⟩ := quiet_vals r _ hr
    have key : ∀ n, puts (o :: r).toArray (fun i => match i with | 0 => v | i + 1 => vals i) (fun _ => true) a (n + 1) = puts r.toArray vals (fun _ => true) (a.put o.dst v) n := by
      intro n
      induction n with
      | zero => simp [puts, dstOf]
      | succ n ih =>
        rw [puts, if_pos rfl, ih]
        conv => rhs; rw [puts, if_pos rfl]
        simp [dstOf]
    refine ⟨fun i => match i with | 0 => v | i + 1 => vals i, fun i o' hi => ?_, ?_⟩
    · cases i with
      | zero => simp at hi; subst hi; exact hy
      | succ i => rw [key]; exact h1 i o' (by simpa using hi)
    · rw [List.length_cons, key]; exact h2
end

/-- What was there is as it was: the class of worlds. -/
def Cls (w : World) (w' : World) : Prop := ∃ p : Regrown, w' = grow (redrawn w p.d) p.os
theorem Cls.below {w w' : World} (h : Cls w w') : Below w.heap.size w w' := by
  obtain ⟨p, rfl⟩ := h; exact below_regrown w p.d p.os
theorem Cls.self (w : World) : Cls w w := regrown_of_below (Below.refl _ _)

def loB (ops : Array Oper) (k : Nat) : Bool := match ops[k]? with | some o => isAlloc o | none => false
def looseOf (ops : Array Oper) (n : Nat) : List (Nat × Option Tmp) := ((List.range n).filter (loB ops)).map fun k => (k, dstOf ops k)
def ptrAt (b : Nat) : Value := .pointer (some ⟨b, 0, none⟩)

theorem puts_loose (ops : Array Oper) (β : Nat → Nat) (F : Act) (n : Nat) : puts ops (fun k => ptrAt (β k)) (loB ops) F n = (looseOf ops n).foldl (fun A p => A.put p.2 (ptrAt (β p.1))) F := by
  induction n with
  | zero => rfl
  | succ n ih =>
    unfold looseOf
    rw [List.range_succ, List.filter_append, List.map_append, List.foldl_append]
    change _ = List.foldl _ ((looseOf ops n).foldl _ F) _
    rw [← ih]
    conv => lhs; unfold puts
    cases h : loB ops n <;> simp [h]

section
variable {P : Program} {Q : Exit → Act → World → Prop} {a : Act} {w : World} {l : List Oper} {n : Nat}

structure DetOk (l : List Oper) (n : Nat) : Prop where
  sel : ∀ (j : Nat) (o : Oper) cs b, l.toArray[j]? = some o → o.op ≠ .select cs b
  le : n ≤ l.length
  back : backB l.toArray = true
  share : ∀ i k x y, i < n → k < i → l.toArray[i]? = some x → l.toArray[k]? = some y → (shareB l.toArray x y = true → Anc l.toArray i k) ∧ ((isAlloc x = true ∨ isAlloc y = true) → shareB l.toArray x y = false) ∧ (∀ d, x.dst = some d → y.dst ≠ some d)
  tail : ∀ i k, n ≤ i → i < l.length → k < i → Anc l.toArray i k

theorem detOk (h : detB l n = true) : DetOk l n := by
  unfold detB at h
  simp only [Bool.and_eq_true, decide_eq_true_eq, List.all_eq_true, List.mem_range] at h
  obtain ⟨⟨⟨⟨h1, h2⟩, h3⟩, h4⟩, h5⟩ := h
  have hanc := ancs_spec l.toArray l [] (by simp) (by simp)
  refine ⟨Region.noSelect_spec h1, h2, h3, ?_, ?_⟩
  · intro i k x y hi hk hx hy
    have h6 := h4 i hi k hk
    rw [hx, hy] at h6
    simp only [Bool.and_eq_true, Bool.or_eq_true, Bool.not_eq_true', Bool.or_eq_false_iff] at h6
    obtain ⟨⟨h7, h8⟩, h9⟩ := h6
    refine ⟨fun hs => hanc _ _ (h7.resolve_left (by rw [hs]; simp)), fun ha => ?_, fun d hd hy2 => ?_⟩
    · rcases h8 with h8 | h8
      · rcases ha with ha | ha
        · rw [h8.1] at ha; cases ha
        · rw [h8.2] at ha; cases ha
      · exact h8
    · rw [hd, hy2] at h9; simp at h9
  · intro i k hi hl hk
    have h6 := h5 i hl
    simp only [Bool.or_eq_true, decide_eq_true_eq, List.all_eq_true, List.mem_range] at h6
    exact hanc _ _ ((h6.resolve_left (by omega)) k hk)

theorem mute_dst (o : Oper) : (mute o).dst = o.dst := by unfold mute; split <;> rfl
theorem mute_not {o : Oper} (h : isAlloc o = false) : mute o = o := by unfold mute; rw [h]; rfl

theorem head_get {i : Nat} (hi : i < n) : ((l.take n).map mute)[i]? = (l.toArray[i]?).map mute := by
  rw [List.getElem?_map, List.getElem?_take, if_pos hi]; simp
theorem puts_head {v : Nat → Value} {L : Nat → Bool} : ∀ k, k ≤ n → puts ((l.take n).map mute).toArray v L a k = puts l.toArray v L a k := by
  intro k
  induction k with
  | zero => intro _; rfl
  | succ k ih =>
    intro hk
    have e : dstOf ((l.take n).map mute).toArray k = dstOf l.toArray k := by
      unfold dstOf
      rw [List.getElem?_toArray, head_get (by omega)]
      cases l.toArray[k]? with
      | none => rfl
      | some o => exact mute_dst o
    unfold puts
    rw [ih (by omega), e]

theorem put_eq_of {A B : Act} (hs : A.tmps.size = B.tmps.size) {d : Nat} {x : Value} (h : B.tmps[d]? = (A.put (some d) x).tmps[d]?) : A.put (some d) x = A.put (some d) (B.tmps.getD d undef) := by
  simp only [Act.put, Array.getElem?_setIfInBounds] at h ⊢
  by_cases hd : d < A.tmps.size
  · rw [if_pos hd] at h
    have : B.tmps.getD d undef = x := by rw [Array.getD_eq_getD_getElem?, h]; rfl
    rw [this]
  · rw [Array.setIfInBounds_eq_of_size_le (by omega), Array.setIfInBounds_eq_of_size_le (by omega)]

/-- The values are the last frame's, whatever the world was. -/
def valsOf (l : List Oper) (F : Act) (k : Nat) : Value := match dstOf l.toArray k with | some d => F.tmps.getD d undef | none => undef
theorem puts_vals (ok : DetOk l n) {v : Nat → Value} {F : Act} (hF : puts l.toArray v (fun _ => true) a n = F) : ∀ k, k ≤ n → puts l.toArray v (fun _ => true) a k = puts l.toArray (valsOf l F) (fun _ => true) a k := by
  intro k
  induction k with
  | zero => intro _; rfl
  | succ k ih =>
    intro hk
    have ih' := ih (by omega)
    have e1 : puts l.toArray v (fun _ => true) a (k + 1) = (puts l.toArray v (fun _ => true) a k).put (dstOf l.toArray k) (v k) := by rw [puts, if_pos rfl]
    have e2 : puts l.toArray (valsOf l F) (fun _ => true) a (k + 1) = (puts l.toArray (valsOf l F) (fun _ => true) a k).put (dstOf l.toArray k) (valsOf l F k) := by rw [puts, if_pos rfl]
    rw [e1, e2, ← ih']
    cases hd : dstOf l.toArray k with
    | none => rfl
    | some d =>
      have hv : valsOf l F k = F.tmps.getD d undef := by unfold valsOf; rw [hd]
      rw [hv]
      refine put_eq_of (by rw [← hF, puts_size, puts_size]) ?_
      rw [← hF, puts_beyond (i := k + 1) hk, e1, hd]
      intro j hj1 hj2 _ hj3
      have hl := ok.le
      have hj : j < l.length := by omega
      have hkk : k < l.length := by omega
      obtain ⟨_, _, h3⟩ := ok.share j k l[j] l[k] hj2 (by omega) (by simp [hj]) (by simp [hkk])
      refine h3 d ?_ ?_
      · simpa [dstOf, hj] using hj3
      · simpa [dstOf, hkk] using hd

/-- The second condition of the frame: two frames that agree on what an operation looks at. -/
theorem evalAgree {ops : Array Oper} {o : Oper} {A B : Act} (h : ∀ t, t ∈ o.looksAt ops → A.tmps[t]? = B.tmps[t]?) : ∀ x ∈ o.op.operands, A.eval x = B.eval x := by
  intro x hx
  cases x with
  | tmp t =>
    have ht : t ∈ o.looksAt ops := List.mem_append_left _ (List.mem_filterMap.2 ⟨.tmp t, by simpa using hx, rfl⟩)
    have := h t ht
    simp only [Act.eval, Array.getD_eq_getD_getElem?, this]
  | _ => rfl
theorem wantAgree {ops : Array Oper} {o : Oper} {A B : Act} (h : ∀ t, t ∈ o.looksAt ops → A.tmps[t]? = B.tmps[t]?) : Region.wanted o (yielded ops A.tmps) = Region.wanted o (yielded ops B.tmps) := by
  unfold Region.wanted
  cases hg : o.guard with
  | none => rfl
  | some gw =>
    obtain ⟨g, want⟩ := gw
    have hy : yielded ops A.tmps g = yielded ops B.tmps g := by
      unfold yielded
      cases ht : (ops[g]?).bind (·.dst) with
      | none => rfl
      | some t =>
        have := h t (by simp [Oper.looksAt, hg, ht])
        simp [this]
    simp only [hy]

structure Fresh (ops : Array Oper) (n : Nat) (w : World) (obj : Nat → Obj) (β : Nat → Nat) (L : Nat → Bool) (W : World) : Prop where
  old : ∀ k, k < n → loB ops k = true → L k = true → w.heap.size ≤ β k ∧ W.heap[β k]? = some (obj k)
  inj : ∀ j k, j < n → k < n → loB ops j = true → loB ops k = true → L j = true → L k = true → β j = β k → j = k

theorem Fresh.later {ops : Array Oper} {obj : Nat → Obj} {β : Nat → Nat} {L : Nat → Bool} {W W' : World} (h : Fresh ops n w obj β L W) (hb : Below W.heap.size W W') : Fresh ops n w obj β L W' :=
  ⟨fun k hk hl hL => ⟨(h.old k hk hl hL).1, by rw [hb.block _ (lt_of_block (h.old k hk hl hL).2)]; exact (h.old k hk hl hL).2⟩, h.inj⟩

def vb (l : List Oper) (F : Act) (β : Nat → Nat) (k : Nat) : Value := if loB l.toArray k = true then ptrAt (β k) else valsOf l F k

def DetInv (P : Program) (l : List Oper) (n : Nat) (Q : Exit → Act → World → Prop) (a : Act) (w : World) (F : Act) (obj : Nat → Obj) (L : Nat → Bool) (A : Act) (W : World) : Prop :=
  Clo l.toArray L ∧
  (((∃ i, i < n ∧ L i = false) ∧ (∀ t, n ≤ t → L t = false) ∧ Below w.heap.size w W ∧ ∃ β, A = puts l.toArray (vb l F β) L a n ∧ Fresh l.toArray n w obj β L W) ∨
   ((∀ i, i < n → L i = true) ∧ ∃ p, n ≤ p ∧ p ≤ l.length ∧ (∀ t, n ≤ t → t < l.length → L t = decide (t < p)) ∧ wpList P l.toArray Q (l.drop p) A W))

theorem loB_get {ops : Array Oper} {k : Nat} {o : Oper} (h : ops[k]? = some o) : loB ops k = isAlloc o := by unfold loB; rw [h]

/-- What an operation of the first part looks at is as in the order of the text. -/
theorem look_head (ok : DetOk l n) {F : Act} {β : Nat → Nat} {L : Nat → Bool} (hc : Clo l.toArray L) {i : Nat} {o : Oper} (hi : i < n) (ho : l.toArray[i]? = some o) (hL : L i = false)
    (hd : ∀ e ∈ o.after, Region.binds .any e = true → L e.on = true) : ∀ t, t ∈ o.looksAt l.toArray → (puts l.toArray (vb l F β) L a n).tmps[t]? = (puts l.toArray (valsOf l F) (fun _ => true) a i).tmps[t]? := by
  intro t ht
  have hle := ok.le
  rw [puts_beyond (i := i) (Nat.le_of_lt hi)]
  · refine puts_same (fun k hk hkd => ?_)
    obtain ⟨y, hy, hyd⟩ : ∃ y, l.toArray[k]? = some y ∧ y.dst = some t := by
      unfold dstOf at hkd
      cases h : l.toArray[k]? with
      | none => rw [h] at hkd; simp at hkd
      | some y => rw [h] at hkd; exact ⟨y, rfl, by simpa using hkd⟩
    obtain ⟨h1, h2, _⟩ := ok.share i k o y hi hk ho hy
    have hs : shareB l.toArray o y = true := by rw [shareB_comm]; exact share_dst hyd (Or.inr ht)
    refine ⟨anc_done hc (h1 hs) (fun o' ho' => by rw [ho] at ho'; obtain rfl := Option.some.inj ho'; exact hd), rfl, ?_⟩
    unfold vb
    rw [loB_get hy]
    cases ha : isAlloc y with
    | false => rfl
    | true => rw [h2 (Or.inr ha)] at hs; cases hs
  · intro k hk1 hk2 hk3 hkd
    by_cases e : k = i
    · subst e; rw [hL] at hk3; cases hk3
    · obtain ⟨y, hy, hyd⟩ : ∃ y, l.toArray[k]? = some y ∧ y.dst = some t := by
        unfold dstOf at hkd
        cases h : l.toArray[k]? with
        | none => rw [h] at hkd; simp at hkd
        | some y => rw [h] at hkd; exact ⟨y, rfl, by simpa using hkd⟩
      obtain ⟨h1, _, _⟩ := ok.share k i y o hk2 (by omega) hy ho
      have := anc_done hc (h1 (share_dst hyd (Or.inr ht))) (fun o' ho' => hc k o' ho' hk3)
      rw [hL] at this; cases this

theorem clo_add {ops : Array Oper} {L : Nat → Bool} (hc : Clo ops L) {i : Nat} {o : Oper} (ho : ops[i]? = some o) (hd : ∀ e ∈ o.after, Region.binds .any e = true → L e.on = true) : Clo ops (fun j => j == i || L j) := by
  intro j o' ho' hj e he hb
  by_cases e1 : j = i
  · subst e1
    rw [ho] at ho'; obtain rfl := Option.some.inj ho'
    simp [hd e he hb]
  · have : (j == i) = false := by simpa using e1
    simp only [this, Bool.false_or] at hj
    simp [hc j o' ho' hj e he hb]

/-- The frame behind the first part. -/
theorem frame_end (ok : DetOk l n) {F : Act} {β : Nat → Nat} (hF : puts l.toArray (valsOf l F) (fun _ => true) a n = F) {L : Nat → Bool} (hL : ∀ i, i < n → L i = true) :
    puts l.toArray (vb l F β) L a n = puts l.toArray (fun k => ptrAt (β k)) (loB l.toArray) F n := by
  have hle := ok.le
  have hdst : ∀ k t, k < n → dstOf l.toArray k = some t → ∃ y, l.toArray[k]? = some y ∧ y.dst = some t := by
    intro k t _ hkd
    unfold dstOf at hkd
    cases h : l.toArray[k]? with
    | none => rw [h] at hkd; simp at hkd
    | some y => rw [h] at hkd; exact ⟨y, rfl, by simpa using hkd⟩
  have hdef : ∀ (v : Nat → Value) (M : Nat → Bool) (b : Act) k, (puts l.toArray v M b k).defers = b.defers := by
    intro v M b k
    induction k with
    | zero => rfl
    | succ k ih =>
      unfold puts
      split
      · cases dstOf l.toArray k <;> simp [Act.put, ih]
      · exact ih
  have hsz : (puts l.toArray (vb l F β) L a n).tmps = (puts l.toArray (fun k => ptrAt (β k)) (loB l.toArray) F n).tmps := by
    apply Array.ext_getElem?
    intro t
    have hFt : F.tmps.size = a.tmps.size := by rw [← hF, puts_size]
    by_cases h : ∃ k, k < n ∧ loB l.toArray k = true ∧ dstOf l.toArray k = some t
    · obtain ⟨k, hk, hlo, hd⟩ := h
      obtain ⟨y, hy, hyd⟩ := hdst k t hk hd
      have hno : ∀ j, k + 1 ≤ j → j < n → dstOf l.toArray j ≠ some t := by
        intro j hj1 hj2 hj3
        obtain ⟨z, hz, hzd⟩ := hdst j t hj2 hj3
        exact (ok.share j k z y hj2 (by omega) hz hy).2.2 t hzd hyd
      rw [puts_beyond (i := k + 1) (by omega) (fun j h1 h2 _ => hno j h1 h2), puts_beyond (i := k + 1) (by omega) (fun j h1 h2 _ => hno j h1 h2)]
      rw [show puts l.toArray (vb l F β) L a (k + 1) = (puts l.toArray (vb l F β) L a k).put (some t) (ptrAt (β k)) from by rw [puts, if_pos (hL k hk), hd]; unfold vb; rw [if_pos hlo]]
      rw [show puts l.toArray (fun k => ptrAt (β k)) (loB l.toArray) F (k + 1) = (puts l.toArray (fun k => ptrAt (β k)) (loB l.toArray) F k).put (some t) (ptrAt (β k)) from by rw [puts, if_pos hlo, hd]]
      exact put_get_eq (by rw [puts_size, puts_size, hFt]) _ _
    · rw [puts_beyond (v := fun k => ptrAt (β k)) (i := 0) (Nat.zero_le _) (fun j _ h2 h3 h4 => h ⟨j, h2, h3, h4⟩)]
      conv => rhs; unfold puts; rw [← hF]
      refine puts_same (fun k hk hkd => ⟨hL k hk, rfl, ?_⟩)
      unfold vb
      rw [if_neg (fun h3 => h ⟨k, hk, h3, hkd⟩)]
  have hdf : (puts l.toArray (vb l F β) L a n).defers = (puts l.toArray (fun k => ptrAt (β k)) (loB l.toArray) F n).defers := by
    rw [hdef, hdef, ← hF, hdef]
  generalize puts l.toArray (vb l F β) L a n = X at *
  generalize puts l.toArray (fun k => ptrAt (β k)) (loB l.toArray) F n = Y at *
  cases X; cases Y; simp only at hsz hdf; subst hsz hdf; rfl

/-- An invariant over which operations are done: each comes up once all that it waits for is done. -/
theorem wpAny_inv3 {ops : Array Oper} (hac : backB ops = true) (Inv : (Nat → Bool) → Act → World → Prop)
    (hs : ∀ i o, ops[i]? = some o → ∀ L a w, L i = false → Inv L a w → (∀ e ∈ o.after, Region.binds .any e = true → L e.on = true) → wpOp P ops Q i (fun a' w' => Inv (fun j => j == i || L j) a' w') a w)
    (he : ∀ L a w, (∀ j, j < ops.size → L j = true) → Inv L a w → Q .normal a w) :
    ∀ (fuel : Nat) (listed : Array Bool) (a : Act) (w : World), listed.size = ops.size → unl ops.size listed = fuel → Inv (fun j => listed.getD j false) a w → wpAny P .any ops Q fuel listed a w := by
  intro fuel
  induction fuel with
  | zero =>
    intro listed a w hsz hu hI
    have hall := unl_zero _ _ hu
    refine ⟨?_, he _ _ _ (fun j hj => getD_tf (by omega) (hall j hj)) hI⟩
    rw [List.eq_nil_iff_forall_not_mem]
    intro j hj
    obtain ⟨h1, o, ho, _⟩ := mem_ready.1 hj
    have hjs : j < ops.size := (Array.getElem?_eq_some_iff.1 ho).1
    rw [hall j hjs] at h1; cases h1
  | succ fuel ih =>
    intro listed a w hsz hu hI
    refine ⟨fun hr => ?_, fun i hi => ?_⟩
    · exfalso
      obtain ⟨j, hj, h1, h2⟩ := least_unl listed ops.size (unl_pos _ _ (by omega))
      have hm : j ∈ Region.ready .any ops listed := by
        refine mem_ready.2 ⟨h1, ops[j], by simp [hj], fun e he hbd => ?_⟩
        have hb := List.all_eq_true.1 hac j (List.mem_range.2 hj)
        rw [Array.getElem?_eq_getElem hj] at hb
        have hlt := Array.all_eq_true_iff_forall_mem.1 hb e he
        simp only [hbd, Bool.not_true, Bool.false_or, decide_eq_true_eq] at hlt
        exact getD_tf (by omega) (h2 _ hlt)
      rw [hr] at hm; cases hm
    · obtain ⟨h1, o, ho, hdep⟩ := mem_ready.1 hi
      have his : i < ops.size := (Array.getElem?_eq_some_iff.1 ho).1
      refine wpOp_mono (fun a' w' h => ?_) (hs i o ho _ a w (getD_ff h1) hI hdep)
      refine ih _ a' w' (by simp [hsz]) ?_ ?_
      · have := unl_set ops.size listed i (by omega) h1
        rw [if_pos his] at this
        omega
      · have e : (fun j => (listed.setIfInBounds i true).getD j false) = fun j => j == i || listed.getD j false := by
          funext j
          by_cases hj : i = j
          · subst hj; simp [show i < listed.size by omega]
          · rw [getD_set_ne false hj]
            have : (j == i) = false := by simpa using fun h => hj h.symm
            rw [this, Bool.false_or]
        rw [e]; exact h

theorem detInv_start (ok : DetOk l n) {F : Act} {obj : Nat → Obj} (hF0 : puts l.toArray (valsOf l F) (fun _ => true) a n = F)
    (hT : ∀ β w', Below w.heap.size w w' → Fresh l.toArray n w obj β (fun _ => true) w' → wpList P l.toArray Q (l.drop n) ((looseOf l.toArray n).foldl (fun A p => A.put p.2 (ptrAt (β p.1))) F) w')
    {L : Nat → Bool} {A : Act} {W : World} (hc : Clo l.toArray L) (ht : ∀ t, n ≤ t → L t = false) (hb : Below w.heap.size w W) {β : Nat → Nat} (hA : A = puts l.toArray (vb l F β) L a n) (hf : Fresh l.toArray n w obj β L W) :
    DetInv P l n Q a w F obj L A W := by
  refine ⟨hc, ?_⟩
  by_cases h : ∃ i, i < n ∧ L i = false
  · exact Or.inl ⟨h, ht, hb, β, hA, hf⟩
  · have hall : ∀ i, i < n → L i = true := by
      intro i hi
      cases hL : L i with
      | true => rfl
      | false => exact (h ⟨i, hi, hL⟩).elim
    refine Or.inr ⟨hall, n, Nat.le_refl _, ok.le, fun t h1 _ => by rw [ht t h1]; simp; omega, ?_⟩
    rw [hA, frame_end ok hF0 hall, puts_loose]
    exact hT β W hb ⟨fun k hk hl _ => hf.old k hk hl (hall k hk), fun j k hj hk hlj hlk _ _ => hf.inj j k hj hk hlj hlk (hall j hj) (hall k hk)⟩

/-- **One walk of the text's order serves every order.** -/
theorem wp_region_det {id : Nat} (n : Nat) (hm : P.follows .mixedOrders = true) (hB : detB l n = true) (F : Act) (obj : Nat → Obj)
    (hF : ∀ w1, Below w.heap.size w w1 → wpQuiet P l.toArray (fun w' => ∃ p : Regrown, w' = grow (redrawn w1 p.d) p.os) (fun a' => a' = F) ((l.take n).map mute) a)
    (hz : ∀ k T, k < n → ((l.toArray[k]?).map (·.op) : Option Op) = some (.alloc T) → ∀ W : World, (Instr.alloc T true (.tuple #[])).run P W = .ok (.pointer (some ⟨W.heap.size, 0, none⟩)) (W.alloc (obj k)))
    (hT : ∀ β w', Below w.heap.size w w' → Fresh l.toArray n w obj β (fun _ => true) w' → wpList P l.toArray Q (l.drop n) ((looseOf l.toArray n).foldl (fun A p => A.put p.2 (ptrAt (β p.1))) F) w') :
    (Code.region id l.toArray true).wp P Q a w := by
  have ok := detOk hB
  have hvals : ∀ w1, Below w.heap.size w w1 → (∀ i o, i < n → l.toArray[i]? = some o → ∃ v, YieldsIn P l.toArray (fun w' => ∃ p : Regrown, w' = grow (redrawn w1 p.d) p.os) (mute o) v (puts l.toArray (valsOf l F) (fun _ => true) a i) ∧
      puts l.toArray (valsOf l F) (fun _ => true) a (i + 1) = (puts l.toArray (valsOf l F) (fun _ => true) a i).put o.dst v) ∧ puts l.toArray (valsOf l F) (fun _ => true) a n = F := by
    intro w1 hw1
    obtain ⟨vals, h1, h2⟩ := quiet_vals _ _ (hF w1 hw1)
    have hlen : ((l.take n).map mute).length = n := by have := ok.le; simp; omega
    rw [hlen, puts_head n (Nat.le_refl _)] at h2
    have hp := puts_vals ok h2
    refine ⟨fun i o hi ho => ⟨vals i, ?_, ?_⟩, (hp n (Nat.le_refl _)) ▸ h2⟩
    · have h3 := h1 i (mute o) (by rw [head_get hi, ho]; rfl)
      rw [puts_head i (Nat.le_of_lt hi), hp i (Nat.le_of_lt hi)] at h3
      exact h3
    · rw [← hp (i + 1) hi, ← hp i (Nat.le_of_lt hi), puts, if_pos rfl]
      simp [dstOf, ho]
  obtain ⟨_, hF0⟩ := hvals w (Below.refl _ _)
  refine wp_region_any hm (wpAny_inv3 ok.back (DetInv P l n Q a w F obj) ?_ ?_ _ _ _ _ (by simp) ?_ ?_)
  · intro i o ho L A W hL hI hd
    obtain ⟨hc, hI⟩ := hI
    have his : i < l.length := by simpa using (Array.getElem?_eq_some_iff.1 ho).1
    rcases hI with ⟨_, ht, hb, β, hA, hf⟩ | ⟨hall, p, hp1, hp2, hp3, hw⟩
    · -- the first part
      by_cases hin : i < n
      · have hfree : ∀ k, i < k → k < n → L k = true → ∀ d, dstOf l.toArray k = some d → dstOf l.toArray i ≠ some d := by
          intro k hk1 hk2 _ d hkd hid
          obtain ⟨y, hy⟩ : ∃ y, l.toArray[k]? = some y := ⟨l[k]'(by have := ok.le; omega), by simp [show k < l.length by have := ok.le; omega]⟩
          refine (ok.share k i y o hk2 hk1 hy ho).2.2 d ?_ ?_
          · simpa [dstOf, hy] using hkd
          · simpa [dstOf, ho] using hid
        have ht' : ∀ t, n ≤ t → (fun j => j == i || L j) t = false := by
          intro t h1
          have : (t == i) = false := by simpa using (show t ≠ i by omega)
          simp [this, ht t h1]
        cases ha : isAlloc o with
        | true =>
          -- a block is made
          obtain ⟨T, hop, hg⟩ : ∃ T, o.op = .alloc T ∧ o.guard = none := by
            unfold isAlloc at ha
            split at ha
            · rename_i T h1 h2; exact ⟨T, h1, h2⟩
            · cases ha
          have hzz := hz i T hin (by rw [ho]; simp [hop]) W
          unfold wpOp
          simp only [ho]
          rw [if_pos (by simp [Region.wanted, hg])]
          refine Or.inl ?_
          unfold Oper.wp execOp
          simp only [hop, hzz, Sem.run_bind, Sem.run_pure, Result.andThen_ok, Oper.upon]
          refine detInv_start ok hF0 hT (clo_add hc ho hd) ht' (hb.alloc hb.size _) (β := fun k => if k = i then W.heap.size else β k) ?_ ?_
          · rw [puts_add hin hL hfree, hA]
            have e1 : vb l F (fun k => if k = i then W.heap.size else β k) i = .pointer (some ⟨W.heap.size, 0, none⟩) := by
              unfold vb; rw [loB_get ho, if_pos ha]; simp [ptrAt]
            have e2 : dstOf l.toArray i = o.dst := by simp [dstOf, ho]
            rw [e1, e2]
            congr 1
            refine puts_congr (fun _ _ => rfl) (fun k hk hLk => ?_)
            have hki : k ≠ i := fun e => by rw [e, hL] at hLk; cases hLk
            unfold vb; simp only [if_neg hki]
          · refine ⟨fun k hk hlo hLk => ?_, fun j k hj hk hlj hlk hLj hLk hβ => ?_⟩
            · by_cases hki : k = i
              · subst hki
                simp only [↓reduceIte]
                exact ⟨hb.size, heap_alloc_new W _⟩
              · have : (k == i) = false := by simpa using hki
                simp only [this, Bool.false_or] at hLk
                rw [if_neg hki]
                have h5 := hf.old k hk hlo hLk
                exact ⟨h5.1, by rw [Below.heap_alloc W _ _ (lt_of_block h5.2)]; exact h5.2⟩
            · by_cases hji : j = i
              · by_cases hki : k = i
                · rw [hji, hki]
                · exfalso
                  have : (k == i) = false := by simpa using hki
                  simp only [this, Bool.false_or] at hLk
                  rw [if_pos hji, if_neg hki] at hβ
                  have := lt_of_block (hf.old k hk hlk hLk).2
                  omega
              · have hj2 : (j == i) = false := by simpa using hji
                simp only [hj2, Bool.false_or] at hLj
                by_cases hki : k = i
                · exfalso
                  rw [if_neg hji, if_pos hki] at hβ
                  have := lt_of_block (hf.old j hj hlj hLj).2
                  omega
                · have : (k == i) = false := by simpa using hki
                  simp only [this, Bool.false_or] at hLk
                  rw [if_neg hji, if_neg hki] at hβ
                  exact hf.inj j k hj hk hlj hlk hLj hLk hβ
        | false =>
          obtain ⟨h1, _⟩ := hvals W hb
          obtain ⟨v, hy, hput⟩ := h1 i o hin ho
          rw [mute_not ha] at hy
          have hag := look_head (β := β) (F := F) (a := a) ok hc hin ho hL hd
          have hy' : YieldsIn P l.toArray (fun w' => ∃ p : Regrown, w' = grow (redrawn W p.d) p.os) o v A := by
            rw [hA]
            exact hy.of_same (execOp_congr o (fun cs b => ok.sel i o cs b ho) (evalAgree hag)) (wantAgree hag)
          refine wpOp_of_qOp (Cls.self W) (fun a' w' hw' ha' => ?_) (hy'.qOp ho (K := fun a' => a' = A.put o.dst v) rfl)
          have hbw : Below W.heap.size W w' := Cls.below hw'
          refine detInv_start ok hF0 hT (clo_add hc ho hd) ht' (hb.trans (hbw.mono hb.size)) (β := β) ?_ ?_
          · rw [puts_add hin hL hfree, ha', hA]
            have e2 : dstOf l.toArray i = o.dst := by simp [dstOf, ho]
            rw [e2]
            have e3 : vb l F β i = valsOf l F i := by unfold vb; rw [loB_get ho, ha]; rfl
            rw [e3]
            cases hod : o.dst with
            | none => rfl
            | some d =>
              rw [hod] at hput
              have e4 : (puts l.toArray (valsOf l F) (fun _ => true) a i).put (some d) v = (puts l.toArray (valsOf l F) (fun _ => true) a i).put (some d) (valsOf l F i) := by
                rw [← hput, puts, if_pos rfl, e2, hod]
              have hs1 : (puts l.toArray (valsOf l F) (fun _ => true) a i).tmps.size = a.tmps.size := puts_size _
              have hs2 : (puts l.toArray (vb l F β) L a n).tmps.size = a.tmps.size := puts_size _
              by_cases hdl : d < a.tmps.size
              · have h7 := congrArg (fun A : Act => A.tmps[d]?) e4
                simp only [Act.put, Array.getElem?_setIfInBounds, if_pos, hs1, hdl] at h7
                rw [Option.some.inj h7]
              · have h8 : ∀ (B : Act) (x : Value), B.tmps.size = a.tmps.size → B.put (some d) x = B := by
                  intro B x hB
                  simp only [Act.put]
                  rw [Array.setIfInBounds_eq_of_size_le (by rw [hB]; exact Nat.le_of_not_lt hdl)]
                rw [h8 _ _ hs2, h8 _ _ hs2]
          · have hf' := hf.later hbw
            have hlo : loB l.toArray i = false := by rw [loB_get ho]; exact ha
            refine ⟨fun k hk hl hLk => hf'.old k hk hl ?_, fun j k hj hk hlj hlk hLj hLk => hf'.inj j k hj hk hlj hlk ?_ ?_⟩
            all_goals
              rename_i hLx
              have hne : ∀ q, loB l.toArray q = true → (q == i) = false := fun q hq => by
                have : q ≠ i := fun e => by rw [e, hlo] at hq; cases hq
                simpa using this
              first
                | simpa only [hne k hl, Bool.false_or] using hLk
                | simpa only [hne j hlj, Bool.false_or] using hLj
                | simpa only [hne k hlk, Bool.false_or] using hLk
      · -- none of the rest may come up yet
        exfalso
        rename_i hex
        obtain ⟨j, hj, hLj⟩ := hex
        have := anc_done hc (ok.tail i j (by omega) his (by omega)) (fun o' ho' => by rw [ho] at ho'; obtain rfl := Option.some.inj ho'; exact hd)
        rw [hLj] at this; cases this
    · -- the rest, one behind the other
      have hin : n ≤ i := by
        rcases Nat.lt_or_ge i n with h | h
        · rw [hall i h] at hL; cases hL
        · exact h
      have hip : i = p := by
        have h1 : ¬ i < p := by
          intro h; rw [hp3 i hin his] at hL; simp [h] at hL
        rcases Nat.lt_or_ge p i with h | h
        · exfalso
          have := anc_done hc (ok.tail i p (by omega) his h) (fun o' ho' => by rw [ho] at ho'; obtain rfl := Option.some.inj ho'; exact hd)
          rw [hp3 p hp1 (by omega)] at this; simp at this
        · omega
      subst hip
      have hdrop : l.drop i = o :: l.drop (i + 1) := by
        rw [List.drop_eq_getElem_cons his]
        have : l[i] = o := by simpa [his] using ho
        rw [this]
      rw [hdrop] at hw
      have hw2 : wpOp P l.toArray Q i (wpList P l.toArray Q (l.drop (i + 1))) A W := by
        unfold wpOp; simp only [ho]; exact hw
      refine wpOp_mono (fun a' w' h => ?_) hw2
      refine ⟨clo_add hc ho hd, Or.inr ⟨fun j hj => by simp [hall j hj], i + 1, by omega, by omega, fun t h1 h2 => ?_, h⟩⟩
      have := hp3 t h1 h2
      by_cases e : t = i
      · subst e; simp
      · have e2 : (t == i) = false := by simpa using e
        simp only [e2, Bool.false_or, this]
        simp only [decide_eq_decide]; omega
  · intro L A W hL hI
    obtain ⟨_, hI⟩ := hI
    rcases hI with ⟨⟨i, hi, hLi⟩, _⟩ | ⟨_, p, hp1, hp2, hp3, hw⟩
    · rw [hL i (by have := ok.le; simp; omega)] at hLi; cases hLi
    · have hpl : p = l.length := by
        rcases Nat.lt_or_ge p l.length with h | h
        · have h1 := hL p (by simpa using h)
          rw [hp3 p hp1 h] at h1; simp at h1
        · omega
      subst hpl
      simpa [wpList] using hw
  · have : ∀ m, m ≤ l.toArray.size → unl m (Array.replicate l.toArray.size false) = m := by
      intro m
      induction m with
      | zero => intro _; rfl
      | succ m ih =>
        intro hm
        have hm' : m < l.length := by simp at hm; omega
        rw [unl_succ, ih (by omega), if_pos (by simp [hm'])]
    exact this _ (Nat.le_refl _)
  · have e : (fun j => (Array.replicate l.toArray.size false).getD j false) = fun _ => false := by
      funext j
      by_cases h : j < l.length
      · simp [h]
      · simp [h]
    rw [e]
    refine detInv_start ok hF0 hT (fun j o _ h => by cases h) (fun _ _ => rfl) ⟨rfl, rfl, rfl, Nat.le_refl _, fun _ _ => rfl⟩ (β := fun _ => 0) ?_ ⟨fun k _ _ h => (by cases h), fun j k _ _ _ _ h => (by cases h)⟩
    have : ∀ k, puts l.toArray (vb l F (fun _ => 0)) (fun _ => false) a k = a := by
      intro k
      induction k with
      | zero => rfl
      | succ k ih => unfold puts; simp [ih]
    exact (this n).symm

def TailInv (P : Program) (C : World → Prop) (l : List Oper) (n : Nat) (Q : Exit → Act → World → Prop) (a : Act) (F : Act) (L : Nat → Bool) (A : Act) (W : World) : Prop :=
  Clo l.toArray L ∧
  (((∃ i, i < n ∧ L i = false) ∧ (∀ t, n ≤ t → L t = false) ∧ C W ∧ A = puts l.toArray (valsOf l F) L a n) ∨
   ((∀ i, i < n → L i = true) ∧ ∃ p, n ≤ p ∧ p ≤ l.length ∧ (∀ t, n ≤ t → t < l.length → L t = decide (t < p)) ∧ wpList P l.toArray Q (l.drop p) A W))

theorem tailInv_start {C : World → Prop} (ok : DetOk l n) {F : Act} (hF0 : puts l.toArray (valsOf l F) (fun _ => true) a n = F) (hT : ∀ w', C w' → wpList P l.toArray Q (l.drop n) F w')
    {L : Nat → Bool} {A : Act} {W : World} (hc : Clo l.toArray L) (ht : ∀ t, n ≤ t → L t = false) (hb : C W) (hA : A = puts l.toArray (valsOf l F) L a n) :
    TailInv P C l n Q a F L A W := by
  refine ⟨hc, ?_⟩
  by_cases h : ∃ i, i < n ∧ L i = false
  · exact Or.inl ⟨h, ht, hb, hA⟩
  · have hall : ∀ i, i < n → L i = true := by
      intro i hi
      cases hL : L i with
      | true => rfl
      | false => exact (h ⟨i, hi, hL⟩).elim
    refine Or.inr ⟨hall, n, Nat.le_refl _, ok.le, fun t h1 _ => by rw [ht t h1]; simp; omega, ?_⟩
    rw [hA, puts_congr (L' := fun _ => true) (v' := valsOf l F) (fun k hk => hall k hk) (fun _ _ _ => rfl), hF0]
    exact hT W hb

/-- The same where no block is made, over whatever class of worlds. -/
theorem wp_region_tail {C : World → Prop} {id : Nat} (n : Nat) (hm : P.follows .mixedOrders = true) (hB : detB l n = true) (hno : looseOf l.toArray n = []) (hC : C w.drew) (F : Act)
    (hF : wpQuiet P l.toArray C (fun a' => a' = F) (l.take n) a)
    (hT : ∀ w', C w' → wpList P l.toArray Q (l.drop n) F w') :
    (Code.region id l.toArray true).wp P Q a w := by
  have ok := detOk hB
  have hlo : ∀ k, k < n → loB l.toArray k = false := by
    intro k hk
    cases h : loB l.toArray k with
    | false => rfl
    | true =>
      have : (k, dstOf l.toArray k) ∈ looseOf l.toArray n := List.mem_map.2 ⟨k, List.mem_filter.2 ⟨List.mem_range.2 hk, h⟩, rfl⟩
      rw [hno] at this; cases this
  have hmu : (l.take n).map mute = l.take n := by
    have : ∀ o ∈ l.take n, mute o = o := by
      intro o ho
      obtain ⟨k, hk, he⟩ := List.getElem_of_mem ho
      have hkn : k < n := by have := hk; simp at this; omega
      have hkl : k < l.length := by have := ok.le; omega
      have h1 : l.toArray[k]? = some o := by
        rw [List.getElem_take] at he
        simp [hkl, he]
      exact mute_not (by rw [← loB_get h1]; exact hlo k hkn)
    exact (List.map_congr_left this).trans (List.map_id _)
  obtain ⟨vals, h1, h2⟩ := quiet_vals _ _ hF
  have hlen : (l.take n).length = n := by have := ok.le; simp; omega
  have hph : ∀ k, k ≤ n → puts (l.take n).toArray vals (fun _ => true) a k = puts l.toArray vals (fun _ => true) a k := by
    intro k hk; rw [← hmu]; exact puts_head k hk
  rw [hlen, hph n (Nat.le_refl _)] at h2
  have hp := puts_vals ok h2
  have hF0 : puts l.toArray (valsOf l F) (fun _ => true) a n = F := (hp n (Nat.le_refl _)) ▸ h2
  have hvals : ∀ i o, i < n → l.toArray[i]? = some o → ∃ v, YieldsIn P l.toArray C o v (puts l.toArray (valsOf l F) (fun _ => true) a i) ∧
      puts l.toArray (valsOf l F) (fun _ => true) a (i + 1) = (puts l.toArray (valsOf l F) (fun _ => true) a i).put o.dst v := by
    intro i o hi ho
    refine ⟨vals i, ?_, ?_⟩
    · have h3 := h1 i o (by rw [List.getElem?_take, if_pos hi]; simpa using ho)
      rw [hph i (Nat.le_of_lt hi), hp i (Nat.le_of_lt hi)] at h3
      exact h3
    · rw [← hp (i + 1) hi, ← hp i (Nat.le_of_lt hi), puts, if_pos rfl]
      simp [dstOf, ho]
  refine wp_region_any hm (wpAny_inv3 ok.back (TailInv P C l n Q a F) ?_ ?_ _ _ _ _ (by simp) ?_ ?_)
  · intro i o ho L A W hL hI hd
    obtain ⟨hc, hI⟩ := hI
    have his : i < l.length := by simpa using (Array.getElem?_eq_some_iff.1 ho).1
    rcases hI with ⟨hex, ht, hb, hA⟩ | ⟨hall, p, hp1, hp2, hp3, hw⟩
    · by_cases hin : i < n
      · have hfree : ∀ k, i < k → k < n → L k = true → ∀ d, dstOf l.toArray k = some d → dstOf l.toArray i ≠ some d := by
          intro k hk1 hk2 _ d hkd hid
          obtain ⟨y, hy⟩ : ∃ y, l.toArray[k]? = some y := ⟨l[k]'(by have := ok.le; omega), by simp [show k < l.length by have := ok.le; omega]⟩
          refine (ok.share k i y o hk2 hk1 hy ho).2.2 d ?_ ?_
          · simpa [dstOf, hy] using hkd
          · simpa [dstOf, ho] using hid
        have ht' : ∀ t, n ≤ t → (fun j => j == i || L j) t = false := by
          intro t h1
          have : (t == i) = false := by simpa using (show t ≠ i by omega)
          simp [this, ht t h1]
        have hvb : ∀ k, k < n → vb l F (fun _ => 0) k = valsOf l F k := by intro k hk; unfold vb; rw [hlo k hk]; rfl
        obtain ⟨v, hy, hput⟩ := hvals i o hin ho
        have hag := look_head (β := fun _ => 0) (F := F) (a := a) ok hc hin ho hL hd
        rw [puts_congr (L' := L) (v' := valsOf l F) (fun _ _ => rfl) (fun k hk _ => hvb k hk)] at hag
        have hy' : YieldsIn P l.toArray C o v A := by
          rw [hA]
          exact hy.of_same (execOp_congr o (fun cs b => ok.sel i o cs b ho) (evalAgree hag)) (wantAgree hag)
        refine wpOp_of_qOp hb (fun a' w' hw' ha' => ?_) (hy'.qOp ho (K := fun a' => a' = A.put o.dst v) rfl)
        refine tailInv_start ok hF0 hT (clo_add hc ho hd) ht' hw' ?_
        rw [puts_add hin hL hfree, ha', hA]
        have e2 : dstOf l.toArray i = o.dst := by simp [dstOf, ho]
        rw [e2]
        cases hod : o.dst with
        | none => rfl
        | some d =>
          rw [hod] at hput
          have e4 : (puts l.toArray (valsOf l F) (fun _ => true) a i).put (some d) v = (puts l.toArray (valsOf l F) (fun _ => true) a i).put (some d) (valsOf l F i) := by
            rw [← hput, puts, if_pos rfl, e2, hod]
          have hs1 : (puts l.toArray (valsOf l F) (fun _ => true) a i).tmps.size = a.tmps.size := puts_size _
          have hs2 : (puts l.toArray (valsOf l F) L a n).tmps.size = a.tmps.size := puts_size _
          by_cases hdl : d < a.tmps.size
          · have h7 := congrArg (fun A : Act => A.tmps[d]?) e4
            simp only [Act.put, Array.getElem?_setIfInBounds, if_pos, hs1, hdl] at h7
            rw [Option.some.inj h7]
          · have h8 : ∀ (B : Act) (x : Value), B.tmps.size = a.tmps.size → B.put (some d) x = B := by
              intro B x hB
              simp only [Act.put]
              rw [Array.setIfInBounds_eq_of_size_le (by rw [hB]; exact Nat.le_of_not_lt hdl)]
            rw [h8 _ _ hs2, h8 _ _ hs2]
      · exfalso
        obtain ⟨j, hj, hLj⟩ := hex
        have := anc_done hc (ok.tail i j (by omega) his (by omega)) (fun o' ho' => by rw [ho] at ho'; obtain rfl := Option.some.inj ho'; exact hd)
        rw [hLj] at this; cases this
    · have hin : n ≤ i := by
        rcases Nat.lt_or_ge i n with h | h
        · rw [hall i h] at hL; cases hL
        · exact h
      have hip : i = p := by
        have h1 : ¬ i < p := by
          intro h; rw [hp3 i hin his] at hL; simp [h] at hL
        rcases Nat.lt_or_ge p i with h | h
        · exfalso
          have := anc_done hc (ok.tail i p (by omega) his h) (fun o' ho' => by rw [ho] at ho'; obtain rfl := Option.some.inj ho'; exact hd)
          rw [hp3 p hp1 (by omega)] at this; simp at this
        · omega
      subst hip
      have hdrop : l.drop i = o :: l.drop (i + 1) := by
        rw [List.drop_eq_getElem_cons his]
        have : l[i] = o := by simpa [his] using ho
        rw [this]
      rw [hdrop] at hw
      have hw2 : wpOp P l.toArray Q i (wpList P l.toArray Q (l.drop (i + 1))) A W := by
        unfold wpOp; simp only [ho]; exact hw
      refine wpOp_mono (fun a' w' h => ?_) hw2
      refine ⟨clo_add hc ho hd, Or.inr ⟨fun j hj => by simp [hall j hj], i + 1, by omega, by omega, fun t h1 h2 => ?_, h⟩⟩
      have := hp3 t h1 h2
      by_cases e : t = i
      · subst e; simp
      · have e2 : (t == i) = false := by simpa using e
        simp only [e2, Bool.false_or, this]
        simp only [decide_eq_decide]; omega
  · intro L A W hL hI
    obtain ⟨_, hI⟩ := hI
    rcases hI with ⟨⟨i, hi, hLi⟩, _⟩ | ⟨_, p, hp1, hp2, hp3, hw⟩
    · rw [hL i (by have := ok.le; simp; omega)] at hLi; cases hLi
    · have hpl : p = l.length := by
        rcases Nat.lt_or_ge p l.length with h | h
        · have h1 := hL p (by simpa using h)
          rw [hp3 p hp1 h] at h1; simp at h1
        · omega
      subst hpl
      simpa [wpList] using hw
  · have : ∀ m, m ≤ l.toArray.size → unl m (Array.replicate l.toArray.size false) = m := by
      intro m
      induction m with
      | zero => intro _; rfl
      | succ m ih =>
        intro hm
        have hm' : m < l.length := by simp at hm; omega
        rw [unl_succ, ih (by omega), if_pos (by simp [hm'])]
    exact this _ (Nat.le_refl _)
  · have e : (fun j => (Array.replicate l.toArray.size false).getD j false) = fun _ => false := by
      funext j
      by_cases h : j < l.length
      · simp [h]
      · simp [h]
    rw [e]
    refine tailInv_start ok hF0 hT (fun j o _ h => by cases h) (fun _ _ => rfl) hC ?_
    have : ∀ k, puts l.toArray (valsOf l F) (fun _ => false) a k = a := by
      intro k
      induction k with
      | zero => rfl
      | succ k ih => unfold puts; simp [ih]
    exact (this n).symm

/-- Reads and arithmetic, then stores: the class 'some draws later'. -/
theorem wp_region_tail_drew {id : Nat} (n : Nat) (hm : P.follows .mixedOrders = true) (hB : detB l n = true) (hno : looseOf l.toArray n = []) (F : Act)
    (hF : wpQuiet P l.toArray (fun w' => ∃ n, w' = w.drewN n) (fun a' => a' = F) (l.take n) a)
    (hT : ∀ q, wpList P l.toArray Q (l.drop n) F (w.drewN q)) : (Code.region id l.toArray true).wp P Q a w :=
  wp_region_tail n hm hB hno ⟨1, rfl⟩ F hF (fun w' ⟨q, hq⟩ => by subst hq; exact hT q)
/-- Reads, arithmetic and calls that leave old memory alone, then stores. -/
theorem wp_region_tail_below {id : Nat} (n : Nat) (hm : P.follows .mixedOrders = true) (hB : detB l n = true) (hno : looseOf l.toArray n = []) (F : Act)
    (hF : wpQuiet P l.toArray (fun w' => ∃ p : Regrown, w' = grow (redrawn w p.d) p.os) (fun a' => a' = F) (l.take n) a)
    (hT : ∀ w', Below w.heap.size w w' → wpList P l.toArray Q (l.drop n) F w') : (Code.region id l.toArray true).wp P Q a w :=
  wp_region_tail n hm hB hno (regrown_of_below ⟨rfl, rfl, rfl, Nat.le_refl _, fun _ _ => rfl⟩) F hF (fun w' hw' => hT w' (Cls.below hw'))
end
end Go.Proofs.Ytbldgpemocnboaa

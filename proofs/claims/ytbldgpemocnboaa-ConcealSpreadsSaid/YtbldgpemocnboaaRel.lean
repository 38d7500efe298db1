/- A region that draws its order, some of whose operations yield what is only known by a property (a new block, a call's new slice), which others read. One walk of the text's order serves every order. -/
import Derived.Test.YtbldgpemocnboaaGrw
namespace Go.Proofs.Ytbldgpemocnboaa
open Go.RowKit Go.Sort

def relB (l : List Oper) (n : Nat) : Bool :=
  let ops := l.toArray
  let m := ancs l []
  Region.noSelect ops && decide (n ≤ l.length) && backB ops &&
  ((List.range n).all fun i => (List.range i).all fun k => match ops[i]?, ops[k]? with
    | some x, some y => (!shareB ops x y || (m.getD i 0).testBit k) && (!x.dst.isSome || x.dst != y.dst)
    | _, _ => false) &&
  ((List.range l.length).all fun i => decide (i < n) || ((List.range i).all fun k => (m.getD i 0).testBit k))

/-- The world w1 or one that leaves its blocks as they are. -/
def C1 (w1 w' : World) : Prop := ∃ p : Regrown, w' = grow (redrawn w1 p.d) p.os
theorem C1.below {w w' : World} (h : C1 w w') : Below w.heap.size w w' := by
  obtain ⟨p, rfl⟩ := h; exact below_regrown w p.d p.os
theorem C1.self (w : World) : C1 w w := regrown_of_below (Below.refl _ _)
theorem C1.of {w w' : World} (h : Below w.heap.size w w') : C1 w w' := regrown_of_below h

/-- What the new values that operation i waits for are. -/
def Facts (l : List Oper) (Λ : List Nat) (S : Nat → Value → World → Prop) (vs : Nat → Value) (i : Nat) (W : World) : Prop :=
  ∀ k, k ∈ Λ → ((ancs l []).getD i 0).testBit k = true → S k (vs k) W
/-- An operation, run: what is known of its value and of the world behind it. -/
def yldUpon (P : Program) (R : Value → World → Prop) : Result Next → Prop
  | .ok (.value u) w' => R u w'
  | .ok .skip w' => R undef w'
  | .ok (.enter f args) w' => Calls P f args w' fun e w'' => ∃ u, e = .returned u ∧ R u w''
  | _ => False

def WQ (P : Program) (l : List Oper) (Λ : List Nat) (S : Nat → Value → World → Prop) (w1 : World) (vs : Nat → Value) (Q : Act → Prop) : Nat → List Oper → Act → Prop
  | _, [], a => Q a
  | i, o :: r, a =>
    if Λ.contains i = true then
      (Region.wanted o (yielded l.toArray a.tmps) = true ∧ ∀ W, C1 w1 W → Facts l Λ S vs i W → yldUpon P (fun u W' => Below W.heap.size W W' ∧ S i u W') ((execOp a.eval o).run P W)) ∧ WQ P l Λ S w1 vs Q (i + 1) r (a.put o.dst (vs i))
    else
      ∃ v, ((Region.wanted o (yielded l.toArray a.tmps) = true ∧ ∀ W, C1 w1 W → Facts l Λ S vs i W → o.quietAt P a (C1 w1) W v) ∨ (Region.wanted o (yielded l.toArray a.tmps) = false ∧ v = undef)) ∧ WQ P l Λ S w1 vs Q (i + 1) r (a.put o.dst v)

section
variable {P : Program} {l : List Oper} {Λ : List Nat} {S : Nat → Value → World → Prop} {w1 : World} {vs : Nat → Value} {Qf : Act → Prop} {i : Nat} {o : Oper} {r : List Oper} {a : Act}

theorem WQ.nil (h : Qf a) : WQ P l Λ S w1 vs Qf i [] a := h
/-- An operation that reads, computes, calls what leaves old memory alone. -/
theorem WQ.want (hΛ : Λ.contains i = false) (hw : Region.wanted o (yielded l.toArray a.tmps) = true) (h : ∀ K : Act → Prop, (∀ a, WQ P l Λ S w1 vs Qf (i + 1) r a → K a) → o.quiet P a (fun w' => ∃ p : Regrown, w' = grow (redrawn w1 p.d) p.os) K) : WQ P l Λ S w1 vs Qf i (o :: r) a := by
  unfold WQ
  rw [if_neg (by rw [hΛ]; simp)]
  obtain ⟨v, h1, h2⟩ := h _ (fun _ h => h)
  exact ⟨v, Or.inl ⟨hw, fun W hW _ => h1 W hW⟩, h2⟩
theorem WQ.skip (hΛ : Λ.contains i = false) (hw : Region.wanted o (yielded l.toArray a.tmps) = false) (h : WQ P l Λ S w1 vs Qf (i + 1) r (a.put o.dst undef)) : WQ P l Λ S w1 vs Qf i (o :: r) a := by
  unfold WQ
  rw [if_neg (by rw [hΛ]; simp)]
  exact ⟨undef, Or.inr ⟨hw, rfl⟩, h⟩
/-- One that leans on what is known of new values. -/
theorem WQ.fact (hΛ : Λ.contains i = false) (hw : Region.wanted o (yielded l.toArray a.tmps) = true) (v : Value) (h : ∀ W, Below w1.heap.size w1 W → Facts l Λ S vs i W → o.quietAt P a (C1 w1) W v) (hr : WQ P l Λ S w1 vs Qf (i + 1) r (a.put o.dst v)) : WQ P l Λ S w1 vs Qf i (o :: r) a := by
  unfold WQ
  rw [if_neg (by rw [hΛ]; simp)]
  exact ⟨v, Or.inl ⟨hw, fun W hW hf => h W hW.below hf⟩, hr⟩
/-- One that yields something new. -/
theorem WQ.new (hΛ : Λ.contains i = true) (hw : Region.wanted o (yielded l.toArray a.tmps) = true) (h : ∀ W, Below w1.heap.size w1 W → Facts l Λ S vs i W → yldUpon P (fun u W' => Below W.heap.size W W' ∧ S i u W') ((execOp a.eval o).run P W))
    (hr : WQ P l Λ S w1 vs Qf (i + 1) r (a.put o.dst (vs i))) : WQ P l Λ S w1 vs Qf i (o :: r) a := by
  unfold WQ
  rw [if_pos hΛ]
  exact ⟨⟨hw, fun W hW hf => h W hW.below hf⟩, hr⟩
end

/-- A call met by its contract, in either kind of operation. -/
theorem calls_fact {P : Program} {f : FuncId} {args : Array Value} {w1 W : World} {v : Value} (hb : Below w1.heap.size w1 W) (h : Calls P f args W fun e w'' => e = .returned v ∧ Below W.heap.size W w'') : Calls P f args W fun e w'' => e = .returned v ∧ C1 w1 w'' :=
  h.mono fun _ _ ⟨he, hb2⟩ => ⟨he, C1.of (below_step hb hb2)⟩

section
variable {P : Program} {Q : Exit → Act → World → Prop} {a : Act} {w : World} {l : List Oper} {n : Nat} {Λ : List Nat} {S : Nat → Value → World → Prop}

structure RelOk (l : List Oper) (n : Nat) : Prop where
  sel : ∀ (j : Nat) (o : Oper) cs b, l.toArray[j]? = some o → o.op ≠ .select cs b
  le : n ≤ l.length
  back : backB l.toArray = true
  share : ∀ i k x y, i < n → k < i → l.toArray[i]? = some x → l.toArray[k]? = some y → (shareB l.toArray x y = true → Anc l.toArray i k) ∧ (∀ d, x.dst = some d → y.dst ≠ some d)
  tail : ∀ i k, n ≤ i → i < l.length → k < i → Anc l.toArray i k
  mask : ∀ j i, ((ancs l []).getD j 0).testBit i = true → Anc l.toArray j i

theorem relOk (h : relB l n = true) : RelOk l n := by
  unfold relB at h
  simp only [Bool.and_eq_true, decide_eq_true_eq, List.all_eq_true, List.mem_range] at h
  obtain ⟨⟨⟨⟨h1, h2⟩, h3⟩, h4⟩, h5⟩ := h
  have hanc := ancs_spec l.toArray l [] (by simp) (by simp)
  refine ⟨Region.noSelect_spec h1, h2, h3, ?_, ?_, hanc⟩
  · intro i k x y hi hk hx hy
    have h6 := h4 i hi k hk
    rw [hx, hy] at h6
    simp only [Bool.and_eq_true, Bool.or_eq_true, Bool.not_eq_true'] at h6
    obtain ⟨h7, h9⟩ := h6
    refine ⟨fun hs => hanc _ _ (h7.resolve_left (by rw [hs]; simp)), fun d hd hy2 => ?_⟩
    rw [hd, hy2] at h9; simp at h9
  · intro i k hi hl hk
    have h6 := h5 i hl
    simp only [Bool.or_eq_true, decide_eq_true_eq, List.all_eq_true, List.mem_range] at h6
    exact hanc _ _ ((h6.resolve_left (by omega)) k hk)

theorem dst_one2 (ok : RelOk l n) {j k t : Nat} (hj : j < n) (hk : k < n) (h1 : dstOf l.toArray j = some t) (h2 : dstOf l.toArray k = some t) : j = k := by
  obtain ⟨x, hx, hxd⟩ := dst_get h1
  obtain ⟨y, hy, hyd⟩ := dst_get h2
  rcases Nat.lt_trichotomy j k with h | h | h
  · exact ((ok.share k j y x hk h hy hx).2 t hyd hxd).elim
  · exact h
  · exact ((ok.share j k x y hj h hx hy).2 t hxd hyd).elim

/-- What the walk gives, operation by operation. -/
theorem wq_vals {w1 : World} {vs : Nat → Value} {Qf : Act → Prop} : ∀ (r : List Oper) (i0 : Nat) (a : Act), WQ P l Λ S w1 vs Qf i0 r a →
    ∃ vals : Nat → Value, (∀ i o, r[i]? = some o → (Λ.contains (i0 + i) = true → vals i = vs (i0 + i) ∧ Region.wanted o (yielded l.toArray (puts r.toArray vals (fun _ => true) a i).tmps) = true ∧ ∀ W, C1 w1 W → Facts l Λ S vs (i0 + i) W → yldUpon P (fun u W' => Below W.heap.size W W' ∧ S (i0 + i) u W') ((execOp (puts r.toArray vals (fun _ => true) a i).eval o).run P W)) ∧
        (Λ.contains (i0 + i) = false → (Region.wanted o (yielded l.toArray (puts r.toArray vals (fun _ => true) a i).tmps) = true ∧ ∀ W, C1 w1 W → Facts l Λ S vs (i0 + i) W → o.quietAt P (puts r.toArray vals (fun _ => true) a i) (C1 w1) W (vals i)) ∨ (Region.wanted o (yielded l.toArray (puts r.toArray vals (fun _ => true) a i).tmps) = false ∧ vals i = undef))) ∧
      Qf (puts r.toArray vals (fun _ => true) a r.length)
  | [], _, a, h => ⟨fun _ => undef, fun i o hi => by simp at hi, h⟩
  | o :: r, i0, a, h => by
    have hst : ∃ v, ((Λ.contains i0 = true → v = vs i0 ∧ Region.wanted o (yielded l.toArray a.tmps) = true ∧ ∀ W, C1 w1 W → Facts l Λ S vs i0 W → yldUpon P (fun u W' => Below W.heap.size W W' ∧ S i0 u W') ((execOp a.eval o).run P W)) ∧
        (Λ.contains i0 = false → (Region.wanted o (yielded l.toArray a.tmps) = true ∧ ∀ W, C1 w1 W → Facts l Λ S vs i0 W → o.quietAt P a (C1 w1) W v) ∨ (Region.wanted o (yielded l.toArray a.tmps) = false ∧ v = undef))) ∧ WQ P l Λ S w1 vs Qf (i0 + 1) r (a.put o.dst v) := by
      unfold WQ at h
      by_cases hc : Λ.contains i0 = true
      · rw [if_pos hc] at h
        exact ⟨vs i0, ⟨fun _ => ⟨rfl, h.1.1, h.1.2⟩, fun h2 => by rw [hc] at h2; cases h2⟩, h.2⟩
      · rw [if_neg hc] at h
        obtain ⟨v, h1, h2⟩ := h
        exact ⟨v, ⟨fun h3 => absurd h3 hc, fun _ => h1⟩, h2⟩
    obtain ⟨v, hy, hr⟩ := hst
    obtain ⟨vals, h1, h2⟩ := wq_vals r (i0 + 1) _ hr
    have key : ∀ n, puts (o :: r).toArray (fun i => match i with | 0 => v | i + 1 => vals i) (fun _ => true) a (n + 1) = puts r.toArray vals (fun _ => true) (a.put o.dst v) n := by
      intro n
      induction n with
      | zero => simp [puts, dstOf]
      | succ n ih =>
        rw [puts, if_pos rfl, ih]
        conv => rhs; rw [puts, if_pos rfl]
        simp [dstOf]
    refine ⟨fun i => match i with | 0 => v | i + 1 => vals i, fun i o' hi => ?_, ?_⟩
    · cases i with
      | zero => simp at hi; subst hi; exact hy
      | succ i =>
        have h3 := h1 i o' (by simpa using hi)
        rw [key, show i0 + (i + 1) = i0 + 1 + i by omega]
        exact h3
    · rw [List.length_cons, key]; exact h2

theorem wpOp_of_quietAt {ops : Array Oper} {i : Nat} {o : Oper} {A : Act} {W : World} {C : World → Prop} {v : Value} {K : Act → World → Prop} (ho : ops[i]? = some o) (hw : Region.wanted o (yielded ops A.tmps) = true) (hC : C W)
    (h : o.quietAt P A C W v) (hK : ∀ w', C w' → K (A.put o.dst v) w') : wpOp P ops Q i K A W := by
  unfold wpOp
  simp only [ho, hw, if_true]
  refine Or.inl ?_
  unfold Oper.quietAt at h
  unfold Oper.wp
  generalize (execOp A.eval o).run P W = r at *
  cases r with
  | ok nx w' =>
    cases nx <;> simp only [Oper.quietUpon] at h <;> simp only [Oper.upon]
    case value u =>
      obtain ⟨e1, e2⟩ := h
      rw [e1, e2]
      exact hK _ hC
    case skip =>
      obtain ⟨e1, e2⟩ := h
      rw [e1, ← e2]
      exact hK _ hC
    case enter f args =>
      obtain ⟨e1, hc⟩ := h
      rw [e1]
      exact hc.mono fun e w'' ⟨he, hw''⟩ => by subst he; exact hK _ hw''
  | halt x w' => simp only [Oper.quietUpon] at h
theorem wpOp_of_yld {ops : Array Oper} {i : Nat} {o : Oper} {A : Act} {W : World} {R : Value → World → Prop} {K : Act → World → Prop} (ho : ops[i]? = some o) (hw : Region.wanted o (yielded ops A.tmps) = true)
    (h : yldUpon P R ((execOp A.eval o).run P W)) (hK : ∀ u w', R u w' → K (A.put o.dst u) w') : wpOp P ops Q i K A W := by
  unfold wpOp
  simp only [ho, hw, if_true]
  refine Or.inl ?_
  unfold Oper.wp
  generalize (execOp A.eval o).run P W = r at *
  cases r with
  | ok nx w' =>
    cases nx <;> simp only [yldUpon] at h <;> simp only [Oper.upon]
    case value u => exact hK _ _ h
    case skip => exact hK _ _ h
    case enter f args =>
      exact h.mono fun e w'' ⟨u, he, hw''⟩ => by subst he; exact hK _ _ hw''
  | halt x w' => simp only [yldUpon] at h

theorem puts_congr_put {ops : Array Oper} {v v' : Nat → Value} {L : Nat → Bool} {m : Nat} (h : ∀ k, k < m → L k = true → ∀ B : Act, B.tmps.size = a.tmps.size → B.put (dstOf ops k) (v k) = B.put (dstOf ops k) (v' k)) : puts ops v L a m = puts ops v' L a m := by
  induction m with
  | zero => rfl
  | succ m ih =>
    unfold puts
    rw [ih (fun k hk => h k (by omega))]
    split
    · rename_i hL
      exact h m (by omega) hL _ (puts_size m)
    · rfl

def RelInv (P : Program) (l : List Oper) (n : Nat) (Λ : List Nat) (S : Nat → Value → World → Prop) (Q : Exit → Act → World → Prop) (a : Act) (w : World) (F : (Nat → Value) → Act) (L : Nat → Bool) (A : Act) (W : World) : Prop :=
  Clo l.toArray L ∧
  (((∃ i, i < n ∧ L i = false) ∧ (∀ t, n ≤ t → L t = false) ∧ Below w.heap.size w W ∧ ∃ vs, A = puts l.toArray (valsOf l (F vs)) L a n ∧ ∀ k, k ∈ Λ → L k = true → S k (vs k) W) ∨
   ((∀ i, i < n → L i = true) ∧ ∃ p, n ≤ p ∧ p ≤ l.length ∧ (∀ t, n ≤ t → t < l.length → L t = decide (t < p)) ∧ wpList P l.toArray Q (l.drop p) A W))

theorem relInv_start (ok : RelOk l n) {F : (Nat → Value) → Act} (hlt : ∀ k, k ∈ Λ → k < n) (hFe : ∀ vs, puts l.toArray (valsOf l (F vs)) (fun _ => true) a n = F vs)
    (hT : ∀ vs w', Below w.heap.size w w' → (∀ k, k ∈ Λ → S k (vs k) w') → wpList P l.toArray Q (l.drop n) (F vs) w')
    {L : Nat → Bool} {A : Act} {W : World} (hc : Clo l.toArray L) (ht : ∀ t, n ≤ t → L t = false) (hb : Below w.heap.size w W) {vs : Nat → Value} (hA : A = puts l.toArray (valsOf l (F vs)) L a n) (hS : ∀ k, k ∈ Λ → L k = true → S k (vs k) W) :
    RelInv P l n Λ S Q a w F L A W := by
  refine ⟨hc, ?_⟩
  by_cases h : ∃ i, i < n ∧ L i = false
  · exact Or.inl ⟨h, ht, hb, vs, hA, hS⟩
  · have hall : ∀ i, i < n → L i = true := by
      intro i hi
      cases hL : L i with
      | true => rfl
      | false => exact (h ⟨i, hi, hL⟩).elim
    refine Or.inr ⟨hall, n, Nat.le_refl _, ok.le, fun t h1 _ => by rw [ht t h1]; simp; omega, ?_⟩
    rw [hA, puts_congr (L' := fun _ => true) (v' := valsOf l (F vs)) (fun k hk => hall k hk) (fun _ _ _ => rfl), hFe]
    exact hT vs W hb (fun k hk => hS k hk (hall k (hlt k hk)))

/-- **One walk of the text's order serves every order**, where operations yield what only a property tells. -/
theorem wp_region_rel {id : Nat} (n : Nat) (Λ : List Nat) (S : Nat → Value → World → Prop) (hm : P.follows .mixedOrders = true) (hB : relB l n = true) (hΛ : (Λ.all fun k => decide (k < n)) = true)
    (hSm : ∀ k v W W', S k v W → Below W.heap.size W W' → S k v W') (F : (Nat → Value) → Act)
    (hF : ∀ w1, Below w.heap.size w w1 → ∀ vs, WQ P l Λ S w1 vs (fun a' => a' = F vs) 0 (l.take n) a)
    (hind : ∀ vs vs', puts l.toArray (fun _ => undef) (fun k => Λ.contains k) (F vs) n = puts l.toArray (fun _ => undef) (fun k => Λ.contains k) (F vs') n)
    (hT : ∀ vs w', Below w.heap.size w w' → (∀ k, k ∈ Λ → S k (vs k) w') → wpList P l.toArray Q (l.drop n) (F vs) w') :
    (Code.region id l.toArray true).wp P Q a w := by
  have ok := relOk hB
  have hle := ok.le
  have hlt : ∀ k, k ∈ Λ → k < n := fun k hk => by simpa using List.all_eq_true.1 hΛ k hk
  have hlen : (l.take n).length = n := by simp; omega
  have hph : ∀ (v : Nat → Value) (M : Nat → Bool) k, k ≤ n → puts (l.take n).toArray v M a k = puts l.toArray v M a k := by
    intro v M k
    induction k with
    | zero => intro _; rfl
    | succ k ih =>
      intro hk
      have e : dstOf (l.take n).toArray k = dstOf l.toArray k := by
        unfold dstOf
        rw [List.getElem?_toArray, List.getElem?_toArray, List.getElem?_take, if_pos (by omega)]
      unfold puts
      rw [ih (by omega), e]
  -- the values are those of the last frame
  have hpv : ∀ {v : Nat → Value} {G : Act}, puts l.toArray v (fun _ => true) a n = G → ∀ k, k ≤ n → puts l.toArray v (fun _ => true) a k = puts l.toArray (valsOf l G) (fun _ => true) a k := by
    intro v G hG k
    induction k with
    | zero => intro _; rfl
    | succ k ih =>
      intro hk
      have ih' := ih (by omega)
      have e1 : puts l.toArray v (fun _ => true) a (k + 1) = (puts l.toArray v (fun _ => true) a k).put (dstOf l.toArray k) (v k) := by rw [puts, if_pos rfl]
      have e2 : puts l.toArray (valsOf l G) (fun _ => true) a (k + 1) = (puts l.toArray (valsOf l G) (fun _ => true) a k).put (dstOf l.toArray k) (valsOf l G k) := by rw [puts, if_pos rfl]
      rw [e1, e2, ← ih']
      cases hd : dstOf l.toArray k with
      | none => rfl
      | some d =>
        have hv : valsOf l G k = G.tmps.getD d undef := by unfold valsOf; rw [hd]
        rw [hv]
        refine put_eq_of (by rw [← hG, puts_size, puts_size]) ?_
        rw [← hG, puts_beyond (i := k + 1) hk, e1, hd]
        intro j hj1 hj2 _ hj3
        have := dst_one2 ok hj2 (show k < n by omega) hj3 hd; omega
  have hvals : ∀ w1, Below w.heap.size w w1 → ∀ vs, ∃ vals : Nat → Value, puts l.toArray vals (fun _ => true) a n = F vs ∧ ∀ i o, i < n → l.toArray[i]? = some o →
      (Λ.contains i = true → vals i = vs i ∧ Region.wanted o (yielded l.toArray (puts l.toArray (valsOf l (F vs)) (fun _ => true) a i).tmps) = true ∧ ∀ W, C1 w1 W → Facts l Λ S vs i W → yldUpon P (fun u W' => Below W.heap.size W W' ∧ S i u W') ((execOp (puts l.toArray (valsOf l (F vs)) (fun _ => true) a i).eval o).run P W)) ∧
      (Λ.contains i = false → (Region.wanted o (yielded l.toArray (puts l.toArray (valsOf l (F vs)) (fun _ => true) a i).tmps) = true ∧ ∀ W, C1 w1 W → Facts l Λ S vs i W → o.quietAt P (puts l.toArray (valsOf l (F vs)) (fun _ => true) a i) (C1 w1) W (vals i)) ∨ (Region.wanted o (yielded l.toArray (puts l.toArray (valsOf l (F vs)) (fun _ => true) a i).tmps) = false ∧ vals i = undef)) := by
    intro w1 hw1 vs
    obtain ⟨vals, h1, h2⟩ := wq_vals _ _ _ (hF w1 hw1 vs)
    rw [hlen, hph _ _ n (Nat.le_refl _)] at h2
    have hp := hpv h2
    refine ⟨vals, h2, fun i o hi ho => ?_⟩
    have h3 := h1 i o (by rw [List.getElem?_take, if_pos hi]; simpa using ho)
    rw [hph _ _ i (Nat.le_of_lt hi), hp i (Nat.le_of_lt hi), Nat.zero_add] at h3
    exact h3
  have hFe : ∀ vs, puts l.toArray (valsOf l (F vs)) (fun _ => true) a n = F vs := by
    intro vs
    obtain ⟨vals, h1, _⟩ := hvals w (Below.refl _ _) vs
    rw [← hpv h1 n (Nat.le_refl _)]; exact h1
  have hsF : ∀ vs, (F vs).tmps.size = a.tmps.size := fun vs => by rw [← hFe vs, puts_size]
  -- a value put: what the walk found, or what the last frame holds
  have hput : ∀ vs (vals : Nat → Value) k, k < n → puts l.toArray vals (fun _ => true) a n = F vs → ∀ B : Act, B.tmps.size = a.tmps.size → B.put (dstOf l.toArray k) (valsOf l (F vs) k) = B.put (dstOf l.toArray k) (vals k) := by
    intro vs vals k hk hv B hBs
    cases hd : dstOf l.toArray k with
    | none => rfl
    | some d =>
      have hvo : valsOf l (F vs) k = (F vs).tmps.getD d undef := by unfold valsOf; rw [hd]
      rw [hvo]
      symm
      refine put_eq_of (by rw [hBs, hsF]) ?_
      rw [← hv, puts_hit (fun j h1 h2 h3 => by have := dst_one2 ok h2 hk h3 hd; omega) hk rfl hd]
      exact put_get_eq hBs.symm _ _
  have hVE : ∀ vs k, k ∈ Λ → ∀ B : Act, B.tmps.size = a.tmps.size → B.put (dstOf l.toArray k) (valsOf l (F vs) k) = B.put (dstOf l.toArray k) (vs k) := by
    intro vs k hk B hBs
    obtain ⟨vals, h1, h2⟩ := hvals w (Below.refl _ _) vs
    have hkn := hlt k hk
    rw [hput vs vals k hkn h1 B hBs]
    obtain ⟨o, ho⟩ : ∃ o, l.toArray[k]? = some o := ⟨l[k]'(by omega), by simp [show k < l.length by omega]⟩
    rw [((h2 k o hkn ho).1 (by simpa using hk)).1]
  have hVI : ∀ vs vs' k, k < n → Λ.contains k = false → valsOf l (F vs) k = valsOf l (F vs') k := by
    intro vs vs' k hk hkΛ
    unfold valsOf
    cases hd : dstOf l.toArray k with
    | none => rfl
    | some d =>
      have h1 := congrArg (fun X : Act => X.tmps[d]?) (hind vs vs')
      have h2 : ∀ u, (puts l.toArray (fun _ => undef) (fun k => Λ.contains k) (F u) n).tmps[d]? = (F u).tmps[d]? := by
        intro u
        refine puts_miss (fun j hj hLj hdj => ?_)
        have := dst_one2 ok hj hk hdj hd
        subst this
        rw [hkΛ] at hLj; cases hLj
      simp only [h2] at h1
      simp only [Array.getD_eq_getD_getElem?, h1]
  refine wp_region_any hm (wpAny_inv3 ok.back (RelInv P l n Λ S Q a w F) ?_ ?_ _ _ _ _ (by simp) ?_ ?_)
  · intro i o ho L A W hL hI hd
    obtain ⟨hc, hI⟩ := hI
    have his : i < l.length := by simpa using (Array.getElem?_eq_some_iff.1 ho).1
    rcases hI with ⟨hex, ht, hb, vs, hA, hS⟩ | ⟨hall, p, hp1, hp2, hp3, hw⟩
    · by_cases hin : i < n
      · have hdi : dstOf l.toArray i = o.dst := by simp [dstOf, ho]
        have hfree : ∀ k, i < k → k < n → L k = true → ∀ d, dstOf l.toArray k = some d → dstOf l.toArray i ≠ some d := by
          intro k hk1 hk2 _ d hkd hid
          have := dst_one2 ok hk2 hin hkd hid; omega
        have ht' : ∀ t, n ≤ t → (fun j => j == i || L j) t = false := by
          intro t h1
          have : (t == i) = false := by simpa using (show t ≠ i by omega)
          simp [this, ht t h1]
        have hag : ∀ t, t ∈ o.looksAt l.toArray → A.tmps[t]? = (puts l.toArray (valsOf l (F vs)) (fun _ => true) a i).tmps[t]? := by
          intro t htl
          rw [hA, puts_beyond (i := i) (Nat.le_of_lt hin)]
          · refine puts_same (fun k hk hkd => ?_)
            obtain ⟨y, hyy, hyd⟩ := dst_get hkd
            have hs := ok.share i k o y hin hk ho hyy
            have hsh : shareB l.toArray o y = true := by rw [shareB_comm]; exact share_dst hyd (Or.inr htl)
            exact ⟨anc_done hc (hs.1 hsh) (fun o' ho' => by rw [ho] at ho'; obtain rfl := Option.some.inj ho'; exact hd), rfl, rfl⟩
          · intro k hk1 hk2 hk3 hkd
            by_cases e : k = i
            · subst e; rw [hL] at hk3; cases hk3
            · obtain ⟨y, hyy, hyd⟩ := dst_get hkd
              have hs := ok.share k i y o hk2 (by omega) hyy ho
              have := anc_done hc (hs.1 (share_dst hyd (Or.inr htl))) (fun o' ho' => hc k o' ho' hk3)
              rw [hL] at this; cases this
        have hex2 : execOp A.eval o = execOp (puts l.toArray (valsOf l (F vs)) (fun _ => true) a i).eval o := execOp_congr o (fun cs b => ok.sel i o cs b ho) (evalAgree hag)
        have hwa := wantAgree hag
        have hAs : A.tmps.size = a.tmps.size := by rw [hA, puts_size]
        have hfacts : Facts l Λ S vs i W := fun k hk hbit =>
          hS k hk (anc_done hc (ok.mask i k hbit) (fun o' ho' => by rw [ho] at ho'; obtain rfl := Option.some.inj ho'; exact hd))
        obtain ⟨vals, hv1, hv2⟩ := hvals W hb vs
        obtain ⟨hnew, hold⟩ := hv2 i o hin ho
        by_cases hiΛ : Λ.contains i = true
        · obtain ⟨_, hw, hy⟩ := hnew hiΛ
          have hy2 := hy W (C1.self W) hfacts
          rw [← hex2] at hy2
          refine wpOp_of_yld ho (by rw [hwa]; exact hw) hy2 (fun u w' hR => ?_)
          obtain ⟨hbw, hSi⟩ := hR
          refine relInv_start ok hlt hFe hT (clo_add hc ho hd) ht' (hb.trans (hbw.mono hb.size)) (vs := fun k => if k = i then u else vs k) ?_ ?_
          · rw [puts_add hin hL hfree, hA, hdi]
            have hiL : i ∈ Λ := by simpa using hiΛ
            have e1 := hVE (fun k => if k = i then u else vs k) i hiL
            rw [hdi] at e1
            rw [e1 _ (puts_size n)]
            simp only [↓reduceIte]
            congr 1
            refine puts_congr_put (fun k hk hLk B hBs => ?_)
            have hki : k ≠ i := fun e => by rw [e, hL] at hLk; cases hLk
            by_cases hkΛ : Λ.contains k = true
            · have hkm : k ∈ Λ := by simpa using hkΛ
              rw [hVE _ k hkm B hBs, hVE _ k hkm B hBs, if_neg hki]
            · rw [hVI vs (fun k => if k = i then u else vs k) k hk (by simpa using hkΛ)]
          · intro k hk hLk
            by_cases hki : k = i
            · subst hki; simp only [↓reduceIte]; exact hSi
            · have : (k == i) = false := by simpa using hki
              simp only [this, Bool.false_or] at hLk
              simp only [if_neg hki]
              exact hSm _ _ _ _ (hS k hk hLk) hbw
        · have hiΛ' : Λ.contains i = false := by simpa using hiΛ
          have hfin : ∀ w', Below W.heap.size W w' → RelInv P l n Λ S Q a w F (fun j => j == i || L j) (A.put o.dst (vals i)) w' := by
            intro w' hbw
            refine relInv_start ok hlt hFe hT (clo_add hc ho hd) ht' (hb.trans (hbw.mono hb.size)) (vs := vs) ?_ ?_
            · rw [puts_add hin hL hfree, hA, hput vs vals i hin hv1 _ (puts_size n), hdi]
            · intro k hk hLk
              have hki : (k == i) = false := by
                have : k ≠ i := fun e => by subst e; exact hiΛ (by simpa using hk)
                simpa using this
              simp only [hki, Bool.false_or] at hLk
              exact hSm _ _ _ _ (hS k hk hLk) hbw
          rcases hold hiΛ' with ⟨hw, hy⟩ | ⟨hw, hv⟩
          · have hy2 := hy W (C1.self W) hfacts
            unfold Oper.quietAt at hy2
            rw [← hex2] at hy2
            exact wpOp_of_quietAt ho (by rw [hwa]; exact hw) (C1.self W) hy2 (fun w' hw' => hfin w' hw'.below)
          · unfold wpOp
            simp only [ho]
            rw [if_neg (by rw [hwa, hw]; simp), ← hv]
            exact hfin W (Below.refl _ _)
      · exfalso
        obtain ⟨j, hj, hLj⟩ := hex
        have := anc_done hc (ok.tail i j (by omega) his (by omega)) (fun o' ho' => by rw [ho] at ho'; obtain rfl := Option.some.inj ho'; exact hd)
        rw [hLj] at this; cases this
    · have hin : n ≤ i := by
        rcases Nat.lt_or_ge i n with h | h
        · rw [hall i h] at hL; cases hL
        · exact h
      have hip : i = p := by
        have h1 : ¬ i < p := by
          intro h; rw [hp3 i hin his] at hL; simp [h] at hL
        rcases Nat.lt_or_ge p i with h | h
        · exfalso
          have := anc_done hc (ok.tail i p (by omega) his h) (fun o' ho' => by rw [ho] at ho'; obtain rfl := Option.some.inj ho'; exact hd)
          rw [hp3 p hp1 (by omega)] at this; simp at this
        · omega
      subst hip
      have hdrop : l.drop i = o :: l.drop (i + 1) := by
        rw [List.drop_eq_getElem_cons his]
        have : l[i] = o := by simpa [his] using ho
        rw [this]
      rw [hdrop] at hw
      have hw2 : wpOp P l.toArray Q i (wpList P l.toArray Q (l.drop (i + 1))) A W := by
        unfold wpOp; simp only [ho]; exact hw
      refine wpOp_mono (fun a' w' h => ?_) hw2
      refine ⟨clo_add hc ho hd, Or.inr ⟨fun j hj => by simp [hall j hj], i + 1, by omega, by omega, fun t h1 h2 => ?_, h⟩⟩
      have := hp3 t h1 h2
      by_cases e : t = i
      · subst e; simp
      · have e2 : (t == i) = false := by simpa using e
        simp only [e2, Bool.false_or, this]
        simp only [decide_eq_decide]; omega
  · intro L A W hL hI
    obtain ⟨_, hI⟩ := hI
    rcases hI with ⟨⟨i, hi, hLi⟩, _⟩ | ⟨_, p, hp1, hp2, hp3, hw⟩
    · rw [hL i (by simp; omega)] at hLi; cases hLi
    · have hpl : p = l.length := by
        rcases Nat.lt_or_ge p l.length with h | h
        · have h1 := hL p (by simpa using h)
          rw [hp3 p hp1 h] at h1; simp at h1
        · omega
      subst hpl
      simpa [wpList] using hw
  · have : ∀ m, m ≤ l.toArray.size → unl m (Array.replicate l.toArray.size false) = m := by
      intro m
      induction m with
      | zero => intro _; rfl
      | succ m ih =>
        intro hm
        have hm' : m < l.length := by simp at hm; omega
        rw [unl_succ, ih (by omega), if_pos (by simp [hm'])]
    exact this _ (Nat.le_refl _)
  · have e : (fun j => (Array.replicate l.toArray.size false).getD j false) = fun _ => false := by
      funext j
      by_cases h : j < l.length
      · simp [h]
      · simp [h]
    rw [e]
    refine relInv_start ok hlt hFe hT (fun j o _ h => by cases h) (fun _ _ => rfl) ⟨rfl, rfl, rfl, Nat.le_refl _, fun _ _ => rfl⟩ (vs := fun _ => undef) ?_ (fun k _ h => (by cases h))
    have : ∀ k, puts l.toArray (valsOf l (F fun _ => undef)) (fun _ => false) a k = a := by
      intro k
      induction k with
      | zero => rfl
      | succ k ih => unfold puts; simp [ih]
    exact (this n).symm
end
end Go.Proofs.Ytbldgpemocnboaa

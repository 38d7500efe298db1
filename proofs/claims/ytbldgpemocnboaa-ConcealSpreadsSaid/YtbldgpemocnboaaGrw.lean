/- A region that draws its order, in which blocks are made and handed on: a chain of operations (each waits for the one before) that make memory, beside operations that read, and at the end stores. One walk serves every order. -/
import Derived.Test.YtbldgpemocnboaaDet
import Derived.Test.YtbldgpemocnboaaOb
namespace Go.Proofs.Ytbldgpemocnboaa
open Go.RowKit Go.Sort

/-- The chain: before each of its operations others may have made blocks. -/
def GrowL (P : Program) (ops : Array Oper) : List Oper → Act → World → (Act → World → Prop) → Prop
  | [], a, w, K => ∀ w', Below w.heap.size w w' → K a w'
  | o :: r, a, w, K => ∀ w', Below w.heap.size w w' → wpList P ops (Only fun a' w'' => a'.defers = a.defers ∧ Below w'.heap.size w' w'' ∧ GrowL P ops r a' w'' K) [o] a w'

theorem GrowL.later {P : Program} {ops : Array Oper} {r : List Oper} {a : Act} {w w1 : World} {K : Act → World → Prop} (h : GrowL P ops r a w K) (hb : Below w.heap.size w w1) : GrowL P ops r a w1 K := by
  cases r with
  | nil => intro w' hw'; exact h w' (below_step hb hw')
  | cons o r => intro w' hw'; exact h w' (below_step hb hw')

def neutral (o : Oper) : Oper := { o with op := .move (.const undef), guard := none }
def muteG (gs : List Nat) : Nat → List Oper → List Oper
  | _, [] => []
  | k, o :: r => (if gs.contains k then neutral o else mute o) :: muteG gs (k + 1) r
theorem muteG_get (gs : List Nat) : ∀ (l : List Oper) (k i : Nat), (muteG gs k l)[i]? = (l[i]?).map fun o => if gs.contains (k + i) then neutral o else mute o
  | [], k, i => by simp [muteG]
  | o :: r, k, 0 => by simp [muteG]
  | o :: r, k, i + 1 => by
    simp only [muteG, List.getElem?_cons_succ]
    rw [muteG_get gs r (k + 1) i, show k + 1 + i = k + (i + 1) by omega]
theorem muteG_len (gs : List Nat) : ∀ (l : List Oper) (k : Nat), (muteG gs k l).length = l.length
  | [], _ => rfl
  | o :: r, k => by simp [muteG, muteG_len gs r (k + 1)]

/-- The checks: as detB, and of the chain. -/
def grwB (l : List Oper) (n : Nat) (gs : List Nat) : Bool :=
  let ops := l.toArray
  let m := ancs l []
  Region.noSelect ops && decide (n ≤ l.length) && backB ops &&
  ((List.range n).all fun i => (List.range i).all fun k => match ops[i]?, ops[k]? with
    | some x, some y => (!shareB ops x y || (m.getD i 0).testBit k) && (!(isAlloc x || isAlloc y) || !shareB ops x y) && (!x.dst.isSome || x.dst != y.dst)
    | _, _ => false) &&
  ((List.range l.length).all fun i => decide (i < n) || ((List.range i).all fun k => (m.getD i 0).testBit k)) &&
  (gs.all fun g => decide (g < n) && (match ops[g]? with
    | some o => !isAlloc o && o.guard.isNone && ((List.range n).all fun k => match ops[k]? with
      | some y => (gs.contains k || (match o.dst with | some d => !(namesOf ops y).contains d | none => true)) && (decide (k < g) || (match y.dst with | some d => !(o.looksAt ops).contains d | none => true))
      | none => false)
    | none => false)) &&
  ((List.range gs.length).all fun j => (List.range j).all fun k => (m.getD (gs.getD j 0) 0).testBit (gs.getD k 0) && decide (gs.getD k 0 < gs.getD j 0))

section
variable {P : Program} {Q : Exit → Act → World → Prop} {a : Act} {w : World} {l : List Oper} {n : Nat} {gs : List Nat}

structure GrwOk (l : List Oper) (n : Nat) (gs : List Nat) : Prop where
  ok : DetOk l n
  lt : ∀ g ∈ gs, g < n
  plain : ∀ g ∈ gs, ∀ o, l.toArray[g]? = some o → isAlloc o = false ∧ o.guard = none
  apart : ∀ g ∈ gs, ∀ o, l.toArray[g]? = some o → ∀ k y, k < n → l.toArray[k]? = some y →
    (gs.contains k = false → ∀ d, o.dst = some d → d ∉ namesOf l.toArray y) ∧ (g ≤ k → ∀ d, y.dst = some d → d ∉ o.looksAt l.toArray)
  chain : ∀ j k, j < gs.length → k < j → Anc l.toArray (gs.getD j 0) (gs.getD k 0) ∧ gs.getD k 0 < gs.getD j 0

theorem grwOk (h : grwB l n gs = true) : GrwOk l n gs := by
  unfold grwB at h
  simp only [Bool.and_eq_true, decide_eq_true_eq, List.all_eq_true, List.mem_range] at h
  obtain ⟨⟨⟨⟨⟨⟨h1, h2⟩, h3⟩, h4⟩, h5⟩, h6⟩, h7⟩ := h
  have hd : detB l n = true := by
    unfold detB
    simp only [Bool.and_eq_true, decide_eq_true_eq, List.all_eq_true, List.mem_range]
    exact ⟨⟨⟨⟨h1, h2⟩, h3⟩, h4⟩, h5⟩
  have hanc := ancs_spec l.toArray l [] (by simp) (by simp)
  have hget : ∀ g ∈ gs, ∀ o, l.toArray[g]? = some o → (isAlloc o = false ∧ o.guard = none) ∧ ∀ k, k < n → (match l.toArray[k]? with
      | some y => (gs.contains k || (match o.dst with | some d => !(namesOf l.toArray y).contains d | none => true)) && (decide (k < g) || (match y.dst with | some d => !(o.looksAt l.toArray).contains d | none => true))
      | none => false) = true := by
    intro g hg o ho
    have h8 := (h6 g hg).2
    rw [ho] at h8
    simp only [Bool.and_eq_true, Bool.not_eq_true', List.all_eq_true, List.mem_range, Option.isNone_iff_eq_none] at h8
    exact ⟨⟨h8.1.1, h8.1.2⟩, h8.2⟩
  refine ⟨detOk hd, fun g hg => (h6 g hg).1, fun g hg o ho => (hget g hg o ho).1, ?_, ?_⟩
  · intro g hg o ho k y hk hy
    have h9 := (hget g hg o ho).2 k hk
    rw [hy] at h9
    simp only [Bool.and_eq_true, Bool.or_eq_true, decide_eq_true_eq] at h9
    obtain ⟨h10, h11⟩ := h9
    refine ⟨fun hkg d hd2 hm => ?_, fun hgk d hd2 hm => ?_⟩
    · rcases h10 with h10 | h10
      · rw [hkg] at h10; cases h10
      · rw [hd2] at h10; simp [hm] at h10
    · rcases h11 with h11 | h11
      · omega
      · rw [hd2] at h11; simp [hm] at h11
  · intro j k hj hk
    have h8 := h7 j hj k hk
    exact ⟨hanc _ _ h8.1, h8.2⟩

/-- One operation, run in another frame that agrees on what it looks at. -/
theorem run_agree {ops : Array Oper} {o : Oper} {A B : Act} {W : World} {R : Act → World → Prop} (hag : ∀ t, t ∈ o.looksAt ops → A.tmps[t]? = B.tmps[t]?) (hsel : ∀ cs b, o.op ≠ .select cs b) (hg : o.guard = none) (hdefs : ∀ a' W', R a' W' → a'.defers = B.defers)
    (h : wpList P ops (Only R) [o] B W) : wpList P ops (Only fun A' W' => ∃ v, A' = A.put o.dst v ∧ R (B.put o.dst v) W') [o] A W := by
  unfold wpList at *
  have hw : ∀ X : Act, Region.wanted o (yielded ops X.tmps) = true := fun X => by simp [Region.wanted, hg]
  rw [if_pos (hw B)] at h
  rw [if_pos (hw A)]
  have he : execOp A.eval o = execOp B.eval o := execOp_congr o hsel (evalAgree hag)
  rcases h with h | ⟨_, _, _, hf⟩
  · refine Or.inl ?_
    unfold Oper.wp at *
    rw [he]
    cases hr : (execOp B.eval o).run P W with
    | halt x w' =>
      rw [hr] at h
      cases x <;> simp only [Oper.upon] at h ⊢ <;> first | exact h | exact h.elim
    | ok nx w' =>
      rw [hr] at h
      cases nx with
      | value v => exact ⟨v, rfl, h⟩
      | skip => exact ⟨undef, rfl, h⟩
      | enter f args =>
        simp only [Oper.upon] at h ⊢
        exact Calls.mono h (fun e w'' he => by
          cases e with
          | returned v => exact ⟨v, rfl, he⟩
          | panicked c => exact he
          | outgrown => obtain ⟨_, _, hf⟩ := he; exact hf.elim)
      | row row args =>
        simp only [Oper.upon] at h ⊢
        exact Rows.mono h (fun v w'' he => ⟨v, rfl, he⟩)
      | defer d =>
        simp only [Oper.upon] at h
        have := hdefs _ _ h
        have e2 : (({ B with defers := d :: B.defers } : Act).put o.dst undef).defers = d :: B.defers := by cases o.dst <;> rfl
        rw [e2] at this
        exact absurd this (List.cons_ne_self _ _)
      | _ => simp only [Oper.upon] at h ⊢
  · exact hf.elim

theorem puts_hit {ops : Array Oper} {v : Nat → Value} {L : Nat → Bool} {b : Act} {k t : Nat} (hu : ∀ j, k < j → j < n → dstOf ops j ≠ some t) (hk : k < n) (hL : L k = true) (hd : dstOf ops k = some t) :
    (puts ops v L b n).tmps[t]? = (b.put (some t) (v k)).tmps[t]? := by
  rw [puts_beyond (i := k + 1) hk (fun j h1 h2 _ => hu j h1 h2), puts, if_pos hL, hd]
  exact put_get_eq (puts_size k) _ _
theorem puts_miss {ops : Array Oper} {v : Nat → Value} {L : Nat → Bool} {b : Act} {t : Nat} (h : ∀ k, k < n → L k = true → dstOf ops k ≠ some t) : (puts ops v L b n).tmps[t]? = b.tmps[t]? :=
  puts_beyond (i := 0) (Nat.zero_le _) (fun k _ h2 h3 => h k h2 h3)
theorem puts_defers {ops : Array Oper} {v : Nat → Value} {L : Nat → Bool} {b : Act} (k : Nat) : (puts ops v L b k).defers = b.defers := by
  induction k with
  | zero => rfl
  | succ k ih =>
    unfold puts
    split
    · cases dstOf ops k <;> simp [Act.put, ih]
    · exact ih
theorem act_ext {X Y : Act} (h : ∀ t : Nat, X.tmps[t]? = Y.tmps[t]?) (hd : X.defers = Y.defers) : X = Y := by
  cases X; cases Y
  simp only at h hd
  subst hd
  congr 1
  exact Array.ext_getElem? h
theorem put_hit {A B : Act} (hs : A.tmps.size = B.tmps.size) (t : Nat) : (A.put (some t) (B.tmps.getD t undef)).tmps[t]? = B.tmps[t]? := by
  simp only [Act.put, Array.getElem?_setIfInBounds]
  by_cases h : t < A.tmps.size
  · simp [h, show t < B.tmps.size by omega]
  · rw [if_pos trivial, if_neg h, Array.getElem?_eq_none (by omega)]

def vg (l : List Oper) (F : Act) (gs : List Nat) (β : Nat → Nat) (γ : Nat → Value) (k : Nat) : Value := if gs.contains k = true then γ k else vb l F β k
/-- The frame of the text's order, with what the chain has made so far. -/
def fG (l : List Oper) (n : Nat) (F : Act) (gs : List Nat) (γ : Nat → Value) (j : Nat) : Act := puts l.toArray γ (fun k => (gs.take j).contains k) F n

def GrwInv (P : Program) (l : List Oper) (n : Nat) (gs : List Nat) (Q : Exit → Act → World → Prop) (a : Act) (w : World) (F : Act) (obj : Nat → Obj) (K : Act → World → Prop) (L : Nat → Bool) (A : Act) (W : World) : Prop :=
  Clo l.toArray L ∧
  (((∃ i, i < n ∧ L i = false) ∧ (∀ t, n ≤ t → L t = false) ∧ Below w.heap.size w W ∧ ∃ β γ j, (∀ i, i < gs.length → L (gs.getD i 0) = decide (i < j)) ∧ j ≤ gs.length ∧ A = puts l.toArray (vg l F gs β γ) L a n ∧ Fresh l.toArray n w obj β L W ∧
      GrowL P l.toArray ((gs.drop j).filterMap (l.toArray[·]?)) (fG l n F gs γ j) W K) ∨
   ((∀ i, i < n → L i = true) ∧ ∃ p, n ≤ p ∧ p ≤ l.length ∧ (∀ t, n ≤ t → t < l.length → L t = decide (t < p)) ∧ wpList P l.toArray Q (l.drop p) A W))

theorem dst_get {k t : Nat} (hkd : dstOf l.toArray k = some t) : ∃ y, l.toArray[k]? = some y ∧ y.dst = some t := by
  unfold dstOf at hkd
  cases h : l.toArray[k]? with
  | none => rw [h] at hkd; simp at hkd
  | some y => rw [h] at hkd; exact ⟨y, rfl, by simpa using hkd⟩
theorem dst_one (ok : DetOk l n) {j k t : Nat} (hj : j < n) (hk : k < n) (h1 : dstOf l.toArray j = some t) (h2 : dstOf l.toArray k = some t) : j = k := by
  obtain ⟨x, hx, hxd⟩ := dst_get h1
  obtain ⟨y, hy, hyd⟩ := dst_get h2
  rcases Nat.lt_trichotomy j k with h | h | h
  · exact ((ok.share k j y x hk h hy hx).2.2 t hyd hxd).elim
  · exact h
  · exact ((ok.share j k x y hj h hx hy).2.2 t hxd hyd).elim

/-- The frame behind all of it. -/
theorem frame_end2 (ok : GrwOk l n gs) {F : Act} {β : Nat → Nat} {γ : Nat → Value} (hF : puts l.toArray (valsOf l F) (fun _ => true) a n = F) {L : Nat → Bool} (hL : ∀ i, i < n → L i = true) :
    puts l.toArray (vg l F gs β γ) L a n = puts l.toArray (fun k => ptrAt (β k)) (loB l.toArray) (fG l n F gs γ gs.length) n := by
  have hsF : F.tmps.size = a.tmps.size := by rw [← hF, puts_size]
  refine act_ext (fun t => ?_) (by unfold fG; rw [puts_defers, puts_defers, puts_defers, ← hF, puts_defers])
  by_cases h : ∃ k, k < n ∧ dstOf l.toArray k = some t
  · obtain ⟨k, hk, hd⟩ := h
    have hu : ∀ j, k < j → j < n → dstOf l.toArray j ≠ some t := fun j h1 h2 h3 => by have := dst_one ok.ok h2 hk h3 hd; omega
    rw [puts_hit hu hk (hL k hk) hd]
    by_cases hg : gs.contains k = true
    · -- made by the chain
      have hm : k ∈ gs := by simpa using hg
      obtain ⟨o, ho, _⟩ := dst_get hd
      have hlo : loB l.toArray k = false := by rw [loB_get ho]; exact (ok.plain k hm o ho).1
      rw [puts_miss (L := loB l.toArray) (fun j hj hlj hdj => by have := dst_one ok.ok hj hk hdj hd; subst this; rw [hlo] at hlj; cases hlj)]
      unfold fG
      rw [puts_hit (L := fun k => (gs.take gs.length).contains k) hu hk (by simpa using hm) hd]
      unfold vg; rw [if_pos hg]
      exact put_get_eq hsF.symm _ _
    · by_cases hlo : loB l.toArray k = true
      · rw [puts_hit (L := loB l.toArray) hu hk hlo hd]
        unfold vg vb; rw [if_neg hg, if_pos hlo]
        exact put_get_eq (by unfold fG; rw [puts_size, hsF]) _ _
      · rw [puts_miss (L := loB l.toArray) (fun j hj hlj hdj => by have := dst_one ok.ok hj hk hdj hd; subst this; exact hlo hlj)]
        unfold fG
        rw [puts_miss (L := fun k => (gs.take gs.length).contains k) (fun j hj hlj hdj => by have := dst_one ok.ok hj hk hdj hd; subst this; exact hg (by simpa using hlj))]
        unfold vg vb; rw [if_neg hg, if_neg hlo]
        have hv : valsOf l F k = F.tmps.getD t undef := by unfold valsOf; rw [hd]
        rw [hv]
        exact put_hit (by rw [hsF]) t
  · have hno : ∀ k, k < n → dstOf l.toArray k ≠ some t := fun k hk hd => h ⟨k, hk, hd⟩
    rw [puts_miss (fun k hk _ => hno k hk), puts_miss (fun k hk _ => hno k hk)]
    unfold fG
    rw [puts_miss (fun k hk _ => hno k hk), ← hF, puts_miss (fun k hk _ => hno k hk)]

theorem grwInv_start (ok : GrwOk l n gs) {F : Act} {obj : Nat → Obj} {K : Act → World → Prop} (hF0 : puts l.toArray (valsOf l F) (fun _ => true) a n = F)
    (hT : ∀ a' w', K a' w' → ∀ β, Below w.heap.size w w' → Fresh l.toArray n w obj β (fun _ => true) w' → wpList P l.toArray Q (l.drop n) ((looseOf l.toArray n).foldl (fun A p => A.put p.2 (ptrAt (β p.1))) a') w')
    {L : Nat → Bool} {A : Act} {W : World} (hc : Clo l.toArray L) (ht : ∀ t, n ≤ t → L t = false) (hb : Below w.heap.size w W) {β : Nat → Nat} {γ : Nat → Value} {j : Nat} (hj : ∀ i, i < gs.length → L (gs.getD i 0) = decide (i < j)) (hjl : j ≤ gs.length)
    (hA : A = puts l.toArray (vg l F gs β γ) L a n) (hf : Fresh l.toArray n w obj β L W) (hG : GrowL P l.toArray ((gs.drop j).filterMap (l.toArray[·]?)) (fG l n F gs γ j) W K) :
    GrwInv P l n gs Q a w F obj K L A W := by
  refine ⟨hc, ?_⟩
  by_cases h : ∃ i, i < n ∧ L i = false
  · exact Or.inl ⟨h, ht, hb, β, γ, j, hj, hjl, hA, hf, hG⟩
  · have hall : ∀ i, i < n → L i = true := by
      intro i hi
      cases hL : L i with
      | true => rfl
      | false => exact (h ⟨i, hi, hL⟩).elim
    refine Or.inr ⟨hall, n, Nat.le_refl _, ok.ok.le, fun t h1 _ => by rw [ht t h1]; simp; omega, ?_⟩
    obtain rfl : j = gs.length := by
      rcases Nat.lt_or_ge j gs.length with h1 | h1
      · have h2 := hj j h1
        rw [hall _ (ok.lt _ (by rw [List.getD_eq_getElem?_getD, List.getElem?_eq_getElem h1]; simp))] at h2
        simp at h2
      · omega
    rw [hA, frame_end2 ok hF0 hall, puts_loose]
    rw [List.drop_length] at hG
    exact hT _ _ (hG W (Below.refl _ _)) β hb ⟨fun k hk hl _ => hf.old k hk hl (hall k hk), fun j k hj hk hlj hlk _ _ => hf.inj j k hj hk hlj hlk (hall j hj) (hall k hk)⟩

theorem fG_zero {F : Act} {γ : Nat → Value} : fG l n F gs γ 0 = F := by
  unfold fG
  have : ∀ k, puts l.toArray γ (fun k => (gs.take 0).contains k) F k = F := by
    intro k
    induction k with
    | zero => rfl
    | succ k ih => unfold puts; simp at ih ⊢; exact ih
  exact this n

/-- **One walk serves every order**, where a chain of operations makes memory. -/
theorem wp_region_grow {id : Nat} (n : Nat) (gs : List Nat) (hm : P.follows .mixedOrders = true) (hB : grwB l n gs = true) (F : Act) (obj : Nat → Obj)
    (hF : ∀ w1, Below w.heap.size w w1 → wpQuiet P l.toArray (fun w' => ∃ p : Regrown, w' = grow (redrawn w1 p.d) p.os) (fun a' => a' = F) (muteG gs 0 (l.take n)) a)
    (hz : ∀ k T, k < n → ((l.toArray[k]?).map (·.op) : Option Op) = some (.alloc T) → ∀ W : World, (Instr.alloc T true (.tuple #[])).run P W = .ok (.pointer (some ⟨W.heap.size, 0, none⟩)) (W.alloc (obj k)))
    (K : Act → World → Prop)
    (hG : GrowL P l.toArray (gs.filterMap (l.toArray[·]?)) F w K)
    (hT : ∀ a' w', K a' w' → ∀ β, Below w.heap.size w w' → Fresh l.toArray n w obj β (fun _ => true) w' → wpList P l.toArray Q (l.drop n) ((looseOf l.toArray n).foldl (fun A p => A.put p.2 (ptrAt (β p.1))) a') w') :
    (Code.region id l.toArray true).wp P Q a w := by
  have gok := grwOk hB
  have ok := gok.ok
  have hlen : (muteG gs 0 (l.take n)).length = n := by rw [muteG_len]; have := ok.le; simp; omega
  have hget : ∀ i, i < n → (muteG gs 0 (l.take n))[i]? = (l.toArray[i]?).map fun o => if gs.contains i then neutral o else mute o := by
    intro i hi
    rw [muteG_get, Nat.zero_add, List.getElem?_take, if_pos hi]; simp
  have hph : ∀ (v : Nat → Value) (M : Nat → Bool) k, k ≤ n → puts (muteG gs 0 (l.take n)).toArray v M a k = puts l.toArray v M a k := by
    intro v M k
    induction k with
    | zero => intro _; rfl
    | succ k ih =>
      intro hk
      have e : dstOf (muteG gs 0 (l.take n)).toArray k = dstOf l.toArray k := by
        unfold dstOf
        rw [List.getElem?_toArray, hget k (by omega)]
        cases l.toArray[k]? with
        | none => rfl
        | some o =>
          simp only [Option.map_some, Option.bind_some]
          split
          · rfl
          · exact mute_dst o
      unfold puts
      rw [ih (by omega), e]
  have hvals : ∀ w1, Below w.heap.size w w1 → (∀ i o, i < n → l.toArray[i]? = some o → gs.contains i = false → ∃ v, YieldsIn P l.toArray (fun w' => ∃ p : Regrown, w' = grow (redrawn w1 p.d) p.os) (mute o) v (puts l.toArray (valsOf l F) (fun _ => true) a i) ∧
      puts l.toArray (valsOf l F) (fun _ => true) a (i + 1) = (puts l.toArray (valsOf l F) (fun _ => true) a i).put o.dst v) ∧ puts l.toArray (valsOf l F) (fun _ => true) a n = F := by
    intro w1 hw1
    obtain ⟨vals, h1, h2⟩ := quiet_vals _ _ (hF w1 hw1)
    rw [hlen, hph _ _ n (Nat.le_refl _)] at h2
    have hp := puts_vals ok h2
    refine ⟨fun i o hi ho hgi => ⟨vals i, ?_, ?_⟩, (hp n (Nat.le_refl _)) ▸ h2⟩
    · have h3 := h1 i (mute o) (by rw [hget i hi, ho]; simp only [Option.map_some, hgi]; rfl)
      rw [hph _ _ i (Nat.le_of_lt hi), hp i (Nat.le_of_lt hi)] at h3
      exact h3
    · rw [← hp (i + 1) hi, ← hp i (Nat.le_of_lt hi), puts, if_pos rfl]
      simp [dstOf, ho]
  obtain ⟨_, hF0⟩ := hvals w (Below.refl _ _)
  have hsF : F.tmps.size = a.tmps.size := by rw [← hF0, puts_size]
  refine wp_region_any hm (wpAny_inv3 ok.back (GrwInv P l n gs Q a w F obj K) ?_ ?_ _ _ _ _ (by simp) ?_ ?_)
  · intro i o ho L A W hL hI hd
    obtain ⟨hc, hI⟩ := hI
    have his : i < l.length := by simpa using (Array.getElem?_eq_some_iff.1 ho).1
    rcases hI with ⟨hex, ht, hb, β, γ, j, hj, hjl, hA, hf, hGr⟩ | ⟨hall, p, hp1, hp2, hp3, hw⟩
    · by_cases hin : i < n
      · have hdi : dstOf l.toArray i = o.dst := by simp [dstOf, ho]
        have hfree : ∀ k, i < k → k < n → L k = true → ∀ d, dstOf l.toArray k = some d → dstOf l.toArray i ≠ some d := by
          intro k hk1 hk2 _ d hkd hid
          have := dst_one ok hk2 hin hkd hid; omega
        have ht' : ∀ t, n ≤ t → (fun j => j == i || L j) t = false := by
          intro t h1
          have : (t == i) = false := by simpa using (show t ≠ i by omega)
          simp [this, ht t h1]
        have hA1 : A.tmps.size = a.tmps.size := by rw [hA, puts_size]
        by_cases hgi : gs.contains i = true
        · -- the chain's next
          have him : i ∈ gs := by simpa using hgi
          obtain ⟨m, hm1, hm2⟩ := List.getElem_of_mem him
          have hgm : gs.getD m 0 = i := by rw [List.getD_eq_getElem?_getD, List.getElem?_eq_getElem hm1]; simpa using hm2
          have hmj : m = j := by
            have h1 := hj m hm1
            rw [hgm, hL] at h1
            have h2 : j ≤ m := by simpa using h1
            rcases Nat.lt_or_ge j m with h3 | h3
            · exfalso
              have h4 := (gok.chain m j hm1 h3).1
              rw [hgm] at h4
              have h5 := anc_done hc h4 (fun o' ho' => by rw [ho] at ho'; obtain rfl := Option.some.inj ho'; exact hd)
              rw [hj j (by omega)] at h5; simp at h5
            · omega
          subst hmj
          have hdr : (gs.drop m).filterMap (l.toArray[·]?) = o :: (gs.drop (m + 1)).filterMap (l.toArray[·]?) := by
            rw [List.drop_eq_getElem_cons hm1, List.filterMap_cons, hm2, ho]
          rw [hdr] at hGr
          have hpl := gok.plain i him o ho
          have hrun := hGr W (Below.refl _ _)
          have hag : ∀ t, t ∈ o.looksAt l.toArray → A.tmps[t]? = (fG l n F gs γ m).tmps[t]? := by
            intro t htl
            rw [hA]
            unfold fG
            by_cases h : ∃ k, k < n ∧ dstOf l.toArray k = some t
            · obtain ⟨k, hk, hkd⟩ := h
              obtain ⟨y, hy, hyd⟩ := dst_get hkd
              have hap := gok.apart i him o ho k y hk hy
              have hki : k < i := by
                rcases Nat.lt_or_ge k i with h | h
                · exact h
                · exact (hap.2 h t hyd htl).elim
              have hsh : shareB l.toArray o y = true := by rw [shareB_comm]; exact share_dst hyd (Or.inr htl)
              have hs := ok.share i k o y hin hki ho hy
              have hLk : L k = true := anc_done hc (hs.1 hsh) (fun o' ho' => by rw [ho] at ho'; obtain rfl := Option.some.inj ho'; exact hd)
              have hlo : loB l.toArray k = false := by
                rw [loB_get hy]
                cases h : isAlloc y with
                | false => rfl
                | true => rw [hs.2.1 (Or.inr h)] at hsh; cases hsh
              have hu : ∀ j, k < j → j < n → dstOf l.toArray j ≠ some t := fun j h1 h2 h3 => by have := dst_one ok h2 hk h3 hkd; omega
              rw [puts_hit hu hk hLk hkd]
              by_cases hgk : gs.contains k = true
              · have hkm : k ∈ gs := by simpa using hgk
                obtain ⟨m', hm1', hm2'⟩ := List.getElem_of_mem hkm
                have hm'm : m' < m := by
                  have h1 := hj m' hm1'
                  rw [List.getD_eq_getElem?_getD, List.getElem?_eq_getElem hm1'] at h1
                  simp only [Option.getD_some, hm2', hLk] at h1
                  simpa using h1.symm
                have htk : (gs.take m).contains k = true := by
                  have : k ∈ gs.take m := List.mem_iff_getElem.2 ⟨m', by simp; omega, by rw [List.getElem_take]; exact hm2'⟩
                  simpa using this
                rw [puts_hit (L := fun k => (gs.take m).contains k) hu hk htk hkd]
                unfold vg; rw [if_pos hgk]
                exact put_get_eq hsF.symm _ _
              · have hnt : ∀ j, j < n → (gs.take m).contains j = true → dstOf l.toArray j ≠ some t := fun j h1 h2 h3 => by
                  have := dst_one ok h1 hk h3 hkd
                  subst this
                  have h4 : j ∈ gs.take m := by simpa using h2
                  exact hgk (by simpa using List.mem_of_mem_take h4)
                rw [puts_miss (L := fun k => (gs.take m).contains k) (fun j h1 h2 => hnt j h1 h2)]
                unfold vg vb; rw [if_neg hgk, if_neg (by rw [hlo]; simp)]
                have hv : valsOf l F k = F.tmps.getD t undef := by unfold valsOf; rw [hkd]
                rw [hv]
                exact put_hit (by rw [hsF]) t
            · have hno : ∀ k, k < n → dstOf l.toArray k ≠ some t := fun k hk hd => h ⟨k, hk, hd⟩
              rw [puts_miss (fun k hk _ => hno k hk), puts_miss (fun k hk _ => hno k hk), ← hF0, puts_miss (fun k hk _ => hno k hk)]
          have hr2 := run_agree hag (fun cs b => ok.sel i o cs b ho) hpl.2 (fun a' W' h => h.1) hrun
          refine wpOp_mono ?_ (wpOp_of_list ho hr2)
          rintro a' w' ⟨v, rfl, hdef, hbw, hGn⟩
          have hfG : (fG l n F gs γ m).put o.dst v = fG l n F gs (fun k => if k = i then v else γ k) (m + 1) := by
            unfold fG
            have e0 : (fun k => (gs.take (m + 1)).contains k) = fun k => k == i || (gs.take m).contains k := by
              funext k
              have : gs.take (m + 1) = gs.take m ++ [i] := by
                rw [List.take_add_one, List.getElem?_eq_getElem hm1, hm2]; rfl
              have h9 : [i].contains k = (k == i) := by rw [List.contains_cons, List.contains_nil, Bool.or_false]
              rw [this, List.contains_append, Bool.or_comm, h9]
            rw [e0, puts_add hin ?_ ?_]
            · rw [hdi]
              congr 1
              case e_v => simp
              · refine puts_congr (fun _ _ => rfl) (fun k hk hLk => ?_)
                have hne : k ≠ i := by
                  rintro rfl
                  have h4 : k ∈ gs.take m := by simpa using hLk
                  obtain ⟨m', hm1', hm2'⟩ := List.getElem_of_mem h4
                  rw [List.getElem_take] at hm2'
                  have hlt : m' < m := by simp at hm1'; omega
                  have h5 := (gok.chain m m' hm1 hlt).2
                  rw [hgm, List.getD_eq_getElem?_getD, List.getElem?_eq_getElem (by omega)] at h5
                  simp only [Option.getD_some, hm2'] at h5; omega
                rw [if_neg hne]
            · cases h : (gs.take m).contains i with
              | false => rfl
              | true =>
                exfalso
                have h4 : i ∈ gs.take m := by simpa using h
                obtain ⟨m', hm1', hm2'⟩ := List.getElem_of_mem h4
                rw [List.getElem_take] at hm2'
                have hlt : m' < m := by simp at hm1'; omega
                have h5 := (gok.chain m m' hm1 hlt).2
                rw [hgm, List.getD_eq_getElem?_getD, List.getElem?_eq_getElem (by omega)] at h5
                simp only [Option.getD_some, hm2'] at h5; omega
            · intro k hk1 hk2 _ d hkd hid
              have := dst_one ok hk2 hin hkd hid; omega
          rw [hfG] at hGn
          refine grwInv_start gok hF0 hT (clo_add hc ho hd) ht' (hb.trans (hbw.mono hb.size)) (β := β) (γ := fun k => if k = i then v else γ k) (j := m + 1) ?_ (by omega) ?_ ?_ hGn
          · intro q hq
            have h1 := hj q hq
            by_cases hqm : q = m
            · subst hqm; rw [hgm]; simp
            · have hne : gs.getD q 0 ≠ i := by
                intro e
                rcases Nat.lt_trichotomy q m with h | h | h
                · have := (gok.chain m q hm1 h).2; rw [hgm] at this; omega
                · exact hqm h
                · have := (gok.chain q m hq h).2; rw [hgm] at this; omega
              have hb2 : (gs.getD q 0 == i) = false := by simpa using hne
              simp only [hb2, Bool.false_or, h1, decide_eq_decide]; omega
          · rw [puts_add hin hL hfree, hA, hdi]
            have e3 : vg l F gs β (fun k => if k = i then v else γ k) i = v := by unfold vg; rw [if_pos hgi]; simp
            rw [e3]
            congr 1
            refine puts_congr (fun _ _ => rfl) (fun k hk hLk => ?_)
            have hne : k ≠ i := fun e => by rw [e, hL] at hLk; cases hLk
            unfold vg; simp only [if_neg hne]
          · have hf' := hf.later hbw
            have hlo : loB l.toArray i = false := by rw [loB_get ho]; exact hpl.1
            have hne : ∀ q, loB l.toArray q = true → (q == i) = false := fun q hq => by
              have : q ≠ i := fun e => by rw [e, hlo] at hq; cases hq
              simpa using this
            exact ⟨fun k hk hl hLk => hf'.old k hk hl (by simpa only [hne k hl, Bool.false_or] using hLk), fun j k hj hk hlj hlk hLj hLk => hf'.inj j k hj hk hlj hlk (by simpa only [hne j hlj, Bool.false_or] using hLj) (by simpa only [hne k hlk, Bool.false_or] using hLk)⟩
        · have hgi' : gs.contains i = false := by simpa using hgi
          have hjn : ∀ q, q < gs.length → (fun j => j == i || L j) (gs.getD q 0) = decide (q < j) := by
            intro q hq
            have hne : gs.getD q 0 ≠ i := by
              intro e
              have : i ∈ gs := by rw [← e, List.getD_eq_getElem?_getD, List.getElem?_eq_getElem hq]; simp
              exact hgi (by simpa using this)
            have hb2 : (gs.getD q 0 == i) = false := by simpa using hne
            simp only [hb2, Bool.false_or]; exact hj q hq
          cases ha : isAlloc o with
          | true =>
            obtain ⟨T, hop, hg⟩ : ∃ T, o.op = .alloc T ∧ o.guard = none := by
              unfold isAlloc at ha
              split at ha
              · rename_i T h1 h2; exact ⟨T, h1, h2⟩
              · cases ha
            have hzz := hz i T hin (by rw [ho]; simp [hop]) W
            unfold wpOp
            simp only [ho]
            rw [if_pos (by simp [Region.wanted, hg])]
            refine Or.inl ?_
            unfold Oper.wp execOp
            simp only [hop, hzz, Sem.run_bind, Sem.run_pure, Result.andThen_ok, Oper.upon]
            refine grwInv_start gok hF0 hT (clo_add hc ho hd) ht' (hb.alloc hb.size _) (β := fun k => if k = i then W.heap.size else β k) (γ := γ) (j := j) hjn hjl ?_ ?_ (hGr.later ((Below.refl _ _).alloc (Nat.le_refl _) _))
            · rw [puts_add hin hL hfree, hA]
              have e1 : vg l F gs (fun k => if k = i then W.heap.size else β k) γ i = .pointer (some ⟨W.heap.size, 0, none⟩) := by
                unfold vg vb; rw [if_neg hgi, loB_get ho, if_pos ha]; simp [ptrAt]
              rw [e1, hdi]
              congr 1
              refine puts_congr (fun _ _ => rfl) (fun k hk hLk => ?_)
              have hki : k ≠ i := fun e => by rw [e, hL] at hLk; cases hLk
              unfold vg vb; simp only [if_neg hki]
            · refine ⟨fun k hk hlo hLk => ?_, fun j k hj hk hlj hlk hLj hLk hβ => ?_⟩
              · by_cases hki : k = i
                · subst hki
                  simp only [↓reduceIte]
                  exact ⟨hb.size, heap_alloc_new W _⟩
                · have : (k == i) = false := by simpa using hki
                  simp only [this, Bool.false_or] at hLk
                  rw [if_neg hki]
                  have h5 := hf.old k hk hlo hLk
                  exact ⟨h5.1, by rw [Below.heap_alloc W _ _ (lt_of_block h5.2)]; exact h5.2⟩
              · by_cases hji : j = i
                · by_cases hki : k = i
                  · rw [hji, hki]
                  · exfalso
                    have : (k == i) = false := by simpa using hki
                    simp only [this, Bool.false_or] at hLk
                    rw [if_pos hji, if_neg hki] at hβ
                    have := lt_of_block (hf.old k hk hlk hLk).2
                    omega
                · have hj2 : (j == i) = false := by simpa using hji
                  simp only [hj2, Bool.false_or] at hLj
                  by_cases hki : k = i
                  · exfalso
                    rw [if_neg hji, if_pos hki] at hβ
                    have := lt_of_block (hf.old j hj hlj hLj).2
                    omega
                  · have : (k == i) = false := by simpa using hki
                    simp only [this, Bool.false_or] at hLk
                    rw [if_neg hji, if_neg hki] at hβ
                    exact hf.inj j k hj hk hlj hlk hLj hLk hβ
          | false =>
            obtain ⟨h1, _⟩ := hvals W hb
            obtain ⟨v, hy, hput⟩ := h1 i o hin ho hgi'
            rw [mute_not ha] at hy
            have hag : ∀ t, t ∈ o.looksAt l.toArray → A.tmps[t]? = (puts l.toArray (valsOf l F) (fun _ => true) a i).tmps[t]? := by
              intro t htl
              rw [hA, puts_beyond (i := i) (Nat.le_of_lt hin)]
              · refine puts_same (fun k hk hkd => ?_)
                obtain ⟨y, hyy, hyd⟩ := dst_get hkd
                have hs := ok.share i k o y hin hk ho hyy
                have hsh : shareB l.toArray o y = true := by rw [shareB_comm]; exact share_dst hyd (Or.inr htl)
                refine ⟨anc_done hc (hs.1 hsh) (fun o' ho' => by rw [ho] at ho'; obtain rfl := Option.some.inj ho'; exact hd), rfl, ?_⟩
                have hgk : gs.contains k = false := by
                  cases h : gs.contains k with
                  | false => rfl
                  | true =>
                    exfalso
                    exact (gok.apart k (by simpa using h) y hyy i o hin ho).1 hgi' t hyd (List.mem_append_right _ htl)
                unfold vg vb
                rw [hgk, loB_get hyy]
                cases hay : isAlloc y with
                | false => rfl
                | true => rw [hs.2.1 (Or.inr hay)] at hsh; cases hsh
              · intro k hk1 hk2 hk3 hkd
                by_cases e : k = i
                · subst e; rw [hL] at hk3; cases hk3
                · obtain ⟨y, hyy, hyd⟩ := dst_get hkd
                  have hs := ok.share k i y o hk2 (by omega) hyy ho
                  have := anc_done hc (hs.1 (share_dst hyd (Or.inr htl))) (fun o' ho' => hc k o' ho' hk3)
                  rw [hL] at this; cases this
            have hy' : YieldsIn P l.toArray (fun w' => ∃ p : Regrown, w' = grow (redrawn W p.d) p.os) o v A :=
              hy.of_same (execOp_congr o (fun cs b => ok.sel i o cs b ho) (evalAgree hag)) (wantAgree hag)
            refine wpOp_of_qOp (Cls.self W) (fun a' w' hw' ha' => ?_) (hy'.qOp ho (K := fun a' => a' = A.put o.dst v) rfl)
            have hbw : Below W.heap.size W w' := Cls.below hw'
            refine grwInv_start gok hF0 hT (clo_add hc ho hd) ht' (hb.trans (hbw.mono hb.size)) (β := β) (γ := γ) (j := j) hjn hjl ?_ ?_ (hGr.later hbw)
            · rw [puts_add hin hL hfree, ha', hA, hdi]
              have e3 : vg l F gs β γ i = valsOf l F i := by unfold vg vb; rw [hgi', loB_get ho, ha]; rfl
              rw [e3]
              cases hod : o.dst with
              | none => rfl
              | some d =>
                rw [hod] at hput
                have e4 : (puts l.toArray (valsOf l F) (fun _ => true) a i).put (some d) v = (puts l.toArray (valsOf l F) (fun _ => true) a i).put (some d) (valsOf l F i) := by
                  rw [← hput, puts, if_pos rfl, hdi, hod]
                have hs1 : (puts l.toArray (valsOf l F) (fun _ => true) a i).tmps.size = a.tmps.size := puts_size _
                have hs2 : (puts l.toArray (vg l F gs β γ) L a n).tmps.size = a.tmps.size := puts_size _
                by_cases hdl : d < a.tmps.size
                · have h7 := congrArg (fun A : Act => A.tmps[d]?) e4
                  simp only [Act.put, Array.getElem?_setIfInBounds, if_pos, hs1, hdl] at h7
                  rw [Option.some.inj h7]
                · have h8 : ∀ (B : Act) (x : Value), B.tmps.size = a.tmps.size → B.put (some d) x = B := by
                    intro B x hB
                    simp only [Act.put]
                    rw [Array.setIfInBounds_eq_of_size_le (by rw [hB]; exact Nat.le_of_not_lt hdl)]
                  rw [h8 _ _ hs2, h8 _ _ hs2]
            · have hf' := hf.later hbw
              have hlo : loB l.toArray i = false := by rw [loB_get ho]; exact ha
              have hne : ∀ q, loB l.toArray q = true → (q == i) = false := fun q hq => by
                have : q ≠ i := fun e => by rw [e, hlo] at hq; cases hq
                simpa using this
              exact ⟨fun k hk hl hLk => hf'.old k hk hl (by simpa only [hne k hl, Bool.false_or] using hLk), fun j k hj hk hlj hlk hLj hLk => hf'.inj j k hj hk hlj hlk (by simpa only [hne j hlj, Bool.false_or] using hLj) (by simpa only [hne k hlk, Bool.false_or] using hLk)⟩
      · exfalso
        obtain ⟨j, hj, hLj⟩ := hex
        have := anc_done hc (ok.tail i j (by omega) his (by omega)) (fun o' ho' => by rw [ho] at ho'; obtain rfl := Option.some.inj ho'; exact hd)
        rw [hLj] at this; cases this
    · have hin : n ≤ i := by
        rcases Nat.lt_or_ge i n with h | h
        · rw [hall i h] at hL; cases hL
        · exact h
      have hip : i = p := by
        have h1 : ¬ i < p := by
          intro h; rw [hp3 i hin his] at hL; simp [h] at hL
        rcases Nat.lt_or_ge p i with h | h
        · exfalso
          have := anc_done hc (ok.tail i p (by omega) his h) (fun o' ho' => by rw [ho] at ho'; obtain rfl := Option.some.inj ho'; exact hd)
          rw [hp3 p hp1 (by omega)] at this; simp at this
        · omega
      subst hip
      have hdrop : l.drop i = o :: l.drop (i + 1) := by
        rw [List.drop_eq_getElem_cons his]
        have : l[i] = o := by simpa [his] using ho
        rw [this]
      rw [hdrop] at hw
      have hw2 : wpOp P l.toArray Q i (wpList P l.toArray Q (l.drop (i + 1))) A W := by
        unfold wpOp; simp only [ho]; exact hw
      refine wpOp_mono (fun a' w' h => ?_) hw2
      refine ⟨clo_add hc ho hd, Or.inr ⟨fun j hj => by simp [hall j hj], i + 1, by omega, by omega, fun t h1 h2 => ?_, h⟩⟩
      have := hp3 t h1 h2
      by_cases e : t = i
      · subst e; simp
      · have e2 : (t == i) = false := by simpa using e
        simp only [e2, Bool.false_or, this]
        simp only [decide_eq_decide]; omega
  · intro L A W hL hI
    obtain ⟨_, hI⟩ := hI
    rcases hI with ⟨⟨i, hi, hLi⟩, _⟩ | ⟨_, p, hp1, hp2, hp3, hw⟩
    · rw [hL i (by have := ok.le; simp; omega)] at hLi; cases hLi
    · have hpl : p = l.length := by
        rcases Nat.lt_or_ge p l.length with h | h
        · have h1 := hL p (by simpa using h)
          rw [hp3 p hp1 h] at h1; simp at h1
        · omega
      subst hpl
      simpa [wpList] using hw
  · have : ∀ m, m ≤ l.toArray.size → unl m (Array.replicate l.toArray.size false) = m := by
      intro m
      induction m with
      | zero => intro _; rfl
      | succ m ih =>
        intro hm
        have hm' : m < l.length := by simp at hm; omega
        rw [unl_succ, ih (by omega), if_pos (by simp [hm'])]
    exact this _ (Nat.le_refl _)
  · have e : (fun j => (Array.replicate l.toArray.size false).getD j false) = fun _ => false := by
      funext j
      by_cases h : j < l.length
      · simp [h]
      · simp [h]
    rw [e]
    refine grwInv_start gok hF0 hT (fun j o _ h => by cases h) (fun _ _ => rfl) ⟨rfl, rfl, rfl, Nat.le_refl _, fun _ _ => rfl⟩ (β := fun _ => 0) (γ := fun _ => undef) (j := 0) (fun _ _ => by simp) (Nat.zero_le _) ?_ ⟨fun k _ _ h => (by cases h), fun j k _ _ _ _ h => (by cases h)⟩ ?_
    · have : ∀ k, puts l.toArray (vg l F gs (fun _ => 0) (fun _ => undef)) (fun _ => false) a k = a := by
        intro k
        induction k with
        | zero => rfl
        | succ k ih => unfold puts; simp [ih]
      exact (this n).symm
    · rw [List.drop_zero, fG_zero]
      exact hG.later ⟨rfl, rfl, rfl, Nat.le_refl _, fun _ _ => rfl⟩

/-- Every alloc below n has no guard. -/
def allocsPlain (l : List Oper) (n : Nat) : Bool := (List.range n).all fun k => match l.toArray[k]? with
  | some o => (match o.op with | .alloc _ => o.guard.isNone | _ => true)
  | none => true
theorem allocs_loose (hp : allocsPlain l n = true) {k : Nat} {T : TypeId} (hk : k < n) (h : ((l.toArray[k]?).map (·.op) : Option Op) = some (.alloc T)) : (k, dstOf l.toArray k) ∈ looseOf l.toArray n := by
  refine List.mem_map.2 ⟨k, List.mem_filter.2 ⟨List.mem_range.2 hk, ?_⟩, rfl⟩
  unfold allocsPlain at hp
  have h1 := List.all_eq_true.1 hp k (List.mem_range.2 hk)
  unfold loB
  cases ho : l.toArray[k]? with
  | none => rw [ho] at h; cases h
  | some o =>
    rw [ho] at h h1
    have h2 : o.op = .alloc T := by simpa using h
    simp only [h2] at h1
    show isAlloc o = true
    unfold isAlloc
    rw [h2]
    cases hg : o.guard with
    | none => rfl
    | some x => rw [hg] at h1; cases h1

/-- No block is made beside the chain. -/
theorem wp_region_grow0 {id : Nat} (n : Nat) (gs : List Nat) (hm : P.follows .mixedOrders = true) (hB : grwB l n gs = true) (hp : allocsPlain l n = true) (hlo : looseOf l.toArray n = []) (F : Act)
    (hF : ∀ w1, Below w.heap.size w w1 → wpQuiet P l.toArray (fun w' => ∃ p : Regrown, w' = grow (redrawn w1 p.d) p.os) (fun a' => a' = F) (muteG gs 0 (l.take n)) a)
    (hG : GrowL P l.toArray (gs.filterMap (l.toArray[·]?)) F w fun a' w' => wpList P l.toArray Q (l.drop n) a' w') :
    (Code.region id l.toArray true).wp P Q a w := by
  refine wp_region_grow n gs hm hB F (fun _ => .cells #[] 0) hF (fun k T hk h => ?_) _ hG (fun a' w' hK β hb hf => ?_)
  · have := allocs_loose hp hk h
    rw [hlo] at this; cases this
  · rw [hlo]; exact hK

/-- One block is made beside the chain. -/
theorem wp_region_grow1 {id : Nat} (n : Nat) (gs : List Nat) (k1 d1 : Nat) (T1 : TypeId) (cs1 : Array Value) (hm : P.follows .mixedOrders = true) (hB : grwB l n gs = true) (hp : allocsPlain l n = true) (hlo : looseOf l.toArray n = [(k1, some d1)])
    (hop : ((l.toArray[k1]?).map (fun o => match o.op with | .alloc T => some T | _ => none)) = some (some T1))
    (hz : ∀ W : World, (Instr.alloc T1 true (.tuple #[])).run P W = .ok (.pointer (some ⟨W.heap.size, 0, none⟩)) (W.alloc (.cells cs1 T1))) (F : Act)
    (hF : ∀ w1, Below w.heap.size w w1 → wpQuiet P l.toArray (fun w' => ∃ p : Regrown, w' = grow (redrawn w1 p.d) p.os) (fun a' => a' = F) (muteG gs 0 (l.take n)) a)
    (hG : GrowL P l.toArray (gs.filterMap (l.toArray[·]?)) F w fun a' w' => ∀ b, w.heap.size ≤ b → Ob w' b T1 cs1 → wpList P l.toArray Q (l.drop n) (a'.put (some d1) (ptrAt b)) w') :
    (Code.region id l.toArray true).wp P Q a w := by
  have hk1 : k1 < n ∧ loB l.toArray k1 = true := by
    have : (k1, some d1) ∈ looseOf l.toArray n := by rw [hlo]; exact List.mem_cons_self
    obtain ⟨k, hk, he⟩ := List.mem_map.1 this
    obtain ⟨hk2, hk3⟩ := List.mem_filter.1 hk
    simp only [Prod.mk.injEq] at he
    obtain ⟨rfl, _⟩ := he
    exact ⟨List.mem_range.1 hk2, hk3⟩
  refine wp_region_grow n gs hm hB F (fun _ => .cells cs1 T1) hF (fun k T hk h => ?_) _ hG (fun a' w' hK β hb hf => ?_)
  · have h1 := allocs_loose hp hk h
    rw [hlo] at h1
    simp only [List.mem_singleton, Prod.mk.injEq] at h1
    obtain ⟨rfl, _⟩ := h1
    obtain rfl : T = T1 := by
      cases ho : l.toArray[k]? with
      | none => rw [ho] at h; cases h
      | some o =>
        rw [ho] at h hop
        have h2 : o.op = .alloc T := by simpa using h
        simp [h2] at hop; exact hop
    exact hz
  · rw [hlo]
    have h1 := hf.old k1 hk1.1 hk1.2 rfl
    exact hK (β k1) h1.1 h1.2

/-- Two blocks are made beside the chain. -/
theorem wp_region_grow2 {id : Nat} (n : Nat) (gs : List Nat) (k1 d1 k2 d2 : Nat) (T1 T2 : TypeId) (cs1 cs2 : Array Value) (hm : P.follows .mixedOrders = true) (hB : grwB l n gs = true) (hp : allocsPlain l n = true) (hlo : looseOf l.toArray n = [(k1, some d1), (k2, some d2)]) (hne : k1 ≠ k2)
    (hop1 : ((l.toArray[k1]?).map (fun o => match o.op with | .alloc T => some T | _ => none)) = some (some T1))
    (hop2 : ((l.toArray[k2]?).map (fun o => match o.op with | .alloc T => some T | _ => none)) = some (some T2))
    (hz1 : ∀ W : World, (Instr.alloc T1 true (.tuple #[])).run P W = .ok (.pointer (some ⟨W.heap.size, 0, none⟩)) (W.alloc (.cells cs1 T1)))
    (hz2 : ∀ W : World, (Instr.alloc T2 true (.tuple #[])).run P W = .ok (.pointer (some ⟨W.heap.size, 0, none⟩)) (W.alloc (.cells cs2 T2))) (F : Act)
    (hF : ∀ w1, Below w.heap.size w w1 → wpQuiet P l.toArray (fun w' => ∃ p : Regrown, w' = grow (redrawn w1 p.d) p.os) (fun a' => a' = F) (muteG gs 0 (l.take n)) a)
    (hG : GrowL P l.toArray (gs.filterMap (l.toArray[·]?)) F w fun a' w' => ∀ b c, w.heap.size ≤ b → w.heap.size ≤ c → b ≠ c → Ob w' b T1 cs1 → Ob w' c T2 cs2 → wpList P l.toArray Q (l.drop n) ((a'.put (some d1) (ptrAt b)).put (some d2) (ptrAt c)) w') :
    (Code.region id l.toArray true).wp P Q a w := by
  have hmem : ∀ k d, (k, d) ∈ looseOf l.toArray n → k < n ∧ loB l.toArray k = true := by
    intro k' d this
    obtain ⟨k, hk, he⟩ := List.mem_map.1 this
    obtain ⟨hk2, hk3⟩ := List.mem_filter.1 hk
    simp only [Prod.mk.injEq] at he
    obtain ⟨rfl, _⟩ := he
    exact ⟨List.mem_range.1 hk2, hk3⟩
  have hk1 := hmem k1 (some d1) (by rw [hlo]; simp)
  have hk2 := hmem k2 (some d2) (by rw [hlo]; simp)
  refine wp_region_grow n gs hm hB F (fun k => if k = k1 then .cells cs1 T1 else .cells cs2 T2) hF (fun k T hk h => ?_) _ hG (fun a' w' hK β hb hf => ?_)
  · have h1 := allocs_loose hp hk h
    rw [hlo] at h1
    simp only [List.mem_cons, Prod.mk.injEq, List.not_mem_nil, or_false] at h1
    have hT : ∀ T', ((l.toArray[k]?).map (fun o => match o.op with | .alloc T => some T | _ => none)) = some (some T') → T = T' := by
      intro T' hop
      cases ho : l.toArray[k]? with
      | none => rw [ho] at h; cases h
      | some o =>
        rw [ho] at h hop
        have h2 : o.op = .alloc T := by simpa using h
        simp [h2] at hop; exact hop
    rcases h1 with ⟨rfl, _⟩ | ⟨rfl, _⟩
    · obtain rfl := hT _ hop1
      simpa using hz1
    · obtain rfl := hT _ hop2
      simpa [Ne.symm hne] using hz2
  · rw [hlo]
    have h1 := hf.old k1 hk1.1 hk1.2 rfl
    have h2 := hf.old k2 hk2.1 hk2.2 rfl
    simp only [↓reduceIte] at h1
    rw [if_neg (Ne.symm hne)] at h2
    exact hK (β k1) (β k2) h1.1 h2.1 (fun e => hne (hf.inj k1 k2 hk1.1 hk2.1 hk1.2 hk2.2 rfl rfl e)) h1.2 h2.2
end
end Go.Proofs.Ytbldgpemocnboaa

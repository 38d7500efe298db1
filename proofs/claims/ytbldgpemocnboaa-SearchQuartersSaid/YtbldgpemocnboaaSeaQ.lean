/- search.Searcher.Quarters: what it answers, and its walk. -/
import Derived.Test.YtbldgpemocnboaaSeaX
namespace Go.Proofs.Ytbldgpemocnboaa
open Go.RowKit Go.Sort
attribute [local go_sem ↓] run_imax run_imin

/-- Four vectors and a number. -/
structure Qs where
  X : Nat → Int
  Y : Nat → Int
  n : Int
def updN (X : Nat → Int) (k : Nat) (v : Int) (j : Nat) : Int := if j = k then v else X j
/-- One try at the quarter k. -/
def tryQ (A : (Nat → Int) → Bool) (F : Int → Int → Int) (k : Nat) (s : Qs) (v : Int × Int) : Qs :=
  if F v.1 v.2 < s.n ∧ A (updN s.X k v.1) = true then ⟨updN s.X k v.1, updN s.Y k v.2, F v.1 v.2⟩ else s
def tryQL (A : (Nat → Int) → Bool) (F : Int → Int → Int) (k : Nat) (s : Qs) (L : List (Int × Int)) : Qs := L.foldl (tryQ A F k) s
/-- The first k quarters: the vectors, and the sum of the least. -/
def quaK (A : (Nat → Int) → Bool) (F : Nat → Int → Int → Int) (L : List (Int × Int)) (cx cy : Int) : Nat → Qs
  | 0 => ⟨fun _ => cx, fun _ => cy, 0⟩
  | k + 1 =>
    let p := quaK A F L cx cy k
    let t := tryQL A (F k) k ⟨p.X, p.Y, F k cx cy⟩ L
    ⟨t.X, t.Y, p.n + t.n⟩
theorem tryQL_step {A : (Nat → Int) → Bool} {F : Int → Int → Int} {k : Nat} {s : Qs} {L : List (Int × Int)} {j : Nat} (h : j < L.length) : tryQL A F k s (L.take (j + 1)) = tryQ A F k (tryQL A F k s (L.take j)) L[j] := by
  unfold tryQL
  rw [List.take_succ_eq_append_getElem h, List.foldl_append]; rfl
theorem updN_b {X Y : Nat → Int} (h : ∀ j, B31 (X j, Y j)) {v : Int × Int} (hv : B31 v) (k : Nat) : ∀ j, B31 (updN X k v.1 j, updN Y k v.2 j) := fun j => by
  unfold updN
  by_cases e : j = k
  · rw [if_pos e, if_pos e]; exact hv
  · rw [if_neg e, if_neg e]; exact h j
theorem tryQ_b {A : (Nat → Int) → Bool} {F : Int → Int → Int} {k : Nat} {s : Qs} (h : ∀ j, B31 (s.X j, s.Y j)) {v : Int × Int} (hv : B31 v) : ∀ j, B31 ((tryQ A F k s v).X j, (tryQ A F k s v).Y j) := by
  unfold tryQ
  split
  · exact updN_b h hv k
  · exact h
theorem tryQL_b {A : (Nat → Int) → Bool} {F : Int → Int → Int} {k : Nat} : ∀ (L : List (Int × Int)) (s : Qs), (∀ j, B31 (s.X j, s.Y j)) → (∀ v ∈ L, B31 v) → ∀ j, B31 ((tryQL A F k s L).X j, (tryQL A F k s L).Y j)
  | [], s, h, _ => h
  | v :: L, s, h, hL => tryQL_b L (tryQ A F k s v) (tryQ_b h (hL v (by simp))) (fun u hu => hL u (by simp [hu]))
theorem quaK_b {A : (Nat → Int) → Bool} {F : Nat → Int → Int → Int} {L : List (Int × Int)} {cx cy : Int} (h : B31 (cx, cy)) (hL : ∀ v ∈ L, B31 v) : ∀ k, ∀ j, B31 ((quaK A F L cx cy k).X j, (quaK A F L cx cy k).Y j)
  | 0, _ => h
  | k + 1, j => tryQL_b (A := A) (F := F k) (k := k) L ⟨(quaK A F L cx cy k).X, (quaK A F L cx cy k).Y, F k cx cy⟩ (quaK_b h hL k) hL j
theorem tryQL_n {A : (Nat → Int) → Bool} {F : Int → Int → Int} {k : Nat} {K : Int} (hF : ∀ x y, 0 ≤ F x y ∧ F x y ≤ K) : ∀ (L : List (Int × Int)) (s : Qs), 0 ≤ s.n ∧ s.n ≤ K → 0 ≤ (tryQL A F k s L).n ∧ (tryQL A F k s L).n ≤ K
  | [], s, h => h
  | v :: L, s, h => tryQL_n hF L (tryQ A F k s v) (by
    unfold tryQ
    split
    · exact hF _ _
    · exact h)
theorem quaK_n {A : (Nat → Int) → Bool} {F : Nat → Int → Int → Int} {L : List (Int × Int)} {cx cy : Int} {K : Int} (hF : ∀ k x y, 0 ≤ F k x y ∧ F k x y ≤ K) : ∀ k : Nat, 0 ≤ (quaK A F L cx cy k).n ∧ (quaK A F L cx cy k).n ≤ K * (k : Int)
  | 0 => ⟨Int.le_refl _, by show (0 : Int) ≤ K * ((0 : Nat) : Int); simp⟩
  | k + 1 => by
    have h1 := quaK_n (A := A) (L := L) (cx := cx) (cy := cy) hF k
    have h2 := tryQL_n (A := A) (k := k) (hF k) L ⟨(quaK A F L cx cy k).X, (quaK A F L cx cy k).Y, F k cx cy⟩ (hF k cx cy)
    show 0 ≤ (quaK A F L cx cy k).n + (tryQL A (F k) k ⟨(quaK A F L cx cy k).X, (quaK A F L cx cy k).Y, F k cx cy⟩ L).n ∧ (quaK A F L cx cy k).n + (tryQL A (F k) k ⟨(quaK A F L cx cy k).X, (quaK A F L cx cy k).Y, F k cx cy⟩ L).n ≤ K * ((k + 1 : Nat) : Int)
    have e : K * ((k + 1 : Nat) : Int) = K * (k : Int) + K := by rw [Int.natCast_add, Int.mul_add]; simp
    omega
/-- Three results, the first a cell of an array. -/
theorem results_blk3 {P : Program} {fn : Func} {p u v : Tmp} {ty : TypeId} (h : fn.results = #[.cell p ty, .tmp u, .tmp v]) (tmps : Array Value) {w : World} {b n : Nat} {T E : TypeId} {f : Nat → Value}
    (H : Blk w b T n f) (hp : tmps.getD p undef = .pointer (some ⟨b, 0, none⟩)) (hu : P.underlying ty = some (.array n E)) (hi : (P.info? ty).map (·.size) = some n) :
    (results fn tmps).run P w = .ok (.tuple #[.agg (fcells n f), tmps.getD u undef, tmps.getD v undef]) w := by
  have hp' : tmps[p]?.getD undef = .pointer (some ⟨b, 0, none⟩) := by simpa using hp
  have h1 := run_loadVar_row (P := P) w b T ty (fcells n f) (0, 0) _ H hu rfl (by rw [fcells_size]; exact hi)
  simp [results, h, hp', asAddr, h1]
/-- What Quarters answers, as a tuple. -/
def quaV (A : (Nat → Int) → Bool) (F : Nat → Int → Int → Int) (L : List (Int × Int)) (cx cy : Int) : Value :=
  if A (fun _ => cx) = true then .tuple #[.agg (fcells 4 (vc4 (quaK A F L cx cy 4).X (quaK A F L cx cy 4).Y)), .int .i64 (quaK A F L cx cy 4).n, .bool true]
  else .tuple #[.agg (fcells 4 fun _ => .complex .f64 0 0), .int .i64 0, .bool false]
theorem wr_setRow {b : Nat} {w w' : World} {cs : Array Value} (h : w.setRow b cs = w') : Wr b w w' := by
  subst h
  exact ⟨rfl, rfl, rfl, by simp, fun k hk hne => setRow_other w b k cs (fun e => hne e)⟩
theorem blk_ob {w : World} {b n : Nat} {T : TypeId} {f : Nat → Value} (h : Blk w b T n f) : Ob w b T (fcells n f) := h
theorem blk_setRow {w w' : World} {b n : Nat} {T : TypeId} {f g : Nat → Value} (h : Blk w b T n f) (e : w.setRow b (fcells n g) = w') : Blk w' b T n g := by
  subst e; exact h.setRow_same rfl
theorem Fr.Mem.wr1 {f : Fr} {b : Nat} {w w' : World} (h : f.Mem w) (hw : Wr b w w') (hn : f.bY ≠ b ∧ f.bU ≠ b ∧ f.bV ≠ b) : f.Mem w' :=
  h.wrf (WrF.of_wr (a := b) (b := b) (c := b) hw (Or.inl rfl)) ⟨hn.1, hn.1, hn.1⟩ ⟨hn.2.1, hn.2.1, hn.2.1⟩ ⟨hn.2.2, hn.2.2, hn.2.2⟩
set_option maxRecDepth 1000000 in
set_option maxHeartbeats 8000000 in
theorem quarters_any (fr lm : Int) (f g : Fr) (mb : Nat) (cx cy : Int) (d : Bool) (w : World) (hf : f.Mem w) (hg : g.Mem w) (h1 : 0 < f.c) (hgc : 0 < g.c) (hm : mb ≤ 1000000) (hb3 : B31 (cx, cy)) :
    Calls Try.prog 63 #[.agg #[.int .i64 fr, .int .i64 lm], f.val, g.val, .int .i64 (mb : Int), vcV cx cy, .bool d] w fun e w' => e = .returned (quaV (alwB lm f.c mb) (fun k x y => awayF f g mb k x y d) (stepsTo cx cy 2 1 5 (5 * 5)) cx cy) ∧ Below w.heap.size w w' := by
  have hc8 := hf.hc
  obtain ⟨⟨x0, x1⟩, y0, y1⟩ := hb3
  replace x0 : -31 ≤ cx := x0; replace x1 : cx ≤ 31 := x1; replace y0 : -31 ≤ cy := y0; replace y1 : cy ≤ 31 := y1
  have hal := fun W => all_any cx cy W
  have halw := fun X Y W (hV : V4b X Y) => allowed_any fr lm f.c mb X Y W h1 hc8 hm hV
  have haw := fun (k : Nat) (hk : k < 4) x y W (h2 : f.Mem W) (h3 : g.Mem W) hV => away_any f g mb k x y d W h1 h2 h3 hgc hk hm hV
  have hbA : ∀ k x y, 0 ≤ awayF f g mb k x y d ∧ awayF f g mb k x y d ≤ 16320 := fun k x y => awayF_bd hf hg
  obtain ⟨A, hA⟩ : ∃ A, alwB lm f.c mb = A := ⟨_, rfl⟩
  obtain ⟨F, hF⟩ : ∃ F : Nat → Int → Int → Int, (fun k x y => awayF f g mb k x y d) = F := ⟨_, rfl⟩
  have hF2 : ∀ k x y, awayF f g mb k x y d = F k x y := fun k x y => by rw [← hF]
  rw [hA, hF]
  rw [hA] at halw
  simp only [hF2] at haw hbA
  obtain ⟨V, hV⟩ : ∃ V, quaV A F (stepsTo cx cy 2 1 5 (5 * 5)) cx cy = V := ⟨_, rfl⟩
  rw [hV]
  replace hal := Lib.hid hal; replace halw := Lib.hid halw; replace haw := Lib.hid haw; replace hbA := Lib.hid hbA; replace hA := Lib.hid hA; replace hF := Lib.hid hF; replace hF2 := Lib.hid hF2; replace hV := Lib.hid hV
  unfold Fr.val
  go_enter Try.func63, Try.ntmps63
  go_upto_region 1 with (refine wpList_alloc_blk rfl V63T rfl _ _ alloc63 ?_)
  generalize hw1 : (((w.alloc (.cells #[.int .i64 fr, .int .i64 lm] SRT)).alloc (.cells f.cells FRT)).alloc (.cells g.cells FRT)).alloc (.cells (fcells 4 fun _ => .complex .f64 0 0) V63T) = w1
  have HW : Below w.heap.size w w1 := by rw [← hw1]; ((repeat (first | exact Below.refl _ _ | assumption | refine Below.setCell ?_ (by first | omega | (simp; done) | (simp; omega)) _ | refine Below.alloc ?_ (by first | omega | (simp; done) | (simp; omega)) _ | refine below_drewN ?_ _ | refine Below.drew ?_ | refine below_setRow ?_ (by first | omega | (simp; done) | (simp; omega)) _)))
  have HS : Ob w1 w.heap.size SRT #[.int .i64 fr, .int .i64 lm] := by rw [← hw1]; exact (((Ob.new_at _ _ rfl).alloc _).alloc _).alloc _
  have HF : Ob w1 (w.heap.size + 1) FRT f.cells := by rw [← hw1]; exact ((Ob.new_at _ _ (by simp)).alloc _).alloc _
  have HG : Ob w1 (w.heap.size + 1 + 1) FRT g.cells := by rw [← hw1]; exact (Ob.new_at _ _ (by simp)).alloc _
  have HO : Blk w1 (w.heap.size + 1 + 1 + 1) V63T 4 (fun _ => .complex .f64 0 0) := by rw [← hw1]; exact Blk.new_at _ _ _ (by simp)
  replace hf := hf.later HW; replace hg := hg.later HW
  clear hw1
  have qf : w.heap.size ≤ w.heap.size + 1 + 1 + 1 := by omega
  generalize w.heap.size + 1 + 1 + 1 = bo at *
  generalize w.heap.size + 1 + 1 = bg at *
  generalize w.heap.size + 1 = bf at *
  go_wp2_with fail
  refine (hal.out _).mono ?_
  rintro e w2 ⟨rfl, hb⟩
  replace HO := HO.later hb
  replace HS := HS.later hb; replace HF := HF.later hb; replace HG := HG.later hb; replace hf := hf.later hb; replace hg := hg.later hb; replace HW := below_step HW hb
  clear hb
  have us := HW.size
  go_wp2_with (first | (refine wpList_alloc_blk rfl V63T rfl _ _ alloc63 ?_) | (refine wpList_store_blk_stop (Blk.new_at _ _ _ rfl) rfl _ _ _ rfl rfl rfl (by kernel_rfl) (fun j _ => rfl) ?_))
  intro w3 hw3
  replace hw3 := hw3.out
  have qo : bo ≠ w2.heap.size := by have := HO.lt; omega
  have HV := mk_blk hw3
  replace HO := mk_keepB hw3 HO; replace HS := mk_keepO hw3 HS; replace HF := mk_keepO hw3 HF; replace HG := mk_keepO hw3 HG; replace hf := mk_mem hw3 hf; replace hg := mk_mem hw3 hg; replace HW := mk_below hw3 HW us
  clear hw3
  generalize w2.heap.size = bq at *
  have cf := HF.fC
  go_wp2_with (first | (refine wpList_load_ob_g HS rfl SRT _ rfl rfl Try.underlying89 (by kernel_rfl) ?_) | (refine wpList_load_blk HV rfl V63T _ rfl rfl und63 (by kernel_rfl) ?_))
  refine (halw.out (fun _ => cx) (fun _ => cy) _ (v4_al2 ⟨x0, x1⟩ ⟨y0, y1⟩)).mono ?_
  rintro e w4 ⟨rfl, hb⟩
  clear cf
  replace HO := HO.later hb; replace HV := HV.later hb
  replace HS := HS.later hb; replace HF := HF.later hb; replace HG := HG.later hb; replace hf := hf.later hb; replace hg := hg.later hb; replace HW := below_step HW hb
  clear hb
  cases hr : A (fun _ => cx)
  · have hVf := hV.out
    unfold quaV at hVf
    rw [if_neg (by rw [hr]; simp)] at hVf
    subst hVf
    have hz63 : ∀ W, (Instr.build V63T #[]).run Try.prog W = .ok (.agg (fcells 4 fun _ => .complex .f64 0 0)) W := fun W => by kernel_rfl
    go_wp2_with (refine wpList_store_blk (g := fun _ => .complex .f64 0 0) HO rfl _ _ _ rfl rfl rfl (by kernel_rfl) (fun j _ => rfl) ?_)
    exact bodyPost_ret (results_blk3 rfl _ (HO.setRow_same rfl) rfl und63 (by kernel_rfl)) rfl ⟨rfl, below_setRow HW qf _⟩
  · have hVf := hV.out
    unfold quaV at hVf
    rw [if_pos hr] at hVf
    obtain ⟨L, hL⟩ : ∃ L, stepsTo cx cy 2 1 5 (5 * 5) = L := ⟨_, rfl⟩
    have hLb : ∀ v ∈ L, B31 v := by rw [← hL]; exact stepsTo_b _
    have hLn : L.length ≤ 25 := by rw [← hL]; exact stepsTo_len cx cy 2 1 5 (5 * 5)
    rw [hL] at hVf
    have hPb := fun k j => quaK_b (A := A) (F := F) (L := L) (cx := cx) (cy := cy) ⟨⟨x0, x1⟩, y0, y1⟩ hLb k j
    have hPn := fun k => quaK_n (A := A) (F := F) (L := L) (cx := cx) (cy := cy) (K := 16320) hbA.out k
    have hPs : ∀ k, quaK A F L cx cy (k + 1) = ⟨(tryQL A (F k) k ⟨(quaK A F L cx cy k).X, (quaK A F L cx cy k).Y, F k cx cy⟩ L).X, (tryQL A (F k) k ⟨(quaK A F L cx cy k).X, (quaK A F L cx cy k).Y, F k cx cy⟩ L).Y, (quaK A F L cx cy k).n + (tryQL A (F k) k ⟨(quaK A F L cx cy k).X, (quaK A F L cx cy k).Y, F k cx cy⟩ L).n⟩ := fun k => rfl
    have hP0 : quaK A F L cx cy 0 = ⟨fun _ => cx, fun _ => cy, 0⟩ := rfl
    obtain ⟨P, hP⟩ : ∃ P, quaK A F L cx cy = P := ⟨_, rfl⟩
    rw [hP] at hVf hPb hPn hPs hP0
    replace hL := Lib.hid hL; replace hLb := Lib.hid hLb; replace hLn := Lib.hid hLn; replace hPb := Lib.hid hPb; replace hPn := Lib.hid hPn; replace hPs := Lib.hid hPs; replace hP := Lib.hid hP; replace hr := Lib.hid hr; replace hVf := Lib.hid hVf
    have HV0 : Blk w4 bq V63T 4 (vc4 (P 0).X (P 0).Y) := by rw [hP0]; exact HV
    have hP00 : (P 0).n = 0 := by rw [hP0]
    clear hP0 HV
    replace hP00 := Lib.hid hP00
    go_wp2_with fail
    go_loopw [16, 33] (fun t i wr => ∃ k : Nat, k ≤ 4 ∧ i = .int .i64 (k : Int) ∧ t = .int .i64 (P k).n ∧ Blk wr bq V63T 4 (vc4 (P k).X (P k).Y) ∧ Blk wr bo V63T 4 (fun _ => .complex .f64 0 0) ∧ Ob wr w.heap.size SRT #[.int .i64 fr, .int .i64 lm] ∧ Ob wr bf FRT f.cells ∧ Ob wr bg FRT g.cells ∧ f.Mem wr ∧ g.Mem wr ∧ Below w.heap.size w wr) (fun _ i _ => 4 - (intOf i).toNat)
    case atStart => exact ⟨0, by omega, rfl, by rw [hP00.out], HV0, HO, HS, HF, HG, hf, hg, HW⟩
    case round =>
      clear HV0 HO HS HF HG hf hg HW
      obtain ⟨k, hk, rfl, rfl, HV, HO, HS, HF, HG, hf, hg, HW⟩ := hrel
      obtain ⟨pn0, pn1⟩ := hPn.out k
      have pn2 : (P k).n ≤ 100000 := by omega
      clear pn1
      by_cases hk4 : k < 4
      · have hd : decide ((k : Int) < 4) = true := by simp; omega
        have hkB := hPb.out k
        have hks := hPs.out k
        obtain ⟨X, hX⟩ : ∃ X, (P k).X = X := ⟨_, rfl⟩
        obtain ⟨Y, hY⟩ : ∃ Y, (P k).Y = Y := ⟨_, rfl⟩
        obtain ⟨Z, hZ⟩ : ∃ Z, (P k).n = Z := ⟨_, rfl⟩
        rw [hX, hY] at HV; rw [hZ] at pn0 pn2 ⊢
        simp only [hX, hY, hZ] at hkB hks
        obtain ⟨T, hT⟩ : ∃ T : Nat → Qs, (fun j => tryQL A (F k) k ⟨X, Y, F k cx cy⟩ (L.take j)) = T := ⟨_, rfl⟩
        have hT0 : T 0 = ⟨X, Y, F k cx cy⟩ := by rw [← hT]; rfl
        have hTe : P (k + 1) = ⟨(T L.length).X, (T L.length).Y, Z + (T L.length).n⟩ := by
          rw [hks, ← hT]; simp only [List.take_length]
        have hTs : ∀ j (h : j < L.length), T (j + 1) = tryQ A (F k) k (T j) L[j] := fun j h => by rw [← hT]; exact tryQL_step h
        have hTb : ∀ j i, B31 ((T j).X i, (T j).Y i) := fun j => by rw [← hT]; exact tryQL_b _ _ hkB (fun v hv => hLb.out v (List.mem_of_mem_take hv))
        have hTn : ∀ j, 0 ≤ (T j).n ∧ (T j).n ≤ 16320 := fun j => by rw [← hT]; exact tryQL_n (hbA.out k) _ _ (hbA.out k cx cy)
        have haw0 := fun W h2 h3 => haw.out k hk4 cx cy W h2 h3 ⟨⟨by omega, by omega⟩, by omega, by omega⟩
        clear hkB hks
        replace hX := Lib.hid hX; replace hY := Lib.hid hY; replace hZ := Lib.hid hZ; replace hT := Lib.hid hT; replace hTe := Lib.hid hTe; replace hTs := Lib.hid hTs; replace hTb := Lib.hid hTb; replace hTn := Lib.hid hTn; replace haw0 := Lib.hid haw0
        go_wp2_with (first | (refine wpList_load_ob_g HF rfl FRT _ rfl rfl Try.underlying43 (by kernel_rfl) ?_) | (refine wpList_load_ob_g HG rfl FRT _ rfl rfl Try.underlying43 (by kernel_rfl) ?_))
        refine (haw0.out _ hf hg).mono ?_
        rintro e w6 ⟨rfl, hb⟩
        clear haw0
        replace HO := HO.later hb; replace HV := HV.later hb
        replace HS := HS.later hb; replace HF := HF.later hb; replace HG := HG.later hb; replace hf := hf.later hb; replace hg := hg.later hb; replace HW := below_step HW hb
        clear hb
        have HV0 : Blk w6 bq V63T 4 (vc4 (T 0).X (T 0).Y) := by rw [hT0]; exact HV
        have hT00 : F k cx cy = (T 0).n := by rw [hT0]
        rw [hT00]
        clear hT0 hT00 HV
        go_wp2_with (refine wpList_load_ob_g HS rfl SRT _ rfl rfl Try.underlying89 (by kernel_rfl) ?_)
        refine (steps_any fr lm cx cy 2 1 5 _ ⟨x0, x1⟩ ⟨y0, y1⟩ (by omega) (Or.inl rfl) (by omega)).mono ?_
        rw [hL.out]
        rintro e w7 ⟨sp, sc, rfl, hSL, hsb, hb⟩
        have hqb := HV0.lt
        replace HO := HO.later hb; replace HV0 := HV0.later hb
        replace HS := HS.later hb; replace HF := HF.later hb; replace HG := HG.later hb; replace hf := hf.later hb; replace hg := hg.later hb; replace HW := below_step HW hb
        clear hb
        have hLn2 := hLn.out
        replace hSL := Lib.hid hSL; replace hsb := Lib.hid hsb
        go_wp2_with fail
        go_loopw [18, 47] (fun t i wx => ∃ j : Nat, j ≤ L.length ∧ i = .int .i64 (j : Int) ∧ t = .int .i64 (T j).n ∧ Blk wx bq V63T 4 (vc4 (T j).X (T j).Y) ∧ Blk wx bo V63T 4 (fun _ => .complex .f64 0 0) ∧ Ob wx w.heap.size SRT #[.int .i64 fr, .int .i64 lm] ∧ Ob wx bf FRT f.cells ∧ Ob wx bg FRT g.cells ∧ f.Mem wx ∧ g.Mem wx ∧ WrF bq bq bq w7 wx ∧ Below w.heap.size w wx) (fun _ i _ => L.length - (intOf i).toNat)
        case atStart => exact ⟨0, by omega, rfl, rfl, HV0, HO, HS, HF, HG, hf, hg, WrF.refl _ _ _ _, HW⟩
        case round =>
          clear HV0 HO HS HF HG hf hg HW
          obtain ⟨j, hj, rfl, rfl, HV, HO, HS, HF, HG, hf, hg, hWr, HW⟩ := hrel
          obtain ⟨tn0, tn1⟩ := hTn.out j
          by_cases hjl : j < L.length
          · have hd : decide ((j : Int) < (L.length : Int)) = true := by simp; omega
            have j0 : (0 : Int) ≤ j := by omega
            have hvb := hLb.out _ (List.getElem_mem hjl)
            have hst := hTs.out j hjl
            unfold tryQ at hst
            obtain ⟨b, o, hsp, hbw, hc2⟩ : ∃ b o, sp = some ⟨b, o, none⟩ ∧ b < w7.heap.size ∧ ∀ k, k < L.length → w7.cell? ⟨b, o + k, none⟩ = some (listF L k) := by
              rcases hSL.out with h | h
              · omega
              · exact h
            have hbq : b ≠ bq := by have := hsb.out b o hsp; omega
            subst hsp
            have c0 := (hWr.cell (k := o + j) hbw hbq hbq hbq).trans (hc2 j hjl)
            rw [show listF L j = vcV L[j].1 L[j].2 by unfold listF pV; rw [List.getD_eq_getElem?_getD, List.getElem?_eq_getElem hjl]; rfl] at c0
            clear hc2
            obtain ⟨x, hx⟩ : ∃ x, L[j].1 = x := ⟨_, rfl⟩
            obtain ⟨y, hy⟩ : ∃ y, L[j].2 = y := ⟨_, rfl⟩
            have hvb1 : (-31 ≤ x ∧ x ≤ 31) ∧ (-31 ≤ y ∧ y ≤ 31) := by rw [← hx, ← hy]; exact hvb
            rw [hx, hy] at c0
            rw [hx, hy] at hst
            clear hvb
            unfold vcV at c0
            replace hx := Lib.hid hx; replace hy := Lib.hid hy; replace hst := Lib.hid hst; replace hvb1 := Lib.hid hvb1
            have usn := HW.size
            go_wp2_with (first | (refine wpList_load_blk HV rfl V63T _ rfl rfl und63 (by kernel_rfl) ?_) | (refine wpList_alloc_blk rfl V63T rfl _ _ alloc63 ?_) | (refine wpList_store_blk_stop (Blk.new_at _ _ _ rfl) rfl _ _ _ rfl rfl rfl (by kernel_rfl) (fun j _ => rfl) ?_))
            intro w8 hw8
            have HN := mk_blk hw8
            have hb8 := mk_below hw8 (Below.refl _ _) (Nat.le_refl _)
            have usn := HW.size
            clear hw8
            have cn := HN.cell (k := k) hk4
            have fn := HN.free k
            have k0 : (0 : Int) ≤ k := by omega
            have k1 : (k : Int) < 4 := by omega
            clear c0 hbw hbq hd
            go_upto_region 14 with fail
            clear cn fn
            have HN2 := (HN.set k (.complex .f64 (fbits x) (fbits y))).congr (g := vc4 (updN (T j).X k x) (updN (T j).Y k y)) (fun i _ => by
              unfold vc4 updN
              by_cases e : i = k
              · subst e; rw [if_pos rfl, if_pos rfl, if_pos rfl]; rfl
              · rw [if_neg e, if_neg e, if_neg e])
            replace hb8 := hb8.setCell (p := ⟨wr.heap.size, k, none⟩) (Nat.le_refl _) (.complex .f64 (fbits x) (fbits y))
            generalize w8.setCell ⟨wr.heap.size, k, none⟩ (.complex .f64 (fbits x) (fbits y)) = w9 at *
            clear HN
            replace HO := HO.later hb8; replace HV := HV.later hb8; replace hWr := hWr.step hb8
            replace HN := HN2; clear HN2
            replace HS := HS.later hb8; replace HF := HF.later hb8; replace HG := HG.later hb8; replace hf := hf.later hb8; replace hg := hg.later hb8; replace HW := below_step HW hb8
            clear hb8
            generalize wr.heap.size = bn at *
            have hv64 : V64 x y := by obtain ⟨⟨v0, v1⟩, v2, v3⟩ := hvb1.out; exact ⟨⟨by omega, by omega⟩, by omega, by omega⟩
            have hawk := fun W h2 h3 => haw.out k hk4 x y W h2 h3 hv64
            have halk := fun W => halw.out (updN (T j).X k x) (updN (T j).Y k y) W (fun i _ => by
              have := updN_b (hTb.out j) (v := (x, y)) hvb1.out k i
              obtain ⟨⟨v0, v1⟩, v2, v3⟩ := this
              replace v0 : -31 ≤ updN (T j).X k x i := v0; replace v1 : updN (T j).X k x i ≤ 31 := v1; replace v2 : -31 ≤ updN (T j).Y k y i := v2; replace v3 : updN (T j).Y k y i ≤ 31 := v3
              exact ⟨⟨by omega, by omega⟩, by omega, by omega⟩)
            obtain ⟨fx0, fx1⟩ := hbA.out k x y
            obtain ⟨Fv, hFv⟩ : ∃ Fv, F k x y = Fv := ⟨_, rfl⟩
            obtain ⟨Av, hAv⟩ : ∃ Av, A (updN (T j).X k x) = Av := ⟨_, rfl⟩
            rw [hFv] at fx0 fx1
            simp only [hFv] at hawk
            simp only [hAv] at halk
            replace hst := hst.out
            rw [hFv, hAv] at hst
            unfold vcV at hawk
            replace hst := Lib.hid hst; replace hawk := Lib.hid hawk; replace halk := Lib.hid halk; replace hFv := Lib.hid hFv; replace hAv := Lib.hid hAv; replace hv64 := Lib.hid hv64
            go_wp2_with (first | (refine wpList_load_ob_g HF rfl FRT _ rfl rfl Try.underlying43 (by kernel_rfl) ?_) | (refine wpList_load_ob_g HG rfl FRT _ rfl rfl Try.underlying43 (by kernel_rfl) ?_))
            refine (hawk.out _ hf hg).mono ?_
            rintro e w10 ⟨rfl, hb⟩
            replace HO := HO.later hb; replace HV := HV.later hb; replace HN := HN.later hb; replace hWr := hWr.step hb
            replace HS := HS.later hb; replace HF := HF.later hb; replace HG := HG.later hb; replace hf := hf.later hb; replace hg := hg.later hb; replace HW := below_step HW hb
            clear hb
            clear hawk
            obtain ⟨un, hun⟩ : ∃ un, (T j).n = un := ⟨_, rfl⟩
            rw [hun] at tn0 tn1 ⊢
            replace hst := hst.out
            rw [hun] at hst
            replace hun := Lib.hid hun
            by_cases hlt : Fv < un
            · have hdl : decide (Fv < un) = true := by simpa using hlt
              have cf := HF.fC
              go_wp2_with (first | (refine wpList_load_ob_g HS rfl SRT _ rfl rfl Try.underlying89 (by kernel_rfl) ?_) | (refine wpList_load_blk_g HN rfl V63T _ rfl rfl und63 (by kernel_rfl) ?_))
              refine (halk.out _).mono ?_
              rintro e w11 ⟨rfl, hb⟩
              clear cf hdl
              replace HO := HO.later hb; replace HV := HV.later hb; replace HN := HN.later hb; replace hWr := hWr.step hb
              replace HS := HS.later hb; replace HF := HF.later hb; replace HG := HG.later hb; replace hf := hf.later hb; replace hg := hg.later hb; replace HW := below_step HW hb
              clear hb
              clear halk
              cases Av
              · rw [if_neg (by rintro ⟨h1, h2⟩; cases h2)] at hst
                rw [← hst] at HV
                have hn1 : un = (T (j + 1)).n := by rw [hst, hun.out]
                replace hst := Lib.hid hst
                rw [hn1]
                replace hn1 := Lib.hid hn1
                go_wp2_with fail
                exact ⟨⟨j + 1, by omega, by go_num, rfl, HV, HO, HS, HF, HG, hf, hg, hWr, HW⟩, by simp [intOf]; omega⟩
              · rw [if_pos ⟨hlt, rfl⟩] at hst
                have hn1 : Fv = (T (j + 1)).n := by rw [hst]
                have e1 : vc4 (updN (T j).X k x) (updN (T j).Y k y) = vc4 (T (j + 1)).X (T (j + 1)).Y := by rw [hst]
                rw [e1] at HN
                replace hst := Lib.hid hst; replace e1 := Lib.hid e1
                rw [hn1]
                replace hn1 := Lib.hid hn1
                go_wp2_with fail
                try simp only [Act.put, List.setIfInBounds_toArray, List.set_cons_succ, List.set_cons_zero]
                apply wp_region_tail_below 3
                case hm => kernel_rfl
                case hB => kernel_rfl
                case hno => kernel_rfl
                case hF =>
                  simp only [List.take_succ_cons, List.take_zero]
                  repeat (first | (go_big_quiet_want; refine quiet_load_row (m := 4) HN V63T _ rfl rfl _ und63 rfl (by kernel_rfl) (by omega) _ (fcells_from _ _) ?_; go_big_quiet_on; simp only [Act.put, List.setIfInBounds_toArray, List.set_cons_succ, List.set_cons_zero]) | (go_big_quiet_step (fail)))
                  exact wpQuiet_nil rfl
                case hT =>
                  intro w12 hb
                  simp only [List.drop_succ_cons, List.drop_zero]
                  replace HO := HO.later hb; replace HV := HV.later hb; replace HN := HN.later hb; replace hWr := hWr.step hb
                  replace HS := HS.later hb; replace HF := HF.later hb; replace HG := HG.later hb; replace hf := hf.later hb; replace hg := hg.later hb; replace HW := below_step HW hb
                  clear hb
                  go_wp2_with (refine wpList_store_blk_stop (g := vc4 (T (j + 1)).X (T (j + 1)).Y) HV rfl _ _ _ rfl rfl rfl (by kernel_rfl) (fun j _ => rfl) ?_)
                  intro w13 hw13
                  have hwr := wr_setRow hw13.out
                  have hx := blk_ob HV
                  have nS := Ob.neT HS hx (by decide)
                  have nF := Ob.neT HF hx (by decide)
                  have nG := Ob.neT HG hx (by decide)
                  have nf := hf.ne_ob hx (by decide)
                  have ng := hg.ne_ob hx (by decide)
                  clear hx
                  replace HV := blk_setRow HV hw13.out
                  replace HO := HO.wr hwr qo; replace HS := HS.wr hwr nS; replace HF := HF.wr hwr nF; replace HG := HG.wr hwr nG
                  replace hWr := hWr.wr hwr (Or.inl rfl)
                  replace hf := hf.wr1 hwr nf; replace hg := hg.wr1 hwr ng
                  replace HW := hwr.below HW us
                  clear hw13 hwr nS nF nG nf ng HN
                  go_wp2_with fail
                  exact ⟨⟨j + 1, by omega, by go_num, rfl, HV, HO, HS, HF, HG, hf, hg, hWr, HW⟩, by simp [intOf]; omega⟩
            · have hdl : decide (Fv < un) = false := by simpa using hlt
              rw [if_neg (by rintro ⟨h1, h2⟩; exact hlt h1)] at hst
              rw [← hst] at HV
              have hn1 : un = (T (j + 1)).n := by rw [hst, hun.out]
              replace hst := Lib.hid hst
              rw [hn1]
              replace hn1 := Lib.hid hn1
              clear hdl
              have hdl : decide (Fv < (T (j + 1)).n) = false := by rw [← hn1.out]; simpa using hlt
              go_wp2_with fail
              exact ⟨⟨j + 1, by omega, by go_num, rfl, HV, HO, HS, HF, HG, hf, hg, hWr, HW⟩, by simp [intOf]; omega⟩
          · obtain rfl : j = L.length := by omega
            have hd : decide (((L.length : Nat) : Int) < (L.length : Int)) = false := by simp
            have hte := hTe.out
            obtain ⟨U, hU⟩ : ∃ U, T L.length = U := ⟨_, rfl⟩
            rw [hU] at HV hte tn0 tn1 ⊢
            have e1 : (P (k + 1)).n = Z + U.n := by rw [hte]
            rw [show vc4 U.X U.Y = vc4 (P (k + 1)).X (P (k + 1)).Y by rw [hte]] at HV
            clear hte
            replace e1 := Lib.hid e1; replace hU := Lib.hid hU
            generalize U.n = un at *
            go_wp2_with fail
            exact ⟨⟨k + 1, by omega, by go_num, by rw [e1.out], HV, HO, HS, HF, HG, hf, hg, HW⟩, by simp [intOf]; omega⟩
      · obtain rfl : k = 4 := by omega
        have hd : decide (((4 : Nat) : Int) < 4) = false := by simp
        go_wp2_with (first | (refine wpList_load_blk HV rfl V63T _ rfl rfl und63 (by kernel_rfl) ?_) | (refine wpList_store_blk (g := vc4 (P 4).X (P 4).Y) HO rfl _ _ _ rfl rfl rfl (by kernel_rfl) (fun j _ => rfl) ?_))
        exact bodyPost_ret (results_blk3 rfl _ (HO.setRow_same rfl) rfl und63 (by kernel_rfl)) rfl ⟨by rw [← hVf.out]; rfl, below_setRow HW qf _⟩
end Go.Proofs.Ytbldgpemocnboaa

/- search.whole, Whole, walked. -/
import Derived.Test.YtbldgpemocnboaaSeaS
namespace Go.Proofs.Ytbldgpemocnboaa
open Go.RowKit Go.Sort
attribute [local go_sem ↓] run_imax run_imin

/-- All quarters. -/
def wholeF (f g : Fr) (mb : Nat) (X Y : Int) (d : Bool) : Int := sumTo (fun k => awayF f g mb k X Y d) 4
theorem wholeF_bd {f g : Fr} {mb : Nat} {X Y : Int} {d : Bool} {w : World} (hf : f.Mem w) (hg : g.Mem w) : 0 ≤ wholeF f g mb X Y d ∧ wholeF f g mb X Y d ≤ 65280 := by
  have := sumTo_bd (g := fun k => awayF f g mb k X Y d) (fun k => awayF_bd hf hg) 4
  unfold wholeF; omega
set_option maxRecDepth 1000000 in
set_option maxHeartbeats 8000000 in
theorem whole28_any (f g : Fr) (mb : Nat) (X Y : Int) (d : Bool) (w : World) (h1 : 0 < f.c) (hf : f.Mem w) (hg : g.Mem w) (hgc : 0 < g.c) (hm : mb ≤ 1000000) (hV : V64 X Y) :
    Calls Try.prog 106 #[f.val, g.val, .int .i64 (mb : Int), vcV X Y, .bool d] w fun e w' => e = .returned (.int .i64 (wholeF f g mb X Y d)) ∧ Below w.heap.size w w' := by
  have haw : ∀ k : Nat, k < 4 → ∀ W, f.Mem W → g.Mem W → Calls Try.prog 61 #[.agg f.cells, .agg g.cells, .int .i64 (mb : Int), .int .i64 (k : Int), vcV X Y, .bool d] W fun e w' => e = .returned (.int .i64 (awayF f g mb k X Y d)) ∧ Below W.heap.size W w' := fun k hk W h2 h3 => away_any f g mb k X Y d W h1 h2 h3 hgc hk hm hV
  have hbd : ∀ k : Nat, 0 ≤ awayF f g mb k X Y d ∧ awayF f g mb k X Y d ≤ 16320 := fun k => awayF_bd hf hg
  unfold wholeF
  obtain ⟨A, hA⟩ : ∃ A : Nat → Int, (fun k => awayF f g mb k X Y d) = A := ⟨_, rfl⟩
  have hA2 : ∀ k, awayF f g mb k X Y d = A k := fun k => by rw [← hA]
  rw [hA]
  simp only [hA2] at haw hbd
  replace haw := Lib.hid haw; replace hbd := Lib.hid hbd; replace hA := Lib.hid hA; replace hA2 := Lib.hid hA2
  unfold Fr.val
  unfold vcV at haw ⊢
  go_enter Try.func106, Try.ntmps106
  go_upto_region 1 with fail
  generalize hw1 : (w.alloc (.cells f.cells FRT)).alloc (.cells g.cells FRT) = w1
  have HF : Ob w1 w.heap.size FRT f.cells := by rw [← hw1]; exact (Ob.new_at _ _ rfl).alloc _
  have HG : Ob w1 (w.heap.size + 1) FRT g.cells := by rw [← hw1]; exact Ob.new_at _ _ (by simp)
  have HW : Below w.heap.size w w1 := by rw [← hw1]; ((repeat (first | exact Below.refl _ _ | assumption | refine Below.setCell ?_ (by first | omega | (simp; done) | (simp; omega)) _ | refine Below.alloc ?_ (by first | omega | (simp; done) | (simp; omega)) _ | refine below_drewN ?_ _ | refine Below.drew ?_ | refine below_setRow ?_ (by first | omega | (simp; done) | (simp; omega)) _)))
  replace hf := hf.later HW; replace hg := hg.later HW
  clear hw1
  go_wp2_with fail
  go_loopw [11, 13] (fun t i wr => ∃ k : Nat, k ≤ 4 ∧ i = .int .i64 (k : Int) ∧ t = .int .i64 (sumTo A k) ∧ f.Mem wr ∧ g.Mem wr ∧ Ob wr w.heap.size FRT f.cells ∧ Ob wr (w.heap.size + 1) FRT g.cells ∧ Below w.heap.size w wr) (fun _ i _ => 4 - (intOf i).toNat)
  case atStart => exact ⟨0, by omega, rfl, rfl, hf, hg, HF, HG, HW⟩
  case round =>
    clear hf hg HF HG HW
    obtain ⟨k, hk, rfl, rfl, hf, hg, HF, HG, HW⟩ := hrel
    by_cases hk4 : k < 4
    · have hd : decide ((k : Int) < 4) = true := by simp; omega
      have hs := sumTo_bd hbd.out k
      obtain ⟨s1, s2⟩ := hs
      have s3 : sumTo A k ≤ 65280 := by omega
      clear s2
      obtain ⟨b1, b2⟩ := hbd.out k
      have hnx : Hid (sumTo A (k + 1) = sumTo A k + A k) := Lib.hid rfl
      generalize sumTo A k = S at *
      go_wp2_with (first | (refine wpList_load_ob_g HF rfl 43 _ rfl rfl Try.underlying43 (by kernel_rfl) ?_) | (refine wpList_load_ob_g HG rfl 43 _ rfl rfl Try.underlying43 (by kernel_rfl) ?_))
      refine (haw.out k hk4 _ hf hg).mono ?_
      rintro e w3 ⟨rfl, hb⟩
      replace HF := HF.later hb; replace HG := HG.later hb; replace hf := hf.later hb; replace hg := hg.later hb; replace HW := below_step HW hb
      clear hb
      go_wp2_with fail
      exact ⟨⟨k + 1, by omega, by go_num, by rw [hnx.out], hf, hg, HF, HG, HW⟩, by simp [intOf]; omega⟩
    · obtain rfl : k = 4 := by omega
      have hd : decide (((4 : Nat) : Int) < 4) = false := by simp
      go_wp2_with fail
      go_ret
      exact ⟨rfl, HW⟩

/-- What has been found: where, how far, whether anything. -/
structure St where
  x : Int
  y : Int
  n : Int
  ok : Bool
def tryS (A : Int → Int → Bool) (F : Int → Int → Int) (s : St) (v : Int × Int) : St :=
  if A v.1 v.2 = true then (if s.ok = false ∨ F v.1 v.2 < s.n then ⟨v.1, v.2, F v.1 v.2, true⟩ else s) else s
def tryL (A : Int → Int → Bool) (F : Int → Int → Int) (s : St) (L : List (Int × Int)) : St := L.foldl (tryS A F) s
abbrev CXT : TypeId := 61
/-- The closure's variables. -/
structure StM (bk bl bb : Nat) (s : St) (w : World) : Prop where
  k : Ob w bk 4 #[.bool s.ok]
  l : Ob w bl 3 #[.int .i64 s.n]
  b : Ob w bb CXT #[vcV s.x s.y]
theorem StM.later {bk bl bb : Nat} {s : St} {w w' : World} (h : StM bk bl bb s w) (hb : Below w.heap.size w w') : StM bk bl bb s w' := ⟨h.k.later hb, h.l.later hb, h.b.later hb⟩
theorem StM.ne {bk bl bb : Nat} {s : St} {w : World} (h : StM bk bl bb s w) : bk ≠ bl ∧ bk ≠ bb ∧ bl ≠ bb := by
  have ne : ∀ {b c : Nat} {T T' : TypeId} {cs ds : Array Value}, Ob w b T cs → Ob w c T' ds → T ≠ T' → b ≠ c := by
    rintro b c T T' cs ds h1 h2 hT rfl
    unfold Ob at h1 h2
    rw [h1] at h2
    simp only [Option.some.injEq, Obj.cells.injEq] at h2
    exact hT h2.2.1
  exact ⟨ne h.k h.l (by decide), ne h.k h.b (by decide), ne h.l h.b (by decide)⟩
/-- What the closure reads. -/
structure CapM (bs bf bg bm bd : Nat) (fr lm : Int) (f g : Fr) (mb : Nat) (d : Bool) (w : World) : Prop where
  s : Ob w bs SRT #[.int .i64 fr, .int .i64 lm]
  of : Ob w bf FRT f.cells
  og : Ob w bg FRT g.cells
  om : Ob w bm 3 #[.int .i64 (mb : Int)]
  od : Ob w bd 4 #[.bool d]
  hf : f.Mem w
  hg : g.Mem w
theorem CapM.later {bs bf bg bm bd : Nat} {fr lm : Int} {f g : Fr} {mb : Nat} {d : Bool} {w w' : World} (h : CapM bs bf bg bm bd fr lm f g mb d w) (hb : Below w.heap.size w w') : CapM bs bf bg bm bd fr lm f g mb d w' :=
  ⟨h.s.later hb, h.of.later hb, h.og.later hb, h.om.later hb, h.od.later hb, h.hf.later hb, h.hg.later hb⟩
theorem Ob.neT {w : World} {b c : Nat} {T T' : TypeId} {cs ds : Array Value} (h1 : Ob w b T cs) (h2 : Ob w c T' ds) (hT : T ≠ T') : b ≠ c := by
  rintro rfl
  unfold Ob at h1 h2
  rw [h1] at h2
  simp only [Option.some.injEq, Obj.cells.injEq] at h2
  exact hT h2.2.1
theorem Fr.Mem.ne_ob {w : World} {f : Fr} {b : Nat} {T : TypeId} {cs : Array Value} (hf : f.Mem w) (h : Ob w b T cs) (hT : T ≠ 5) : f.bY ≠ b ∧ f.bU ≠ b ∧ f.bV ≠ b :=
  ⟨(h.ne_vb hf.y.vb hT).symm, (h.ne_vb hf.u.vb hT).symm, (h.ne_vb hf.v.vb hT).symm⟩
/-- What it reads stays while it writes. -/
theorem CapM.wrf {bs bf bg bm bd bk bl bb : Nat} {fr lm : Int} {f g : Fr} {mb : Nat} {d : Bool} {s : St} {w w' : World} (h : CapM bs bf bg bm bd fr lm f g mb d w) (hs : StM bk bl bb s w) (n1 : bd ≠ bk) (n2 : bm ≠ bl) (hw : WrF bk bl bb w w') : CapM bs bf bg bm bd fr lm f g mb d w' := by
  refine ⟨h.s.wrf hw (h.s.neT hs.k (by decide)) (h.s.neT hs.l (by decide)) (h.s.neT hs.b (by decide)), h.of.wrf hw (h.of.neT hs.k (by decide)) (h.of.neT hs.l (by decide)) (h.of.neT hs.b (by decide)), h.og.wrf hw (h.og.neT hs.k (by decide)) (h.og.neT hs.l (by decide)) (h.og.neT hs.b (by decide)), h.om.wrf hw (h.om.neT hs.k (by decide)) n2 (h.om.neT hs.b (by decide)), h.od.wrf hw n1 (h.od.neT hs.l (by decide)) (h.od.neT hs.b (by decide)), ?_, ?_⟩
  · have a := h.hf.ne_ob hs.k (by decide); have b := h.hf.ne_ob hs.l (by decide); have c := h.hf.ne_ob hs.b (by decide)
    exact h.hf.wrf hw ⟨a.1, b.1, c.1⟩ ⟨a.2.1, b.2.1, c.2.1⟩ ⟨a.2.2, b.2.2, c.2.2⟩
  · have a := h.hg.ne_ob hs.k (by decide); have b := h.hg.ne_ob hs.l (by decide); have c := h.hg.ne_ob hs.b (by decide)
    exact h.hg.wrf hw ⟨a.1, b.1, c.1⟩ ⟨a.2.1, b.2.1, c.2.1⟩ ⟨a.2.2, b.2.2, c.2.2⟩

theorem WrF.cell {a b c x k : Nat} {w w' : World} (h : WrF a b c w w') (hx : x < w.heap.size) (h1 : x ≠ a) (h2 : x ≠ b) (h3 : x ≠ c) : w'.cell? ⟨x, k, none⟩ = w.cell? ⟨x, k, none⟩ := by
  have e := h.block x hx h1 h2 h3
  unfold World.cell?
  simp only [e]
theorem v4_al2 {x y : Int} (hx : -31 ≤ x ∧ x ≤ 31) (hy : -31 ≤ y ∧ y ≤ 31) : V4b (fun _ => x) (fun _ => y) := fun k _ => ⟨⟨by show -32 ≤ x; omega, by show x ≤ 32; omega⟩, by show -32 ≤ y; omega, by show y ≤ 32; omega⟩
def alwA (lm : Int) (f : Fr) (mb : Nat) (x _y : Int) : Bool := alwB lm f.c mb (fun _ => x)
def whoA (f g : Fr) (mb : Nat) (d : Bool) (x y : Int) : Int := wholeF f g mb x y d
def ptr (b : Nat) : Value := .pointer (some ⟨b, 0, none⟩)
theorem tryL_step {A : Int → Int → Bool} {F : Int → Int → Int} {s : St} {L : List (Int × Int)} {j : Nat} (h : j < L.length) : tryL A F s (L.take (j + 1)) = tryS A F (tryL A F s (L.take j)) L[j] := by
  unfold tryL
  rw [List.take_succ_eq_append_getElem h, List.foldl_append]; rfl
set_option maxRecDepth 1000000 in
set_option maxHeartbeats 8000000 in
theorem try_any (bs bf bg bm bd bk bl bb : Nat) (fr lm : Int) (f g : Fr) (mb : Nat) (d : Bool) (s : St) (p : Option Addr) (c : Nat) (L : List (Int × Int)) (w : World) (hC : CapM bs bf bg bm bd fr lm f g mb d w) (hS : StM bk bl bb s w) (n1 : bd ≠ bk) (n2 : bm ≠ bl)
    (hL : SL w p L.length (listF L)) (hp : ∀ b o, p = some ⟨b, o, none⟩ → b ≠ bk ∧ b ≠ bl ∧ b ≠ bb) (hLb : ∀ v ∈ L, (-31 ≤ v.1 ∧ v.1 ≤ 31) ∧ (-31 ≤ v.2 ∧ v.2 ≤ 31)) (hLn : L.length ≤ 5000) (h1 : 0 < f.c) (hgc : 0 < g.c) (hm : mb ≤ 1000000) :
    Calls Try.prog 104 #[.slice p L.length c, ptr bs, ptr bf, ptr bm, ptr bg, ptr bd, ptr bk, ptr bl, ptr bb] w fun e w' => e = .returned (.tuple #[]) ∧ StM bk bl bb (tryL (alwA lm f mb) (whoA f g mb d) s L) w' ∧ WrF bk bl bb w w' := by
  have hc8 := hC.hf.hc
  have hHW : WrF bk bl bb w w := WrF.refl _ _ _ _
  replace hp := Lib.hid hp; replace hLb := Lib.hid hLb; replace hL := Lib.hid hL
  have h0 : tryL (alwA lm f mb) (whoA f g mb d) s (L.take 0) = s := rfl
  have hEnd : tryL (alwA lm f mb) (whoA f g mb d) s (L.take L.length) = tryL (alwA lm f mb) (whoA f g mb d) s L := by rw [List.take_length]
  replace h0 := Lib.hid h0; replace hEnd := Lib.hid hEnd
  unfold ptr
  go_enter Try.func104, Try.ntmps104
  go_wp2_with fail
  go_loopw [15] (fun t wr => ∃ j : Nat, j ≤ L.length ∧ t = .int .i64 (j : Int) ∧ StM bk bl bb (tryL (alwA lm f mb) (whoA f g mb d) s (L.take j)) wr ∧ CapM bs bf bg bm bd fr lm f g mb d wr ∧ WrF bk bl bb w wr) (fun t _ => L.length - (intOf t).toNat)
  case atStart => exact ⟨0, by omega, rfl, by rw [h0.out]; exact hS, hC, hHW⟩
  case round =>
    clear hS hC hHW h0
    obtain ⟨j, hj, rfl, hS, hC, hHW⟩ := hrel
    by_cases hjl : j < L.length
    · have hd : decide ((j : Int) < (L.length : Int)) = true := by simp; omega
      have j0 : (0 : Int) ≤ j := by omega
      have hst := tryL_step (A := alwA lm f mb) (F := whoA f g mb d) (s := s) hjl
      have hvb := hLb.out _ (List.getElem_mem hjl)
      obtain ⟨b, o, rfl, hb, hc2⟩ : ∃ b o, p = some ⟨b, o, none⟩ ∧ b < w.heap.size ∧ ∀ k, k < L.length → w.cell? ⟨b, o + k, none⟩ = some (listF L k) := by
        rcases hL.out with h | h
        · omega
        · exact h
      obtain ⟨p1, p2, p3⟩ := hp.out b o rfl
      have c0 : wr.cell? ⟨b, o + j, none⟩ = some (vcV L[j].1 L[j].2) := by
        rw [hHW.cell hb p1 p2 p3, hc2 j hjl]
        unfold listF pV
        rw [List.getD_eq_getElem?_getD, List.getElem?_eq_getElem hjl]; rfl
      clear hc2
      obtain ⟨x, hx⟩ : ∃ x, L[j].1 = x := ⟨_, rfl⟩
      obtain ⟨y, hy⟩ : ∃ y, L[j].2 = y := ⟨_, rfl⟩
      obtain ⟨S, hSe⟩ : ∃ S, tryL (alwA lm f mb) (whoA f g mb d) s (L.take j) = S := ⟨_, rfl⟩
      rw [hSe] at hst hS
      unfold tryS at hst
      rw [hx, hy] at hst hvb c0
      obtain ⟨⟨x1, x2⟩, y1, y2⟩ := hvb
      have hal := fun W => all_any x y W
      have halw : ∀ W, Calls Try.prog 105 #[.agg #[.int .i64 fr, .int .i64 lm], .int .i64 (f.c : Int), .int .i64 (mb : Int), .agg (fcells 4 (vc4 (fun _ => x) (fun _ => y)))] W fun e w' => e = .returned (.bool (alwA lm f mb x y)) ∧ Below W.heap.size W w' := fun W => allowed_any fr lm f.c mb (fun _ => x) (fun _ => y) W h1 hc8 hm (v4_al2 ⟨x1, x2⟩ ⟨y1, y2⟩)
      have hwh : ∀ W, f.Mem W → g.Mem W → Calls Try.prog 106 #[.agg f.cells, .agg g.cells, .int .i64 (mb : Int), vcV x y, .bool d] W fun e w' => e = .returned (.int .i64 (whoA f g mb d x y)) ∧ Below W.heap.size W w' := fun W a1 a2 => whole28_any f g mb x y d W h1 a1 a2 hgc hm ⟨⟨by omega, by omega⟩, by omega, by omega⟩
      unfold vcV at hal hwh c0
      obtain ⟨r, hr⟩ : ∃ r, alwA lm f mb x y = r := ⟨_, rfl⟩
      obtain ⟨V, hV⟩ : ∃ V, whoA f g mb d x y = V := ⟨_, rfl⟩
      rw [hr] at halw hst; rw [hV] at hwh hst
      replace hal := Lib.hid hal; replace halw := Lib.hid halw; replace hwh := Lib.hid hwh; replace hr := Lib.hid hr; replace hV := Lib.hid hV; replace hx := Lib.hid hx; replace hy := Lib.hid hy; replace hSe := Lib.hid hSe; replace hst := Lib.hid hst
      have e0 := fun p => (hC.s.re p).cell 0 (v := .int .i64 fr) rfl; have e1 := fun p => (hC.s.re p).cell 1 (v := .int .i64 lm) rfl
      have e2 := fun p => (hC.of.re p).fC; have e3 := fun p => (hC.om.re p).cell 0 (v := .int .i64 (mb : Int)) rfl
      go_wp2_with fail
      refine wp_region_quiet_below (by kernel_rfl) (by kernel_rfl) ?_
      repeat (go_big_quiet_step (first | (go_at_call 45; with_reducible exact Calls.regrown_of (hal.out _)) | (go_at_call 105; with_reducible exact Calls.regrown_of (halw.out _))))
      refine wpQuiet_nil ?_
      intro wq hwq
      replace hwq := Cls.below hwq
      clear e0 e1 e2 e3 c0
      replace hS := hS.later hwq; replace hC := hC.later hwq; replace hHW := hHW.step hwq
      clear hwq
      cases r
      · have hst2 := hst.out
        rw [if_neg (by simp)] at hst2
        replace hst2 := Lib.hid hst2
        go_wp2_with fail
        exact ⟨⟨j + 1, by omega, by go_num, by rw [hst2.out]; exact hS, hC, hHW⟩, by simp [intOf]; omega⟩
      · have hst2 := hst.out
        rw [if_pos rfl] at hst2
        replace hst2 := Lib.hid hst2
        have m0 := hC.om.cell 0 (v := .int .i64 (mb : Int)) rfl; have m1 := hC.od.cell 0 (v := .bool d) rfl
        have HF := hC.of; have HG := hC.og
        go_wp2_with (first | (refine wpList_load_ob_g HF rfl 43 _ rfl rfl Try.underlying43 (by kernel_rfl) ?_) | (refine wpList_load_ob_g HG rfl 43 _ rfl rfl Try.underlying43 (by kernel_rfl) ?_))
        refine (hwh.out _ hC.hf hC.hg).mono ?_
        rintro e w6 ⟨rfl, hb6⟩
        clear m0 m1 HF HG
        replace hS := hS.later hb6; replace hC := hC.later hb6; replace hHW := hHW.step hb6
        clear hb6
        obtain ⟨nn1, nn2, nn3⟩ := hS.ne
        have k0 := hS.k.cell 0 (v := .bool S.ok) rfl; have l0 := hS.l.cell 0 (v := .int .i64 S.n) rfl
        have fk := hS.k.free 0; have fl := hS.l.free 0; have fb := hS.b.free 0
        have b0 := hS.b.cell 0 (v := vcV S.x S.y) rfl
        have kk1 : (⟨bb, 0, none⟩ : Addr) ≠ ⟨bl, 0, none⟩ := by intro h; injection h; omega
        cases hok : S.ok
        · have hst3 := hst2.out
          rw [if_pos (Or.inl hok)] at hst3
          rw [hok] at k0
          replace hst3 := Lib.hid hst3; replace hok := Lib.hid hok
          go_wp2_with fail
          generalize hwB : ((w6.setCell ⟨bb, 0, none⟩ (.complex .f64 (fbits x) (fbits y))).setCell ⟨bl, 0, none⟩ (.int .i64 V)).setCell ⟨bk, 0, none⟩ (.bool true) = wB
          have hwf : WrF bk bl bb w6 wB := by
            rw [← hwB]
            exact (((WrF.refl bk bl bb w6).wr ((Wr.refl bb w6).setCell 0 _) (Or.inr (Or.inr rfl))).wr ((Wr.refl bl _).setCell 0 _) (Or.inr (Or.inl rfl))).wr ((Wr.refl bk _).setCell 0 _) (Or.inl rfl)
          have hS2 : StM bk bl bb ⟨x, y, V, true⟩ wB := by
            rw [← hwB]
            exact ⟨((hS.k.other (Ne.symm nn2) 0 _).other (Ne.symm nn1) 0 _).set 0 (.bool true), ((hS.l.other (Ne.symm nn3) 0 _).set 0 (.int .i64 V)).other nn1 0 _, ((hS.b.set 0 (.complex .f64 (fbits x) (fbits y))).other nn3 0 _).other nn2 0 _⟩
          replace hC := hC.wrf hS n1 n2 hwf
          replace hHW := hHW.trans hwf
          clear hwB hwf
          exact ⟨⟨j + 1, by omega, by go_num, by rw [hst3.out]; exact hS2, hC, hHW⟩, by simp [intOf]; omega⟩
        · rw [hok] at k0
          by_cases hVn : V < S.n
          · have hst3 := hst2.out
            rw [if_pos (Or.inr hVn)] at hst3
            have hdv : decide (V < S.n) = true := by simpa using hVn
            replace hst3 := Lib.hid hst3; replace hok := Lib.hid hok
            go_wp2_with fail
            generalize hwB : ((w6.setCell ⟨bb, 0, none⟩ (.complex .f64 (fbits x) (fbits y))).setCell ⟨bl, 0, none⟩ (.int .i64 V)).setCell ⟨bk, 0, none⟩ (.bool true) = wB
            have hwf : WrF bk bl bb w6 wB := by
              rw [← hwB]
              exact (((WrF.refl bk bl bb w6).wr ((Wr.refl bb w6).setCell 0 _) (Or.inr (Or.inr rfl))).wr ((Wr.refl bl _).setCell 0 _) (Or.inr (Or.inl rfl))).wr ((Wr.refl bk _).setCell 0 _) (Or.inl rfl)
            have hS2 : StM bk bl bb ⟨x, y, V, true⟩ wB := by
              rw [← hwB]
              exact ⟨((hS.k.other (Ne.symm nn2) 0 _).other (Ne.symm nn1) 0 _).set 0 (.bool true), ((hS.l.other (Ne.symm nn3) 0 _).set 0 (.int .i64 V)).other nn1 0 _, ((hS.b.set 0 (.complex .f64 (fbits x) (fbits y))).other nn3 0 _).other nn2 0 _⟩
            replace hC := hC.wrf hS n1 n2 hwf
            replace hHW := hHW.trans hwf
            clear hwB hwf
            exact ⟨⟨j + 1, by omega, by go_num, by rw [hst3.out]; exact hS2, hC, hHW⟩, by simp [intOf]; omega⟩
          · have hst3 := hst2.out
            rw [if_neg (by rw [hok]; simp; omega)] at hst3
            have hdv : decide (V < S.n) = false := by simp; omega
            replace hst3 := Lib.hid hst3; replace hok := Lib.hid hok
            go_wp2_with fail
            exact ⟨⟨j + 1, by omega, by go_num, by rw [hst3.out]; exact hS, hC, hHW⟩, by simp [intOf]; omega⟩
    · obtain rfl : j = L.length := by omega
      have hd : decide (((L.length : Nat) : Int) < (L.length : Int)) = false := by simp
      rw [hEnd.out] at hS
      go_wp2_with fail
      go_end0
      exact ⟨rfl, hS, hHW⟩
end Go.Proofs.Ytbldgpemocnboaa

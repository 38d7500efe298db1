/- The law's closure SearchWhole$1, walked: one try. -/
import Derived.Test.YtbldgpemocnboaaSeaM
import Derived.Test.YtbldgpemocnboaaFrRe
namespace Go.Proofs.Ytbldgpemocnboaa
open Go.RowKit Go.Sort
attribute [local go_sem ↓] run_imax run_imin

structure CapL (bf bL bn bg bd : Nat) (lm : Int) (f g : Fr) (mb : Nat) (d : Bool) (w : World) : Prop where
  of : Ob w bf FRT f.cells
  ol : Ob w bL 3 #[.int .i64 lm]
  om : Ob w bn 3 #[.int .i64 (mb : Int)]
  og : Ob w bg FRT g.cells
  od : Ob w bd 4 #[.bool d]
  hf : f.Mem w
  hg : g.Mem w
theorem CapL.later {bf bL bn bg bd : Nat} {lm : Int} {f g : Fr} {mb : Nat} {d : Bool} {w w' : World} (h : CapL bf bL bn bg bd lm f g mb d w) (hb : Below w.heap.size w w') : CapL bf bL bn bg bd lm f g mb d w' :=
  ⟨h.of.later hb, h.ol.later hb, h.om.later hb, h.og.later hb, h.od.later hb, h.hf.later hb, h.hg.later hb⟩
theorem CapL.wrf {bf bL bn bg bd bk bl bb : Nat} {lm : Int} {f g : Fr} {mb : Nat} {d : Bool} {s : St} {w w' : World} (h : CapL bf bL bn bg bd lm f g mb d w) (hs : StM bk bl bb s w) (n1 : bd ≠ bk) (n2 : bn ≠ bl) (n3 : bL ≠ bl) (hw : WrF bk bl bb w w') : CapL bf bL bn bg bd lm f g mb d w' := by
  refine ⟨h.of.wrf hw (h.of.neT hs.k (by decide)) (h.of.neT hs.l (by decide)) (h.of.neT hs.b (by decide)), h.ol.wrf hw (h.ol.neT hs.k (by decide)) n3 (h.ol.neT hs.b (by decide)), h.om.wrf hw (h.om.neT hs.k (by decide)) n2 (h.om.neT hs.b (by decide)), h.og.wrf hw (h.og.neT hs.k (by decide)) (h.og.neT hs.l (by decide)) (h.og.neT hs.b (by decide)), h.od.wrf hw n1 (h.od.neT hs.l (by decide)) (h.od.neT hs.b (by decide)), ?_, ?_⟩
  · have a := h.hf.ne_ob hs.k (by decide); have b := h.hf.ne_ob hs.l (by decide); have c := h.hf.ne_ob hs.b (by decide)
    exact h.hf.wrf hw ⟨a.1, b.1, c.1⟩ ⟨a.2.1, b.2.1, c.2.1⟩ ⟨a.2.2, b.2.2, c.2.2⟩
  · have a := h.hg.ne_ob hs.k (by decide); have b := h.hg.ne_ob hs.l (by decide); have c := h.hg.ne_ob hs.b (by decide)
    exact h.hg.wrf hw ⟨a.1, b.1, c.1⟩ ⟨a.2.1, b.2.1, c.2.1⟩ ⟨a.2.2, b.2.2, c.2.2⟩
/-- What the law's closure lets in. -/
def mayA (lm : Int) (f : Fr) (mb : Nat) (x y : Int) : Bool := mayB lm f.c mb (fun _ => x) (fun _ => y)
set_option maxRecDepth 1000000 in
set_option maxHeartbeats 8000000 in
theorem lawTry_any (bf bL bn bg bd bk bl bb : Nat) (lm : Int) (f g : Fr) (mb : Nat) (d : Bool) (s : St) (x y : Int) (w : World) (hC : CapL bf bL bn bg bd lm f g mb d w) (hS : StM bk bl bb s w)
    (hV : V64 x y) (h1 : 0 < f.c) (hgc : 0 < g.c) (hgr : 0 < g.r) (hm : mb ≤ 1000000) :
    Calls Try.prog 54 #[vcV x y, ptr bf, ptr bL, ptr bn, ptr bg, ptr bd, ptr bk, ptr bl, ptr bb] w fun e w' => e = .returned (.tuple #[]) ∧ StM bk bl bb (tryS (mayA lm f mb) (whoA f g mb d) s (x, y)) w' ∧ WrF bk bl bb w w' := by
  have hc8 := hC.hf.hc
  have hHW : WrF bk bl bb w w := WrF.refl _ _ _ _
  have hal := fun W => all_any x y W
  have hmy : ∀ W, Calls Try.prog 55 #[.int .i64 (f.c : Int), .int .i64 lm, .int .i64 (mb : Int), .agg (fcells 4 (vc4 (fun _ => x) (fun _ => y)))] W fun e w' => e = .returned (.bool (mayA lm f mb x y)) ∧ Below W.heap.size W w' := fun W => may_any f.c mb lm (fun _ => x) (fun _ => y) W h1 hc8 hm (fun _ _ => hV)
  have hla : ∀ k : Nat, k < 4 → ∀ W, f.Mem W → g.Mem W → Calls Try.prog 56 #[.agg f.cells, .agg g.cells, .int .i64 (mb : Int), .int .i64 (k : Int), vcV x y, .bool d] W fun e w' => e = .returned (.int .i64 (awayF f g mb k x y d)) ∧ Below W.heap.size W w' := fun k hk W h2 h3 => lawAway_any f g mb k x y d W h1 h2 h3 hgc hgr hk hm hV
  have bA : ∀ k, 0 ≤ awayF f g mb k x y d ∧ awayF f g mb k x y d ≤ 16320 := fun k => awayF_bd hC.hf hC.hg
  obtain ⟨A, hA⟩ : ∃ A : Nat → Int, (fun k => awayF f g mb k x y d) = A := ⟨_, rfl⟩
  have hA2 : ∀ k, awayF f g mb k x y d = A k := fun k => by rw [← hA]
  have hwho : whoA f g mb d x y = sumTo A 4 := by rw [← hA]; rfl
  simp only [hA2] at bA hla
  have hst : tryS (mayA lm f mb) (whoA f g mb d) s (x, y) = tryS (mayA lm f mb) (whoA f g mb d) s (x, y) := rfl
  obtain ⟨S2, hS2⟩ : ∃ S, tryS (mayA lm f mb) (whoA f g mb d) s (x, y) = S := ⟨_, rfl⟩
  clear hst
  rw [hS2]
  unfold tryS at hS2
  rw [show ((x, y) : Int × Int).1 = x from rfl, show ((x, y) : Int × Int).2 = y from rfl, hwho] at hS2
  unfold vcV at hal hla ⊢
  obtain ⟨r, hr⟩ : ∃ r, mayA lm f mb x y = r := ⟨_, rfl⟩
  rw [hr] at hmy hS2
  replace hA := Lib.hid hA; replace hA2 := Lib.hid hA2; replace hwho := Lib.hid hwho; replace hr := Lib.hid hr; replace hS2 := Lib.hid hS2; replace bA := Lib.hid bA; replace hla := Lib.hid hla; replace hal := Lib.hid hal; replace hmy := Lib.hid hmy; replace hV := Lib.hid hV
  unfold ptr
  go_enter Try.func54, Try.ntmps54
  have e0 := fun p => (hC.of.re p).fC; have e1 := fun p => (hC.ol.re p).cell 0 (v := .int .i64 lm) rfl; have e3 := fun p => (hC.om.re p).cell 0 (v := .int .i64 (mb : Int)) rfl
  go_wp2_with fail
  refine wp_region_quiet_below (by kernel_rfl) (by kernel_rfl) ?_
  repeat (go_big_quiet_step (first | (go_at_call 45; with_reducible exact Calls.regrown_of (hal.out _)) | (go_at_call 55; with_reducible exact Calls.regrown_of (hmy.out _))))
  refine wpQuiet_nil ?_
  intro wq hwq
  replace hwq := Cls.below hwq
  clear e0 e1 e3
  replace hS := hS.later hwq; replace hC := hC.later hwq; replace hHW := hHW.step hwq
  clear hwq
  cases r
  · have hst2 := hS2.out
    rw [if_neg (by simp)] at hst2
    subst hst2
    go_wp2_with fail
    refine bodyPost_ret (results_none rfl _ _ _) rfl ?_
    exact ⟨rfl, hS, hHW⟩
  have hst2 := hS2.out
  rw [if_pos rfl] at hst2
  replace hst2 := Lib.hid hst2
  go_wp2_with fail
  go_loopw [10, 20] (fun t i wr => ∃ k : Nat, k ≤ 4 ∧ i = .int .i64 (k : Int) ∧ t = .int .i64 (sumTo A k) ∧ StM bk bl bb s wr ∧ CapL bf bL bn bg bd lm f g mb d wr ∧ WrF bk bl bb w wr) (fun _ i _ => 4 - (intOf i).toNat)
  case atStart => exact ⟨0, by omega, rfl, rfl, hS, hC, hHW⟩
  case round =>
    clear hS hC hHW
    obtain ⟨k, hk, rfl, rfl, hS, hC, hHW⟩ := hrel
    obtain ⟨s1, s2⟩ := sumTo_bd bA.out k
    have s3 : sumTo A k ≤ 100000 := by omega
    clear s2
    by_cases hk4 : k < 4
    · have hd : decide ((k : Int) < 4) = true := by simp; omega
      obtain ⟨a1, a2⟩ := bA.out k
      have hla2 := hla.out k hk4
      replace hla2 := Lib.hid hla2
      have hnA : Hid (sumTo A (k + 1) = sumTo A k + A k) := Lib.hid rfl
      generalize sumTo A k = Z at *
      have m0 := hC.om.cell 0 (v := .int .i64 (mb : Int)) rfl; have m1 := hC.od.cell 0 (v := .bool d) rfl
      have HF := hC.of; have HG := hC.og
      go_wp2_with (first | (refine wpList_load_ob_g HF rfl 43 _ rfl rfl Try.underlying43 (by kernel_rfl) ?_) | (refine wpList_load_ob_g HG rfl 43 _ rfl rfl Try.underlying43 (by kernel_rfl) ?_))
      refine (hla2.out _ hC.hf hC.hg).mono ?_
      rintro e w6 ⟨rfl, hb6⟩
      clear m0 m1 HF HG
      replace hS := hS.later hb6; replace hC := hC.later hb6; replace hHW := hHW.step hb6
      clear hb6
      go_wp2_with fail
      exact ⟨⟨k + 1, by omega, by go_num, by rw [hnA.out], hS, hC, hHW⟩, by simp [intOf]; omega⟩
    · obtain rfl : k = 4 := by omega
      have hd : decide (((4 : Nat) : Int) < 4) = false := by simp
      obtain ⟨V, hV2⟩ : ∃ V, sumTo A 4 = V := ⟨_, rfl⟩
      rw [hV2] at s1 s3 hst2 ⊢
      replace hV2 := Lib.hid hV2
      obtain ⟨nn1, nn2, nn3⟩ := hS.ne
      have k0 := hS.k.cell 0 (v := .bool s.ok) rfl; have l0 := hS.l.cell 0 (v := .int .i64 s.n) rfl
      have fk := hS.k.free 0; have fl := hS.l.free 0; have fb := hS.b.free 0
      have b0 := hS.b.cell 0 (v := vcV s.x s.y) rfl
      have kk1 : (⟨bb, 0, none⟩ : Addr) ≠ ⟨bl, 0, none⟩ := by intro h; injection h; omega
      have hfin : ∀ wB, ((wr.setCell ⟨bb, 0, none⟩ (.complex .f64 (fbits x) (fbits y))).setCell ⟨bl, 0, none⟩ (.int .i64 V)).setCell ⟨bk, 0, none⟩ (.bool true) = wB → StM bk bl bb ⟨x, y, V, true⟩ wB ∧ WrF bk bl bb w wB := fun wB hwB => by
        rw [← hwB]
        exact ⟨⟨((hS.k.other (Ne.symm nn2) 0 _).other (Ne.symm nn1) 0 _).set 0 (.bool true), ((hS.l.other (Ne.symm nn3) 0 _).set 0 (.int .i64 V)).other nn1 0 _, ((hS.b.set 0 (.complex .f64 (fbits x) (fbits y))).other nn3 0 _).other nn2 0 _⟩,
          hHW.trans ((((WrF.refl bk bl bb wr).wr ((Wr.refl bb wr).setCell 0 _) (Or.inr (Or.inr rfl))).wr ((Wr.refl bl _).setCell 0 _) (Or.inr (Or.inl rfl))).wr ((Wr.refl bk _).setCell 0 _) (Or.inl rfl))⟩
      cases hok : s.ok
      · have hst3 := hst2.out
        rw [if_pos (Or.inl hok)] at hst3
        rw [hok] at k0
        subst hst3
        replace hok := Lib.hid hok
        go_wp2_with fail
        go_end0
        obtain ⟨h3, h4⟩ := hfin _ rfl
        exact ⟨rfl, h3, h4⟩
      · rw [hok] at k0
        by_cases hVn : V < s.n
        · have hst3 := hst2.out
          rw [if_pos (Or.inr hVn)] at hst3
          have hdv : decide (V < s.n) = true := by simpa using hVn
          subst hst3
          replace hok := Lib.hid hok
          go_wp2_with fail
          go_end0
          obtain ⟨h3, h4⟩ := hfin _ rfl
          exact ⟨rfl, h3, h4⟩
        · have hst3 := hst2.out
          rw [if_neg (by rw [hok]; simp; omega)] at hst3
          have hdv : decide (V < s.n) = false := by simp; omega
          subst hst3
          replace hok := Lib.hid hok
          go_wp2_with fail
          go_end0
          exact ⟨rfl, hS, hHW⟩
/-- A try of the law's is a try of the search's where the vector is right. -/
def rightL (x y : Int) : Option (Int × Int) := if rightB x y = true then some (x, y) else none
theorem may_step {lm : Int} {f : Fr} {mb : Nat} {F : Int → Int → Int} {s : St} (x y : Int) : tryS (mayA lm f mb) F s (x, y) = tryL (alwA lm f mb) F s (rightL x y).toList := by
  have e : mayA lm f mb x y = (rightB x y && alwA lm f mb x y) := by
    unfold mayA mayB rightAll rightAll rightAll rightAll rightAll alwA
    cases rightB x y <;> rfl
  unfold rightL
  cases hr : rightB x y
  · rw [if_neg (by simp)]
    show tryS (mayA lm f mb) F s (x, y) = s
    unfold tryS
    rw [e, hr, Bool.false_and, if_neg (by simp)]
  · rw [if_pos rfl]
    show tryS (mayA lm f mb) F s (x, y) = tryS (alwA lm f mb) F s (x, y)
    unfold tryS
    rw [e, hr, Bool.true_and]
theorem tryL_app {A : Int → Int → Bool} {F : Int → Int → Int} {s : St} (L M : List (Int × Int)) : tryL A F s (L ++ M) = tryL A F (tryL A F s L) M := by
  unfold tryL; rw [List.foldl_append]
end Go.Proofs.Ytbldgpemocnboaa

/- conceal's Spread, walked. -/
import Derived.Test.YtbldgpemocnboaaSpr
import Derived.Test.YtbldgpemocnboaaDm
import Derived.Test.YtbldgpemocnboaaSm
import Derived.Test.YtbldgpemocnboaaStr
import Derived.Deep.DeepCutAuto
import Derived.Deep.CutBlock
namespace Go.Proofs.Ytbldgpemocnboaa
open Go.RowKit Go.Sort
attribute [local go_sem ↓] run_imax run_imin

theorem VB.ne_vb {w : World} {b c n m : Nat} {T T' : TypeId} {f g : Nat → Value} (h : VB w b T n f) (h' : VB w c T' m g) (hT : T ≠ T') : b ≠ c := by
  rintro rfl
  obtain ⟨_, F, _, hA, _⟩ := h
  obtain ⟨_, G, _, hB, _⟩ := h'
  unfold Blk at hA hB
  rw [hA] at hB
  simp only [Option.some.injEq, Obj.cells.injEq] at hB
  exact hT hB.2.1
theorem Ob.sC {w : World} {q : Nat} {f : Fr} (h : Ob w q FRT f.cells) : w.cell? ⟨q, 0, none⟩ = some (.int .i64 (f.c : Int)) := h.cell 0 rfl
theorem Ob.sR {w : World} {q : Nat} {f : Fr} (h : Ob w q FRT f.cells) : w.cell? ⟨q, 1, none⟩ = some (.int .i64 (f.r : Int)) := h.cell 1 rfl
/-- Which rows are damaged, in a macroblock's column. -/
def colR (B : Nat → Bool) (c mb : Nat) (r : Nat) : Bool := B (r * c + mb % c)
def upOf (B : Nat → Bool) (c mb : Nat) : Int := upR (colR B c mb) (mb / c + 1)
def dnOf (B : Nat → Bool) (c r mb : Nat) : Nat := dnR (colR B c mb) (r - mb / c) (mb / c)
def SpreadP (f : Fr) (mb : Nat) (u : Int) (d : Nat) (w : World) (e : Ending) (w' : World) : Prop := e = .returned (.tuple #[]) ∧ ∃ x : Fr, SprR f mb u d 6 x ∧ x.Mem w' ∧ WrF f.bY f.bU f.bV w w'

theorem SprR.pw {f x : Fr} {mb d n : Nat} {u : Int} (H : SprR f mb u d n x) (k : Nat) : x.pw k = f.pw k ∧ x.ph k = f.ph k ∧ x.pb k = f.pb k ∧ x.pc k = f.pc k ∧ x.cells = f.cells ∧ x.c = f.c ∧ x.r = f.r := by
  obtain ⟨sY, sU, sV, rfl⟩ := H.sm; exact ⟨rfl, rfl, rfl, rfl, rfl, rfl, rfl⟩
theorem SprR.nb {f x : Fr} {mb d n : Nat} {u : Int} (H : SprR f mb u d n x) : f.bY = x.bY ∧ f.bU = x.bU ∧ f.bV = x.bV := by
  obtain ⟨sY, sU, sV, rfl⟩ := H.sm; exact ⟨rfl, rfl, rfl⟩
theorem WrF.setNew {a b c z : Nat} {w w1 : World} (h : WrF a b c w w1) (hz : w.heap.size ≤ z) (k : Nat) (v : Value) : WrF a b c w (w1.setCell ⟨z, k, none⟩ v) :=
  ⟨h.os, h.tape, h.output, by simp [World.setCell]; exact h.size, fun j hj e1 e2 e3 => by rw [Below.heap_setCell _ _ _ _ (by show j ≠ z; omega)]; exact h.block j hj e1 e2 e3⟩
theorem nat_row {q c col r : Nat} (hq : q < r) (hcol : col < c) : q * c + col < c * r := by
  have : (q + 1) * c ≤ r * c := Nat.mul_le_mul_right _ hq
  rw [Nat.add_mul, Nat.one_mul] at this
  rw [Nat.mul_comm c r]; omega
theorem has_row {n : Nat} {B : Nat → Bool} {i : Nat} (h : i < n) : dmHas n B (i : Int) = B i := by
  unfold dmHas; simp [h]
theorem has_neg {n : Nat} {B : Nat → Bool} {z : Int} (h : z < 0) : dmHas n B z = false := by
  unfold dmHas; simp; omega

set_option maxRecDepth 1000000 in
set_option maxHeartbeats 8000000 in
theorem spread_any (f : Fr) (b mc : Nat) (B : Nat → Bool) (mb : Nat) (w : World) (h1 : 0 < f.c) (h2 : 0 < f.r) (hm : mb < f.c * f.r) (hM : f.Mem w) (hB : VB w b 4 (f.c * f.r) (blv B)) :
    Calls Try.prog 50 #[f.val, dmV f.c f.r b (f.c * f.r) mc, .int .i64 (mb : Int)] w (SpreadP f mb (upOf B f.c mb) (dnOf B f.c f.r mb) w) := by
  have hc8 := hM.hc; have hr8 := hM.hr
  have hn64 : f.c * f.r ≤ 64 := Nat.mul_le_mul hc8 hr8
  have hbY := hB.ne_vb hM.y.vb (by decide); have hbU := hB.ne_vb hM.u.vb (by decide); have hbV := hB.ne_vb hM.v.vb (by decide)
  have uY := hM.y.lt; have uU := hM.u.lt; have uV := hM.v.lt; have uB := hB.lt
  obtain ⟨hmc, hmr⟩ := mbdm h1 hm
  have hdm : mb / f.c * f.c + mb % f.c = mb := by rw [Nat.mul_comm]; exact Nat.div_add_mod mb f.c
  have hra := rows_around (colR B f.c mb) hmr
  have hub := upR_bd (colR B f.c mb) (mb / f.c + 1)
  have hdb := dnR_bd (colR B f.c mb) (f.r - mb / f.c) (mb / f.c)
  obtain ⟨U, hU⟩ : ∃ U, upOf B f.c mb = U := ⟨_, rfl⟩
  obtain ⟨D, hD⟩ : ∃ D, dnOf B f.c f.r mb = D := ⟨_, rfl⟩
  obtain ⟨row, hrow⟩ : ∃ row, mb / f.c = row := ⟨_, rfl⟩
  obtain ⟨col, hcol⟩ : ∃ col, mb % f.c = col := ⟨_, rfl⟩
  rw [hU, hD]
  unfold upOf at hU; unfold dnOf at hD
  rw [hU, hD] at hra; rw [hU] at hub; rw [hD] at hdb
  rw [hrow] at hU hD hmr hra hub hdb hdm
  rw [hcol] at hmc hdm
  have hB0 : ∀ q, q < f.r → q * f.c + col < f.c * f.r := fun q hq => nat_row hq hmc
  have hcR : ∀ q, colR B f.c mb q = B (q * f.c + col) := fun q => by unfold colR; rw [hcol]
  replace hU := Lib.hid hU; replace hD := Lib.hid hD; replace hrow := Lib.hid hrow; replace hcol := Lib.hid hcol; replace hra := Lib.hid hra; replace hcR := Lib.hid hcR; replace hB0 := Lib.hid hB0; replace hdm := Lib.hid hdm
  unfold Fr.val dmV
  go_enter Try.func50, Try.ntmps50
  have HF : Ob ((w.alloc (.cells f.cells FRT)).alloc (.cells (dmC f.c f.r b (f.c * f.r) mc) DMT)) w.heap.size FRT f.cells := (Ob.new_at _ _ rfl).alloc _
  have HM : Ob ((w.alloc (.cells f.cells FRT)).alloc (.cells (dmC f.c f.r b (f.c * f.r) mc) DMT)) (w.heap.size + 1) DMT (dmC f.c f.r b (f.c * f.r) mc) := Ob.new_at _ _ (by simp)
  have HW : WrF f.bY f.bU f.bV w ((w.alloc (.cells f.cells FRT)).alloc (.cells (dmC f.c f.r b (f.c * f.r) mc) DMT)) := ((WrF.refl _ _ _ _).alloc _).alloc _
  replace hM := (hM.alloc (.cells f.cells FRT)).alloc (.cells (dmC f.c f.r b (f.c * f.r) mc) DMT)
  replace hB := (hB.alloc (.cells f.cells FRT)).alloc (.cells (dmC f.c f.r b (f.c * f.r) mc) DMT)
  go_wp2_with (refine wpList_load_ob_g HF rfl _ _ rfl rfl Try.underlying43 (by kernel_rfl) ?_)
  generalize (w.alloc (.cells f.cells FRT)).alloc (.cells (dmC f.c f.r b (f.c * f.r) mc) DMT) = w2 at *
  refine (check_ok f w2 h1 hc8 h2 hr8).mono ?_
  rintro e w3 ⟨rfl, hb⟩
  replace HF := HF.later hb; replace HM := HM.later hb; replace hM := hM.later hb; replace hB := hB.later hb; replace HW := HW.step hb
  clear hb
  have g0 := HF.sC; have g1 := HF.sR; have g2 := HM.mC; have g3 := HM.mR; have g4 := HM.mS
  have d0 : decide (f.c * f.r ≤ mb) = false := by simpa using hm
  have p0 : (0 : Int) ≤ (f.c : Int) * (f.r : Int) := by rw [← Int.natCast_mul]; omega
  have p1 : (f.c : Int) * (f.r : Int) ≤ 64 := by rw [← Int.natCast_mul]; omega
  go_upto_block 0 with fail
  clear d0 p0 p1 g0 g1 g2 g3 g4
  have hcolb : col ≤ 7 := by omega
  have hrowb : row ≤ 7 := by omega
  have hmb0 : (mb : Int) = ((row + 1 : Nat) : Int) * (f.c : Int) - (f.c : Int) + (col : Int) := by
    have h9 := hdm.out
    rw [Int.natCast_add, Int.add_mul, ← Int.natCast_mul]
    omega
  replace hmb0 := Lib.hid hmb0
  go_cut [6] (fun t wx => t = .int .i64 (U * (f.c : Int) + (col : Int)) ∧ Ob wx w.heap.size FRT f.cells ∧ Ob wx (w.heap.size + 1) DMT (dmC f.c f.r b (f.c * f.r) mc) ∧ f.Mem wx ∧ VB wx b 4 (f.c * f.r) (blv B) ∧ WrF f.bY f.bU f.bV w wx)
  case first =>
    go_wp2_with fail
    go_loopw [6] (fun t wr => ∃ (q : Nat) (z : Int), q ≤ row + 1 ∧ Hid (z = (q : Int) * (f.c : Int) - (f.c : Int) + (col : Int)) ∧ t = .int .i64 z ∧ Hid (upR (colR B f.c mb) q = U) ∧ Ob wr w.heap.size FRT f.cells ∧ Ob wr (w.heap.size + 1) DMT (dmC f.c f.r b (f.c * f.r) mc) ∧ f.Mem wr ∧ VB wr b 4 (f.c * f.r) (blv B) ∧ WrF f.bY f.bU f.bV w wr) (fun t _ => (intOf t + 8).toNat)
    case atStart => exact ⟨row + 1, _, by omega, hmb0, rfl, hU, HF, HM, hM, hB, HW⟩
    case round =>
      clear HF HM hM hB HW
      obtain ⟨q, z, hq, hz, rfl, hUq, HF, HM, hM, hB, HW⟩ := hrel
      rcases Nat.eq_zero_or_pos q with hq0 | hq0
      · have z0 : z < 0 := by have := hz.out; rw [hq0] at this; simp at this; omega
        have z1 : -8 ≤ z := by have := hz.out; rw [hq0] at this; simp at this; omega
        have d : decide (0 ≤ z) = false := by simp; omega
        go_wp2_with fail
        go_meet
        refine ⟨?_, HF, HM, hM, hB, HW⟩
        have h8 := hUq.out
        rw [hq0] at h8
        rw [← h8, hz.out, hq0]
        simp [upR]
      · obtain ⟨p, rfl⟩ : ∃ p, q = p + 1 := ⟨q - 1, by omega⟩
        have hzN : z = ((p * f.c + col : Nat) : Int) := by
          have := hz.out
          rw [this, Int.natCast_add p 1, Int.add_mul, ← Int.natCast_mul]; omega
        have hI := hB0.out p (by omega)
        have hz2 := Lib.hid (show z - (f.c : Int) = (p : Int) * (f.c : Int) - (f.c : Int) + (col : Int) by rw [hzN, Int.natCast_add, Int.natCast_mul]; omega)
        obtain ⟨I, hIe⟩ : ∃ I : Nat, p * f.c + col = I := ⟨_, rfl⟩
        rw [hIe] at hzN hI
        have hhas := dmHas_any f.c f.r b (f.c * f.r) mc B z
        have hhr : dmHas (f.c * f.r) B z = colR B f.c mb p := by rw [hzN, has_row hI, hcR.out, hIe]
        rw [hhr] at hhas
        have z0 : 0 ≤ z := by omega
        have z1 : z ≤ 64 := by omega
        have d : decide (0 ≤ z) = true := by simp; omega
        replace hzN := Lib.hid hzN
        replace hhr := Lib.hid hhr; replace hIe := Lib.hid hIe
        cases hcp : colR B f.c mb p
        · rw [hcp] at hhas
          replace hhas := Lib.hid hhas
          replace hcp := Lib.hid hcp
          go_wp2_with (refine wpList_load_ob_g HM rfl _ _ rfl rfl Try.underlying58 (by kernel_rfl) ?_)
          refine (hhas.out _ hB).mono ?_
          rintro e w4 ⟨rfl, hb⟩
          replace HF := HF.later hb; replace HM := HM.later hb; replace hM := hM.later hb; replace hB := hB.later hb; replace HW := HW.step hb
          clear hb
          go_wp2_with fail
          go_meet
          refine ⟨?_, HF, HM, hM, hB, HW⟩
          rw [← hUq.out, upR_false hcp.out, hz.out, Int.natCast_add p 1, Int.add_mul]
          congr 1; omega
        · rw [hcp] at hhas
          replace hhas := Lib.hid hhas
          replace hcp := Lib.hid hcp
          go_wp2_with (refine wpList_load_ob_g HM rfl _ _ rfl rfl Try.underlying58 (by kernel_rfl) ?_)
          refine (hhas.out _ hB).mono ?_
          rintro e w4 ⟨rfl, hb⟩
          replace HF := HF.later hb; replace HM := HM.later hb; replace hM := hM.later hb; replace hB := hB.later hb; replace HW := HW.step hb
          clear hb
          have g2 := HM.mC
          go_wp2_with fail
          exact ⟨⟨p, _, by omega, hz2, rfl, Lib.hid (by rw [← upR_true hcp.out]; exact hUq.out), HF, HM, hM, hB, HW⟩, by simp [intOf]; omega⟩
  case rest =>
    obtain ⟨rfl, HF, HM, hM, hB, HW⟩ := hcut
    have ux : U * (f.c : Int) ≤ 64 ∧ -8 ≤ U * (f.c : Int) := by
      obtain ⟨h8, h9⟩ := hub
      have e1 : (U + 1) * (f.c : Int) ≤ 9 * (f.c : Int) := Int.mul_le_mul_of_nonneg_right (by omega) (by omega)
      have e2 : 0 ≤ (U + 1) * (f.c : Int) := Int.mul_nonneg (by omega) (by omega)
      rw [Int.add_mul] at e1 e2
      omega
    obtain ⟨uP, huP⟩ : ∃ uP : Int, U * (f.c : Int) + (col : Int) = uP := ⟨_, rfl⟩
    rw [huP]
    have uP1 : -8 ≤ uP := by omega
    have uP2 : uP ≤ 80 := by omega
    replace huP := Lib.hid huP
    clear ux
    have hdm1 : decide (row * f.c + col = mb) = true := decide_eq_true hdm.out
    clear hdm1
    go_upto_block 2 with fail
    go_cut [7] (fun t wx => t = .int .i64 ((D * f.c + col : Nat) : Int) ∧ Ob wx w.heap.size FRT f.cells ∧ Ob wx (w.heap.size + 1) DMT (dmC f.c f.r b (f.c * f.r) mc) ∧ f.Mem wx ∧ VB wx b 4 (f.c * f.r) (blv B) ∧ WrF f.bY f.bU f.bV w wx)
    case first =>
      go_wp2_with fail
      go_loopw [7] (fun t wr => ∃ (q I : Nat), q ≤ f.r ∧ Hid (q * f.c + col = I) ∧ t = .int .i64 (I : Int) ∧ Hid (dnR (colR B f.c mb) (f.r - q) q = D) ∧ Ob wr w.heap.size FRT f.cells ∧ Ob wr (w.heap.size + 1) DMT (dmC f.c f.r b (f.c * f.r) mc) ∧ f.Mem wr ∧ VB wr b 4 (f.c * f.r) (blv B) ∧ WrF f.bY f.bU f.bV w wr) (fun t _ => (100 - intOf t).toNat)
      case atStart => exact ⟨row, mb, by omega, hdm, rfl, hD, HF, HM, hM, hB, HW⟩
      case round =>
        clear HF HM hM hB HW
        obtain ⟨q, I, hq, hI, rfl, hDq, HF, HM, hM, hB, HW⟩ := hrel
        have g4 := HM.mS
        rcases Nat.lt_or_ge q f.r with hqr | hqr
        · have hIn := hB0.out q hqr
          rw [hI.out] at hIn
          have d : decide ((I : Int) < (f.c : Int) * (f.r : Int)) = true := decide_eq_true (by rw [← Int.natCast_mul]; exact Int.ofNat_lt.2 hIn)
          have hhas := dmHas_any f.c f.r b (f.c * f.r) mc B (I : Int)
          have hhr : dmHas (f.c * f.r) B (I : Int) = colR B f.c mb q := by rw [has_row hIn, hcR.out, hI.out]
          rw [hhr] at hhas
          replace hhr := Lib.hid hhr
          have I1 : (0 : Int) ≤ I := by omega
          have I2 : (I : Int) ≤ 64 := by omega
          obtain ⟨fu, hfu⟩ : ∃ fu, f.r - q = fu + 1 := ⟨f.r - q - 1, by omega⟩
          cases hcp : colR B f.c mb q
          · rw [hcp] at hhas
            replace hhas := Lib.hid hhas
            replace hcp := Lib.hid hcp; replace hfu := Lib.hid hfu
            go_wp2_with (refine wpList_load_ob_g HM rfl _ _ rfl rfl Try.underlying58 (by kernel_rfl) ?_)
            refine (hhas.out _ hB).mono ?_
            rintro e w4 ⟨rfl, hb⟩
            replace HF := HF.later hb; replace HM := HM.later hb; replace hM := hM.later hb; replace hB := hB.later hb; replace HW := HW.step hb
            clear hb g4
            go_wp2_with fail
            go_meet
            refine ⟨?_, HF, HM, hM, hB, HW⟩
            rw [← hDq.out, dnR_false hcp.out, hI.out]
          · rw [hcp] at hhas
            replace hhas := Lib.hid hhas
            replace hcp := Lib.hid hcp; replace hfu := Lib.hid hfu
            go_wp2_with (refine wpList_load_ob_g HM rfl _ _ rfl rfl Try.underlying58 (by kernel_rfl) ?_)
            refine (hhas.out _ hB).mono ?_
            rintro e w4 ⟨rfl, hb⟩
            replace HF := HF.later hb; replace HM := HM.later hb; replace hM := hM.later hb; replace hB := hB.later hb; replace HW := HW.step hb
            clear hb g4
            have g2 := HM.mC
            go_wp2_with fail
            refine ⟨⟨q + 1, I + f.c, by omega, Lib.hid (by rw [Nat.add_mul, Nat.one_mul, ← hI.out]; omega), by rw [Int.natCast_add], Lib.hid ?_, HF, HM, hM, hB, HW⟩, by simp [intOf]; omega⟩
            rw [← hDq.out, hfu.out, dnR_true hcp.out, show f.r - (q + 1) = fu by have := hfu.out; omega]
        · obtain rfl : q = f.r := by omega
          have hge : f.c * f.r ≤ I := by rw [← hI.out, Nat.mul_comm f.r f.c]; omega
          have d : decide ((I : Int) < (f.c : Int) * (f.r : Int)) = false := decide_eq_false (by rw [← Int.natCast_mul]; omega)
          go_wp2_with fail
          go_meet
          refine ⟨?_, HF, HM, hM, hB, HW⟩
          have h8 := hDq.out
          rw [Nat.sub_self] at h8
          rw [← h8, ← hI.out]; rfl
    case rest =>
      obtain ⟨rfl, HF, HM, hM, hB, HW⟩ := hcut
      have dx : D * f.c ≤ 64 := Nat.mul_le_mul (show D ≤ 8 by omega) hc8
      have hquoD : ((D * f.c + col : Nat) : Int).tdiv (f.c : Int) = (D : Int) := by
        show Int.ofNat ((D * f.c + col) / f.c) = _; rw [div_of hmc]; rfl
      have hquoU : 0 ≤ U → uP.tdiv (f.c : Int) = U ∧ uP / (f.c : Int) = U := by
        intro h
        have e : uP = ((U.toNat * f.c + col : Nat) : Int) := by rw [← huP.out, Int.natCast_add, Int.natCast_mul]; congr 2; omega
        rw [e]
        refine ⟨?_, ?_⟩
        · show Int.ofNat ((U.toNat * f.c + col) / f.c) = _; rw [div_of hmc]; show ((U.toNat : Nat) : Int) = U; omega
        · rw [← Int.natCast_ediv, div_of hmc]; omega
      have hdn : D < f.r → D * f.c + col < f.c * f.r := fun h => nat_row h hmc
      have hdn2 : ¬ D < f.r → f.c * f.r ≤ D * f.c + col := fun h => by
        have : f.r * f.c ≤ D * f.c := Nat.mul_le_mul_right _ (by omega)
        rw [Nat.mul_comm f.c f.r]; omega
      have hquoD2 : ((D * f.c + col : Nat) : Int) / (f.c : Int) = (D : Int) := by rw [← Int.natCast_ediv, div_of hmc]
      obtain ⟨dP, hdP⟩ : ∃ dP : Nat, D * f.c + col = dP := ⟨_, rfl⟩
      rw [hdP] at hquoD hquoD2 hdn hdn2 ⊢
      have dP1 : dP ≤ 80 := by omega
      replace hdP := Lib.hid hdP; replace hquoD := Lib.hid hquoD; replace hquoD2 := Lib.hid hquoD2; replace hquoU := Lib.hid hquoU; replace hdn := Lib.hid hdn; replace hdn2 := Lib.hid hdn2
      clear dx
      have hx0 := SprR.start f mb U D
      go_wp2_with fail
      go_loopw [83] (fun t wr => ∃ k : Nat, k ≤ 6 ∧ t = .int .i64 (k : Int) ∧ ∃ x : Fr, SprR f mb U D k x ∧ Ob wr w.heap.size FRT f.cells ∧ Ob wr (w.heap.size + 1) DMT (dmC f.c f.r b (f.c * f.r) mc) ∧ x.Mem wr ∧ VB wr b 4 (f.c * f.r) (blv B) ∧ WrF f.bY f.bU f.bV w wr) (fun t _ => 6 - (intOf t).toNat)
      case atStart => exact ⟨0, by omega, rfl, f, hx0, HF, HM, hM, hB, HW⟩
      case round =>
        clear HF HM hM hB HW hx0
        obtain ⟨k, hk, rfl, x, hx, HF, HM, hM, hB, HW⟩ := hrel
        by_cases hk6 : k < 6
        · have hd : decide ((k : Int) < 6) = true := by simp; omega
          have k0 : (0 : Int) ≤ k := by omega
          go_wp2_with (refine wpList_load_ob_g HF rfl _ _ rfl rfl Try.underlying43 (by kernel_rfl) ?_)
          refine (frBlock_any f mb k _ h1 hc8 (by omega) hk6).mono ?_
          rintro e w4 ⟨rfl, hb⟩
          replace HF := HF.later hb; replace HM := HM.later hb; replace hM := hM.later hb; replace hB := hB.later hb; replace HW := HW.step hb
          clear hb hd
          have upp : b < w4.heap.size ∧ f.bY < w4.heap.size ∧ f.bU < w4.heap.size ∧ f.bV < w4.heap.size ∧ w.heap.size + 1 < w4.heap.size := by
            have s1 := hB.lt; have s2 := HW.size; have s3 := HM.lt
            exact ⟨s1, by omega, by omega, by omega, s3⟩
          replace upp := Lib.hid upp
          unfold Fr.blkV
          go_upto_if 95 with fail
          have HP : Ob (w4.alloc (.cells #[.int .i64 (f.pw k : Int), .int .i64 (f.ph k : Int), .slice (some ⟨f.pb k, 0, none⟩) (f.pw k * f.ph k) (f.pc k)] PLT)) w4.heap.size PLT #[.int .i64 (f.pw k : Int), .int .i64 (f.ph k : Int), .slice (some ⟨f.pb k, 0, none⟩) (f.pw k * f.ph k) (f.pc k)] := Ob.new_at _ _ rfl
          replace HF := HF.alloc (.cells #[.int .i64 (f.pw k : Int), .int .i64 (f.ph k : Int), .slice (some ⟨f.pb k, 0, none⟩) (f.pw k * f.ph k) (f.pc k)] PLT); replace HM := HM.alloc (.cells #[.int .i64 (f.pw k : Int), .int .i64 (f.ph k : Int), .slice (some ⟨f.pb k, 0, none⟩) (f.pw k * f.ph k) (f.pc k)] PLT); replace hM := hM.alloc (.cells #[.int .i64 (f.pw k : Int), .int .i64 (f.ph k : Int), .slice (some ⟨f.pb k, 0, none⟩) (f.pw k * f.ph k) (f.pc k)] PLT); replace hB := hB.alloc (.cells #[.int .i64 (f.pw k : Int), .int .i64 (f.ph k : Int), .slice (some ⟨f.pb k, 0, none⟩) (f.pw k * f.ph k) (f.pc k)] PLT); replace HW := HW.alloc (.cells #[.int .i64 (f.pw k : Int), .int .i64 (f.ph k : Int), .slice (some ⟨f.pb k, 0, none⟩) (f.pw k * f.ph k) (f.pc k)] PLT)
          generalize w4.alloc (.cells #[.int .i64 (f.pw k : Int), .int .i64 (f.ph k : Int), .slice (some ⟨f.pb k, 0, none⟩) (f.pw k * f.ph k) (f.pc k)] PLT) = w5 at *
          generalize w4.heap.size = pp at *
          go_cut [12] (fun t wx => t = .int .i64 (szk k : Int) ∧ wx = w5)
          case first =>
            by_cases h4 : k < 4
            · have d : decide ((k : Int) < 4) = true := by simp; omega
              have e : szk k = 16 := by unfold szk; rw [if_pos h4]
              replace e := Lib.hid e
              go_wp2_with fail
              go_meet
              exact ⟨by rw [e.out]; rfl, rfl⟩
            · have d : decide ((k : Int) < 4) = false := by simp; omega
              have e : szk k = 8 := by unfold szk; rw [if_neg h4]
              replace e := Lib.hid e
              go_wp2_with fail
              go_meet
              exact ⟨by rw [e.out]; rfl, rfl⟩
          case rest =>
            obtain ⟨rfl, rfl⟩ := hcut
            have hsz : szk k = 16 ∨ szk k = 8 := by unfold szk; split <;> simp
            go_upto_if 97 with fail
            go_cut [13] (fun t wx => t = .int .i64 (abv U k) ∧ wx = wc)
            case first =>
              by_cases hU0 : 0 ≤ U
              · obtain ⟨q1, q2⟩ := hquoU.out hU0
                have uP0 : 0 ≤ uP := by
                  have := huP.out
                  have e2 : 0 ≤ U * (f.c : Int) := Int.mul_nonneg hU0 (by omega)
                  omega
                have d : decide (0 ≤ uP) = true := by simpa using uP0
                have g2 := HM.mC
                have e : abv U k = (U + 1) * (szk k : Int) - 1 := by unfold abv; rw [if_neg (by omega)]
                have pb : 0 ≤ (U + 1) * (szk k : Int) ∧ (U + 1) * (szk k : Int) ≤ 128 := by
                  rcases hsz with h | h <;> rw [h] <;> omega
                obtain ⟨pb1, pb2⟩ := pb
                have fz : ((f.c : Int) == 0) = false := by simp; omega
                replace e := Lib.hid e
                go_wp2_with fail
                go_meet
                exact ⟨by rw [e.out], rfl⟩
              · have uP0 : uP < 0 := by
                  have := huP.out
                  have e2 : U = -1 := by omega
                  rw [e2] at this
                  omega
                have d : decide (0 ≤ uP) = false := by simp; omega
                have e : abv U k = -1 := by unfold abv; rw [if_pos (by omega)]
                replace e := Lib.hid e
                go_wp2_with fail
                go_meet
                exact ⟨by rw [e.out], rfl⟩
            case rest =>
              obtain ⟨rfl, rfl⟩ := hcut
              have g4 := HM.mS
              go_upto_if 110 with fail
              clear g4
              go_cut [14] (fun t wx => t = .int .i64 (blw f.r D k) ∧ wx = wc)
              case first =>
                by_cases hD0 : D < f.r
                · have q1 := hquoD.out; have q2 := hquoD2.out
                  have hlt := hdn.out hD0
                  have d : decide ((dP : Int) < (f.c : Int) * (f.r : Int)) = true := decide_eq_true (by rw [← Int.natCast_mul]; exact Int.ofNat_lt.2 hlt)
                  have g2 := HM.mC
                  have e : blw f.r D k = (D : Int) * (szk k : Int) := by unfold blw; rw [if_pos hD0, Int.natCast_mul]
                  have pb : 0 ≤ (D : Int) * (szk k : Int) ∧ (D : Int) * (szk k : Int) ≤ 128 := by
                    rcases hsz with h | h <;> rw [h] <;> omega
                  obtain ⟨pb1, pb2⟩ := pb
                  have fz : ((f.c : Int) == 0) = false := by simp; omega
                  replace e := Lib.hid e
                  go_wp2_with fail
                  go_meet
                  exact ⟨by rw [e.out], rfl⟩
                · have hge := hdn2.out hD0
                  have d : decide ((dP : Int) < (f.c : Int) * (f.r : Int)) = false := decide_eq_false (by rw [← Int.natCast_mul]; omega)
                  have e : blw f.r D k = -1 := by unfold blw; rw [if_neg hD0]
                  replace e := Lib.hid e
                  go_wp2_with fail
                  go_meet
                  exact ⟨by rw [e.out], rfl⟩
              case rest =>
                obtain ⟨rfl, rfl⟩ := hcut
                obtain ⟨A, hA⟩ : ∃ A, abv U k = A := ⟨_, rfl⟩
                obtain ⟨E, hE⟩ : ∃ E, blw f.r D k = E := ⟨_, rfl⟩
                have hAb : -1 ≤ A ∧ A ≤ 128 := by
                  rw [← hA]; unfold abv; split
                  · omega
                  · rcases hsz with h | h <;> rw [h] <;> omega
                have hEb : -1 ≤ E ∧ E ≤ 128 := by
                  rw [← hE]; unfold blw; split
                  · rcases hsz with h | h <;> rw [h] <;> omega
                  · omega
                obtain ⟨y1, y2, y3, y4⟩ := f.pxy_bd (show mb ≤ 1000000 by omega) hk6
                have hpl := hM.plb k
                have hxp := hx.pw k
                rw [hxp.1, hxp.2.1] at hpl
                have hrd := fun i => hx.reads h1 hm hk6 (by
                  have h9 := hra.out; rw [hrow.out]
                  rcases h9 with ⟨h9, h10⟩ | h9
                  · exact Or.inl ⟨Nat.le_refl _, h9, h10⟩
                  · exact Or.inr h9) i
                rw [hA, hE] at hrd ⊢
                have hbt : ∀ (i : Nat) w', i < 64 → x.Mem w' → Calls Try.prog 100 #[.agg #[.int .i64 (f.pw k : Int), .int .i64 (f.ph k : Int), .slice (some ⟨f.pb k, 0, none⟩) (f.pw k * f.ph k) (f.pc k)], .int .i64 (f.px mb k + (i : Int) % 8), .int .i64 (f.py mb k + (i : Int) / 8), .int .i64 A, .int .i64 E] w' fun e w'' => e = .returned (.int .i64 (sprV f mb k U D i)) ∧ Below w'.heap.size w' w'' := by
                  intro i w' hi hX
                  have hPx := hX.pl k
                  rw [hxp.2.2.1, hxp.1, hxp.2.1] at hPx
                  have h9 := hrd i
                  rw [show ((i % 8 : Nat) : Int) = (i : Int) % 8 by simp, show ((i / 8 : Nat) : Int) = (i : Int) / 8 by simp] at h9
                  rw [← h9]
                  obtain ⟨t1, t2⟩ := f.nxy_lt h1 hm hk6
                  have t3 := f.py_ny mb k
                  exact conBetween_any (f.pw k) (f.ph k) (f.pb k) (f.pc k) (x.ps k) _ _ A E w' (by omega) (by omega) hPx (by omega) (by omega) (by omega)
                replace hxp := Lib.hid hxp; replace hA := Lib.hid hA; replace hE := Lib.hid hE; replace hrd := Lib.hid hrd; replace hbt := Lib.hid hbt
                have hzb := HW.size
                go_wp2_with (refine wpList_alloc_blk rfl 27 rfl _ _ alloc28 ?_)
                have HZ : Blk (wc.alloc (.cells (fcells 64 (ival fun _ => 0)) 27)) wc.heap.size 27 64 (ival fun _ => 0) := Blk.new_at _ _ _ rfl
                have vz : Hid (b ≠ wc.heap.size ∧ f.bY ≠ wc.heap.size ∧ f.bU ≠ wc.heap.size ∧ f.bV ≠ wc.heap.size ∧ w.heap.size ≠ wc.heap.size ∧ w.heap.size + 1 ≠ wc.heap.size ∧ pp ≠ wc.heap.size ∧ w.heap.size ≤ wc.heap.size) := by
                  have s1 := hB.lt; have s2 := hM.y.lt; have s3 := hM.u.lt; have s4 := hM.v.lt; have s5 := HM.lt; have s6 := HP.lt
                  exact Lib.hid (by omega)
                replace HP := HP.alloc (.cells (fcells 64 (ival fun _ => 0)) 27)
                replace HF := HF.alloc (.cells (fcells 64 (ival fun _ => 0)) 27); replace HM := HM.alloc (.cells (fcells 64 (ival fun _ => 0)) 27); replace hM := hM.alloc (.cells (fcells 64 (ival fun _ => 0)) 27); replace hB := hB.alloc (.cells (fcells 64 (ival fun _ => 0)) 27); replace HW := HW.alloc (.cells (fcells 64 (ival fun _ => 0)) 27)
                generalize wc.alloc (.cells (fcells 64 (ival fun _ => 0)) 27) = w6 at *
                generalize wc.heap.size = zz at *
                go_loopw [117] (fun t wr => ∃ i : Nat, i ≤ 64 ∧ t = .int .i64 (i : Int) ∧ Ob wr pp PLT #[.int .i64 (f.pw k : Int), .int .i64 (f.ph k : Int), .slice (some ⟨f.pb k, 0, none⟩) (f.pw k * f.ph k) (f.pc k)] ∧ Blk wr zz 27 64 (fillV i (ival (sprV f mb k U D)) (ival fun _ => 0)) ∧ Ob wr w.heap.size FRT f.cells ∧ Ob wr (w.heap.size + 1) DMT (dmC f.c f.r b (f.c * f.r) mc) ∧ x.Mem wr ∧ VB wr b 4 (f.c * f.r) (blv B) ∧ WrF f.bY f.bU f.bV w wr) (fun t _ => 64 - (intOf t).toNat)
                case atStart => exact ⟨0, by omega, rfl, HP, HZ.fill_none, HF, HM, hM, hB, HW⟩
                case round =>
                  clear HP HZ HF HM hM hB HW
                  obtain ⟨i, hi, rfl, HP, HZ, HF, HM, hM, hB, HW⟩ := hrel
                  by_cases hi8 : i < 64
                  · have hd : decide ((i : Int) < 64) = true := by simp; omega
                    have i1 : (0 : Int) ≤ i := by omega
                    have i2 : (i : Int) < 64 := by omega
                    go_wp2_with (refine wpList_load_ob HP rfl _ _ rfl rfl Try.underlying41 (by kernel_rfl) ?_)
                    refine (hbt.out i _ hi8 hM).mono ?_
                    rintro e w7 ⟨rfl, hb⟩
                    replace HP := HP.later hb; replace HZ := HZ.later hb
                    replace HF := HF.later hb; replace HM := HM.later hb; replace hM := hM.later hb; replace hB := hB.later hb; replace HW := HW.step hb
                    clear hb
                    have c1 := HZ.fill_cell hi8
                    have f1 := HZ.free i
                    obtain ⟨n1, n2, n3, n4, n5, n6, n7, n8⟩ := vz.out
                    go_wp2_with fail
                    exact ⟨⟨i + 1, by omega, by go_num, HP.other (Ne.symm n7) _ _, HZ.fill, HF.other (Ne.symm n5) _ _, HM.other (Ne.symm n6) _ _, hM.other (hx.nb.1 ▸ Ne.symm n2) (hx.nb.2.1 ▸ Ne.symm n3) (hx.nb.2.2 ▸ Ne.symm n4) _ _, hB.other (Ne.symm n1) _ _, HW.setNew (by omega) _ _⟩, by simp [intOf]; omega⟩
                  · obtain rfl : i = 64 := by omega
                    have hPx := hM.pl k
                    rw [hxp.out.2.2.1, hxp.out.1, hxp.out.2.1] at hPx
                    go_wp2_with (first | (refine wpList_load_ob HP rfl _ _ rfl rfl Try.underlying41 (by kernel_rfl) ?_) | (refine wpList_load_blk HZ.fill_all rfl _ _ rfl rfl und28 (by kernel_rfl) ?_))
                    refine (put_any (f.pw k) (f.ph k) (f.pb k) (f.pc k) (x.ps k) (sprV f mb k U D) (f.px mb k) (f.py mb k) _ (by omega) (by omega) hPx (by omega) (by omega) (by omega) (by omega)).mono ?_
                    rintro e w8 ⟨rfl, hP8, hWr⟩
                    have hpbc : f.pb k = f.bY ∨ f.pb k = f.bU ∨ f.pb k = f.bV := by unfold Fr.pb; split <;> (try split) <;> simp
                    have hplt : f.pb k < w.heap.size := by rcases hpbc with h | h | h <;> omega
                    have hpb : b ≠ f.pb k := by rcases hpbc with h | h | h <;> omega
                    have hst := hx.step h1 hm hk6 (sprV f mb k U D) (fun _ _ => rfl)
                    replace HF := HF.wr hWr (by omega); replace HM := HM.wr hWr (by omega); replace hB := hB.wr hWr hpb; replace HW := HW.wr hWr hpbc
                    have hX := hM.putk hk6 (s := putF (f.pw k) (f.ph k) (x.ps k) (f.px mb k) (f.py mb k) (sprV f mb k U D) 64) (by rw [hxp.out.2.2.1]; exact hWr) (by rw [hxp.out.2.2.1, hxp.out.1, hxp.out.2.1]; exact hP8)
                    clear hWr hP8 hPx hM
                    go_wp2_with fail
                    exact ⟨⟨k + 1, by omega, by go_num, _, hst, HF, HM, hX, hB, HW⟩, by simp [intOf]; omega⟩
        · obtain rfl : k = 6 := by omega
          go_wp2_with fail
          go_end0
          exact ⟨rfl, x, hx, hM, HW⟩
end Go.Proofs.Ytbldgpemocnboaa

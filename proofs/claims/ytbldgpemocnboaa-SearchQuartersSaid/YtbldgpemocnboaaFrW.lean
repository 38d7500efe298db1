/- plane.Frame's Slope, walked. | plane.Frame's Fill, walked. | plane.Frame's Fill, walked. | plane.Frame's Planes, walked. -/
import Derived.Test.YtbldgpemocnboaaFr
namespace Go.Proofs.Ytbldgpemocnboaa
open Go.RowKit
attribute [local go_sem ↓] run_imax run_imin

theorem set16_any (c r b m : Nat) (s : Nat → Int) (x y v : Int) (w : World) (hc : c ≤ 8) (hr : r ≤ 8) (hv : 0 ≤ v ∧ v ≤ 255) (hP : PB w b (16 * c * (16 * r)) s) :
    Calls Try.prog 85 #[.agg #[.int .i64 (16 * (c : Int)), .int .i64 (16 * (r : Int)), .slice (some ⟨b, 0, none⟩) (16 * c * (16 * r)) m], .int .i64 x, .int .i64 y, .int .u8 v] w (WroteP b (16 * c * (16 * r)) (plSet (16 * c) (16 * r) s x y v) w) := by
  rw [← plV_16]; exact set_any (16 * c) (16 * r) b m s x y v w (by omega) (by omega) hv hP
theorem set8_any (c r b m : Nat) (s : Nat → Int) (x y v : Int) (w : World) (hc : c ≤ 8) (hr : r ≤ 8) (hv : 0 ≤ v ∧ v ≤ 255) (hP : PB w b (8 * c * (8 * r)) s) :
    Calls Try.prog 85 #[.agg #[.int .i64 (8 * (c : Int)), .int .i64 (8 * (r : Int)), .slice (some ⟨b, 0, none⟩) (8 * c * (8 * r)) m], .int .i64 x, .int .i64 y, .int .u8 v] w (WroteP b (8 * c * (8 * r)) (plSet (8 * c) (8 * r) s x y v) w) := by
  rw [← plV_8]; exact set_any (8 * c) (8 * r) b m s x y v w (by omega) (by omega) hv hP
section
variable {w : World} {q : Nat} {f : Fr}
theorem Ob.fYW (h : Ob w q FRT f.cells) : w.cell? ⟨q, 2, none⟩ = some (.int .i64 (16 * (f.c : Int))) := h.cell 2 rfl
theorem Ob.fYH (h : Ob w q FRT f.cells) : w.cell? ⟨q, 3, none⟩ = some (.int .i64 (16 * (f.r : Int))) := h.cell 3 rfl
theorem Ob.fYS (h : Ob w q FRT f.cells) : w.cell? ⟨q, 4, none⟩ = some (.slice (some ⟨f.bY, 0, none⟩) (16 * f.c * (16 * f.r)) f.cY) := h.cell 4 rfl
theorem Ob.fUW (h : Ob w q FRT f.cells) : w.cell? ⟨q, 5, none⟩ = some (.int .i64 (8 * (f.c : Int))) := h.cell 5 rfl
theorem Ob.fUH (h : Ob w q FRT f.cells) : w.cell? ⟨q, 6, none⟩ = some (.int .i64 (8 * (f.r : Int))) := h.cell 6 rfl
theorem Ob.fUS (h : Ob w q FRT f.cells) : w.cell? ⟨q, 7, none⟩ = some (.slice (some ⟨f.bU, 0, none⟩) (8 * f.c * (8 * f.r)) f.cU) := h.cell 7 rfl
theorem Ob.fVW (h : Ob w q FRT f.cells) : w.cell? ⟨q, 8, none⟩ = some (.int .i64 (8 * (f.c : Int))) := h.cell 8 rfl
theorem Ob.fVH (h : Ob w q FRT f.cells) : w.cell? ⟨q, 9, none⟩ = some (.int .i64 (8 * (f.r : Int))) := h.cell 9 rfl
theorem Ob.fVS (h : Ob w q FRT f.cells) : w.cell? ⟨q, 10, none⟩ = some (.slice (some ⟨f.bV, 0, none⟩) (8 * f.c * (8 * f.r)) f.cV) := h.cell 10 rfl
end

theorem tmod_bd16 (n : Int) : -16 < n.tmod 16 ∧ n.tmod 16 < 16 := by
  have h1 := Int.tmod_lt_of_pos n (show (0 : Int) < 16 by omega)
  have h2 := Int.tmod_lt_of_pos (-n) (show (0 : Int) < 16 by omega)
  rw [Int.neg_tmod] at h2
  omega
/-- The slope's value at column i, row j. -/
def slV (fr ri dn : Int) (i j : Nat) : Int := (fr + ((i : Int) * ri + (j : Int) * dn).tdiv 16) % 256
theorem WID {x : Int} (h1 : -9223372036854775808 ≤ x) (h2 : x ≤ 9223372036854775807) : wrap64 x = x := by unfold wrap64; omega
theorem mul_bd (i : Nat) (x : Int) (hi : i ≤ 127) (h : -40000 ≤ x ∧ x ≤ 40000) : -5080000 ≤ (i : Int) * x ∧ (i : Int) * x ≤ 5080000 := by
  have h1 := Int.mul_le_mul_of_nonneg_left h.2 (show (0 : Int) ≤ i by omega)
  have h2 := Int.mul_le_mul_of_nonneg_left h.1 (show (0 : Int) ≤ i by omega)
  omega
theorem slV_wrap {fr ri dn : Int} {i j : Nat} (hi : i ≤ 127) (hj : j ≤ 127) (h1 : -40000 ≤ fr ∧ fr ≤ 40000) (h2 : -40000 ≤ ri ∧ ri ≤ 40000) (h3 : -40000 ≤ dn ∧ dn ≤ 40000) :
    wrap64 (fr + wrap64 ((wrap64 (wrap64 ((i : Int) * ri) + wrap64 ((j : Int) * dn))).tdiv 16)) % 256 = slV fr ri dn i j := by
  have b1 := mul_bd i ri hi h2
  have b2 := mul_bd j dn hj h3
  unfold slV
  generalize (i : Int) * ri = x at *
  generalize (j : Int) * dn = y at *
  rw [WID (x := x) (by omega) (by omega), WID (x := y) (by omega) (by omega), WID (x := x + y) (by omega) (by omega)]
  have b3 : -10160000 ≤ (x + y).tdiv 16 ∧ (x + y).tdiv 16 ≤ 10160000 := by
    have h4 := Int.mul_tdiv_add_tmod (x + y) 16
    have h5 := tmod_bd16 (x + y)
    omega
  rw [WID (x := (x + y).tdiv 16) (by omega) (by omega), WID (x := fr + (x + y).tdiv 16) (by omega) (by omega)]
theorem slV_bd (fr ri dn : Int) (i j : Nat) : 0 ≤ slV fr ri dn i j ∧ slV fr ri dn i j ≤ 255 := by unfold slV; omega
/-- The samples, while they are overwritten row by row: n are done. -/
def slF (W : Nat) (fr ri dn : Int) (n : Nat) (s : Nat → Int) (k : Nat) : Int := if k < n then slV fr ri dn (k % W) (k / W) else s k
theorem slF_step {W H i j : Nat} {fr ri dn : Int} {s : Nat → Int} (hi : i < W) (hj : j < H) :
    plSet W H (slF W fr ri dn (j * W + i) s) (i : Int) (j : Int) (slV fr ri dn i j) = slF W fr ri dn (j * W + (i + 1)) s := by
  rw [plSet_in (by omega)]
  funext k
  simp only [Int.toNat_natCast]
  unfold slF
  by_cases e : k = j * W + i
  · subst e
    have e1 : (j * W + i) % W = i := by rw [Nat.mul_comm, Nat.mul_add_mod]; exact Nat.mod_eq_of_lt hi
    have e2 : (j * W + i) / W = j := by rw [Nat.mul_comm, Nat.mul_add_div (by omega), Nat.div_eq_of_lt hi]; rfl
    rw [if_pos rfl, if_pos (by omega), e1, e2]
  · rw [if_neg e]
    by_cases e2 : k < j * W + i
    · rw [if_pos e2, if_pos (by omega)]
    · rw [if_neg e2, if_neg (by omega)]

set_option maxHeartbeats 2000000 in
theorem slope_any (f : Fr) (fr ri dn : Int) (w : World) (hM : f.Mem w) (h1 : -40000 ≤ fr ∧ fr ≤ 40000) (h2 : -40000 ≤ ri ∧ ri ≤ 40000) (h3 : -40000 ≤ dn ∧ dn ≤ 40000) :
    Calls Try.prog 97 #[f.val, .int .i64 fr, .int .i64 ri, .int .i64 dn] w
      (WroteP f.bY (16 * f.c * (16 * f.r)) (slF (16 * f.c) fr ri dn (16 * f.c * (16 * f.r)) f.sY) w) := by
  have hc := hM.hc; have hr := hM.hr
  have HP := hM.y
  have hy := HP.lt
  clear hM
  unfold Fr.val
  go_enter Try.func97, Try.ntmps97
  have HO : Ob (w.alloc (.cells f.cells 43)) w.heap.size FRT f.cells := Ob.new_at _ _ rfl
  have c3 := HO.fYH
  go_wp2_with fail
  clear c3
  replace HP := HP.alloc (.cells f.cells 43)
  have HW : Wr f.bY w (w.alloc (.cells f.cells 43)) := (Wr.refl _ _).alloc _
  generalize w.alloc (.cells f.cells 43) = w2 at *
  replace HP := HP.congr (s' := slF (16 * f.c) fr ri dn (0 * (16 * f.c)) f.sY) (fun j _ => by simp [slF])
  go_loopw [13] (fun i wr => ∃ j : Nat, j ≤ 16 * f.r ∧ i = .int .i64 j ∧ Ob wr w.heap.size FRT f.cells ∧ PB wr f.bY (16 * f.c * (16 * f.r)) (slF (16 * f.c) fr ri dn (j * (16 * f.c)) f.sY) ∧ Wr f.bY w wr) (fun i _ => 16 * f.r - (intOf i).toNat)
  case atStart => exact ⟨0, by omega, rfl, HO, HP, HW⟩
  case round =>
    clear HO HP HW
    obtain ⟨j, hj, rfl, HO, HP, HW⟩ := hrel
    by_cases hlt : j < 16 * f.r
    · have hd : decide ((j : Int) < 16 * (f.r : Int)) = true := by simp; omega
      have c2 := HO.fYW
      go_wp2_with fail
      clear c2
      replace HP := HP.congr (s' := slF (16 * f.c) fr ri dn (j * (16 * f.c) + 0) f.sY) (fun j _ => by rfl)
      go_loopw [19] (fun v wr => ∃ i : Nat, i ≤ 16 * f.c ∧ v = .int .i64 i ∧ Ob wr w.heap.size FRT f.cells ∧ PB wr f.bY (16 * f.c * (16 * f.r)) (slF (16 * f.c) fr ri dn (j * (16 * f.c) + i) f.sY) ∧ Wr f.bY w wr) (fun i _ => 16 * f.c - (intOf i).toNat)
      case atStart => exact ⟨0, by omega, rfl, HO, HP, HW⟩
      case round =>
        clear HO HP HW
        obtain ⟨i, hi, rfl, HO, HP, HW⟩ := hrel
        by_cases hlt2 : i < 16 * f.c
        · have hd2 : decide ((i : Int) < 16 * (f.c : Int)) = true := by simp; omega
          have c2 := HO.fYW
          have c3 := HO.fYH
          have c4 := HO.fYS
          go_wp2_with fail
          rw [slV_wrap (by omega) (by omega) h1 h2 h3]
          refine (set16_any f.c f.r f.bY f.cY _ _ _ _ _ hc hr (slV_bd _ _ _ _ _) HP).mono ?_
          rintro e w3 ⟨rfl, HP3, hWr⟩
          rw [slF_step hlt2 hlt] at HP3
          replace HO := HO.wr hWr (by omega)
          replace HW := HW.trans hWr
          clear HP hWr c2 c3 c4
          go_wp2_with fail
          exact ⟨⟨i + 1, by omega, by go_num, HO, HP3, HW⟩, by simp [intOf]; omega⟩
        · obtain rfl : i = 16 * f.c := by omega
          have hd2 : decide (((16 * f.c : Nat) : Int) < 16 * (f.c : Int)) = false := by simp
          go_wp2_with fail
          exact ⟨⟨j + 1, by omega, by go_num, HO, HP.congr (fun k _ => by rw [Nat.add_mul, Nat.one_mul]), HW⟩, by simp [intOf]; omega⟩
    · obtain rfl : j = 16 * f.r := by omega
      go_wp2_with fail
      go_end0
      exact ⟨rfl, HP.congr (fun k _ => by rw [Nat.mul_comm (16 * f.r)]), HW⟩
end Go.Proofs.Ytbldgpemocnboaa

namespace Go.Proofs.Ytbldgpemocnboaa
open Go.RowKit
attribute [local go_sem ↓] run_imax run_imin

/-- Of what was there at most the blocks a, b, c have changed. -/
structure WrF (a b c : Nat) (w w' : World) : Prop where
  os : w'.os = w.os
  tape : w'.tape = w.tape
  output : w'.output = w.output
  size : w.heap.size ≤ w'.heap.size
  block : ∀ k, k < w.heap.size → k ≠ a → k ≠ b → k ≠ c → w'.heap[k]? = w.heap[k]?
section
variable {a b c d : Nat} {w w1 w2 : World}
theorem WrF.refl (a b c : Nat) (w : World) : WrF a b c w w := ⟨rfl, rfl, rfl, Nat.le_refl _, fun _ _ _ _ _ => rfl⟩
theorem WrF.of_below (h : Below w.heap.size w w1) : WrF a b c w w1 := ⟨h.os, h.tape, h.output, h.size, fun k hk _ _ _ => h.block k hk⟩
theorem WrF.trans (h : WrF a b c w w1) (h2 : WrF a b c w1 w2) : WrF a b c w w2 :=
  ⟨h2.os.trans h.os, h2.tape.trans h.tape, h2.output.trans h.output, Nat.le_trans h.size h2.size, fun k hk e1 e2 e3 => (h2.block k (Nat.lt_of_lt_of_le hk h.size) e1 e2 e3).trans (h.block k hk e1 e2 e3)⟩
theorem WrF.of_wr (h : Wr d w w1) (hd : d = a ∨ d = b ∨ d = c) : WrF a b c w w1 := ⟨h.os, h.tape, h.output, h.size, fun k hk e1 e2 e3 => h.block k hk (by rcases hd with rfl | rfl | rfl <;> assumption)⟩
theorem WrF.wr (h : WrF a b c w w1) (h2 : Wr d w1 w2) (hd : d = a ∨ d = b ∨ d = c) : WrF a b c w w2 := h.trans (.of_wr h2 hd)
theorem WrF.alloc (h : WrF a b c w w1) (o : Obj) : WrF a b c w (w1.alloc o) := h.trans (.of_below ((Below.refl _ _).alloc (Nat.le_refl _) _))
theorem WrF.step (h : WrF a b c w w1) (hb : Below w1.heap.size w1 w2) : WrF a b c w w2 := h.trans (.of_below hb)
theorem WrF.below {B : Nat} (h : WrF a b c w1 w2) (hw : Below B w w1) (hB : B ≤ w1.heap.size) (ha : B ≤ a) (hb : B ≤ b) (hc : B ≤ c) : Below B w w2 :=
  ⟨h.os.trans hw.os, h.tape.trans hw.tape, h.output.trans hw.output, Nat.le_trans hw.size h.size, fun k hk => (h.block k (by omega) (by omega) (by omega) (by omega)).trans (hw.block k hk)⟩
theorem Ob.wrf {q : Nat} {T : TypeId} {cs : Array Value} (h : Ob w q T cs) (hw : WrF a b c w w1) (h1 : q ≠ a) (h2 : q ≠ b) (h3 : q ≠ c) : Ob w1 q T cs := by
  unfold Ob; rw [hw.block q h.lt h1 h2 h3]; exact h
theorem VB.wrf {q n : Nat} {T : TypeId} {f : Nat → Value} (h : VB w q T n f) (hw : WrF a b c w w1) (h1 : q ≠ a) (h2 : q ≠ b) (h3 : q ≠ c) : VB w1 q T n f := by
  obtain ⟨m, F, hm, hk, hF⟩ := h
  refine ⟨m, F, hm, ?_, hF⟩
  unfold Blk
  rw [hw.block q hk.lt h1 h2 h3]; exact hk
theorem PB.wrf {q n : Nat} {s : Nat → Int} (h : PB w q n s) (hw : WrF a b c w w1) (h1 : q ≠ a) (h2 : q ≠ b) (h3 : q ≠ c) : PB w1 q n s := ⟨h.vb.wrf hw h1 h2 h3, h.bd⟩
end
theorem Fr.Mem.wrf {f : Fr} {a b c : Nat} {w w1 : World} (h : f.Mem w) (hw : WrF a b c w w1) (hy : f.bY ≠ a ∧ f.bY ≠ b ∧ f.bY ≠ c) (hu : f.bU ≠ a ∧ f.bU ≠ b ∧ f.bU ≠ c) (hv : f.bV ≠ a ∧ f.bV ≠ b ∧ f.bV ≠ c) : f.Mem w1 :=
  ⟨h.hc, h.hr, h.y.wrf hw hy.1 hy.2.1 hy.2.2, h.u.wrf hw hu.1 hu.2.1 hu.2.2, h.v.wrf hw hv.1 hv.2.1 hv.2.2, h.yu, h.yv, h.uv⟩
/-- The same frame, with other samples. -/
def Fr.put (f : Fr) (sY sU sV : Nat → Int) : Fr := ⟨f.c, f.r, f.bY, f.bU, f.bV, f.cY, f.cU, f.cV, sY, sU, sV⟩

theorem idx_inj {W a b i j : Nat} (ha : a < W) (hi : i < W) (h : b * W + a = j * W + i) : a = i ∧ b = j := by
  have h1 : (b * W + a) % W = a := by rw [Nat.mul_comm, Nat.mul_add_mod]; exact Nat.mod_eq_of_lt ha
  have h2 : (j * W + i) % W = i := by rw [Nat.mul_comm, Nat.mul_add_mod]; exact Nat.mod_eq_of_lt hi
  have h3 : (b * W + a) / W = b := by rw [Nat.mul_comm, Nat.mul_add_div (by omega), Nat.div_eq_of_lt ha]; rfl
  have h4 : (j * W + i) / W = j := by rw [Nat.mul_comm, Nat.mul_add_div (by omega), Nat.div_eq_of_lt hi]; rfl
  exact ⟨by rw [← h1, h, h2], by rw [← h3, h, h4]⟩

/-- In the square, and done. -/
def inSq (x0 y0 : Nat) (mx my : Int) (j i : Nat) (a b : Nat) : Prop := x0 ≤ a ∧ (a : Int) < mx ∧ y0 ≤ b ∧ (b : Int) < my ∧ (b < j ∨ (b = j ∧ a < i))
/-- The samples so far. -/
structure FillS (W H : Nat) (x0 y0 : Nat) (mx my : Int) (l b r : Int) (j i : Nat) (s sY sU sV : Nat → Int) (W' : Nat) : Prop where
  y : ∀ a c, a < W → c < H → inSq x0 y0 mx my j i a c → sY (c * W + a) = l
  n : ∀ a c, a < W → c < H → ¬ inSq x0 y0 mx my j i a c → sY (c * W + a) = s (c * W + a)
  u : ∀ a c, a < W → c < H → inSq x0 y0 mx my j i a c → sU (c / 2 * W' + a / 2) = b
  v : ∀ a c, a < W → c < H → inSq x0 y0 mx my j i a c → sV (c / 2 * W' + a / 2) = r
section
variable {W H x0 y0 j i W' H' : Nat} {mx my l b r : Int} {s sY sU sV : Nat → Int}
theorem FillS.start : FillS W H x0 y0 mx my l b r y0 0 s s sU sV W' :=
  ⟨fun a c _ _ h => by unfold inSq at h; omega, fun _ _ _ _ _ => rfl, fun a c _ _ h => by unfold inSq at h; omega, fun a c _ _ h => by unfold inSq at h; omega⟩
theorem inSq_row (hi : i ≤ x0) (a c : Nat) : inSq x0 y0 mx my j i a c ↔ inSq x0 y0 mx my j 0 a c := by unfold inSq; omega
theorem inSq_next (hi : mx ≤ i) (a c : Nat) : inSq x0 y0 mx my j i a c ↔ inSq x0 y0 mx my (j + 1) 0 a c := by unfold inSq; omega
theorem FillS.iff {j' i' : Nat} (h : FillS W H x0 y0 mx my l b r j i s sY sU sV W') (e : ∀ a c, inSq x0 y0 mx my j i a c ↔ inSq x0 y0 mx my j' i' a c) : FillS W H x0 y0 mx my l b r j' i' s sY sU sV W' :=
  ⟨fun a c h1 h2 h3 => h.y a c h1 h2 ((e a c).2 h3), fun a c h1 h2 h3 => h.n a c h1 h2 (fun h4 => h3 ((e a c).1 h4)), fun a c h1 h2 h3 => h.u a c h1 h2 ((e a c).2 h3), fun a c h1 h2 h3 => h.v a c h1 h2 ((e a c).2 h3)⟩
theorem FillS.step (h : FillS W H x0 y0 mx my l b r j i s sY sU sV W') (hi : x0 ≤ i) (hj : y0 ≤ j) (him : (i : Int) < mx) (hjm : (j : Int) < my) (hiW : i < W) (hjH : j < H) (hu : i / 2 < W' ∧ j / 2 < H') :
    FillS W H x0 y0 mx my l b r j (i + 1) s (plSet W H sY (i : Int) (j : Int) l) (plSet W' H' sU ((i : Int) / 2) ((j : Int) / 2) b) (plSet W' H' sV ((i : Int) / 2) ((j : Int) / 2) r) W' := by
  have e1 : ((i : Int) / 2).toNat = i / 2 := by omega
  have e2 : ((j : Int) / 2).toNat = j / 2 := by omega
  rw [plSet_in (by omega), plSet_in (by omega), plSet_in (by omega)]
  simp only [Int.toNat_natCast, e1, e2]
  have hsq : ∀ a c, inSq x0 y0 mx my j (i + 1) a c → inSq x0 y0 mx my j i a c ∨ (a = i ∧ c = j) := by intro a c; unfold inSq; omega
  refine ⟨fun a c h1 h2 h3 => ?_, fun a c h1 h2 h3 => ?_, fun a c h1 h2 h3 => ?_, fun a c h1 h2 h3 => ?_⟩
  · split
    · rfl
    · rename_i hne
      rcases hsq a c h3 with h4 | ⟨rfl, rfl⟩
      · exact h.y a c h1 h2 h4
      · exact absurd rfl hne
  · split
    · rename_i he
      obtain ⟨rfl, rfl⟩ := idx_inj h1 hiW he
      exact absurd (by unfold inSq; omega) h3
    · exact h.n a c h1 h2 (fun h4 => h3 (by unfold inSq at *; omega))
  · split
    · rfl
    · rename_i hne
      rcases hsq a c h3 with h4 | ⟨rfl, rfl⟩
      · exact h.u a c h1 h2 h4
      · exact absurd rfl hne
  · split
    · rfl
    · rename_i hne
      rcases hsq a c h3 with h4 | ⟨rfl, rfl⟩
      · exact h.v a c h1 h2 h4
      · exact absurd rfl hne
end
end Go.Proofs.Ytbldgpemocnboaa

namespace Go.Proofs.Ytbldgpemocnboaa
open Go.RowKit
attribute [local go_sem ↓] run_imax run_imin

def FillP (f : Fr) (x y wd ht l b r : Int) (w : World) (e : Ending) (w' : World) : Prop :=
  e = .returned (.tuple #[]) ∧ ∃ sY sU sV, (f.put sY sU sV).Mem w' ∧ WrF f.bY f.bU f.bV w w' ∧
    (∀ a c, a < 16 * f.c → c < 16 * f.r → (x ≤ a ∧ (a : Int) < x + wd ∧ y ≤ c ∧ (c : Int) < y + ht) → sY (c * (16 * f.c) + a) = l ∧ sU (c / 2 * (8 * f.c) + a / 2) = b ∧ sV (c / 2 * (8 * f.c) + a / 2) = r) ∧
    (∀ a c, a < 16 * f.c → c < 16 * f.r → ¬ (x ≤ a ∧ (a : Int) < x + wd ∧ y ≤ c ∧ (c : Int) < y + ht) → sY (c * (16 * f.c) + a) = f.sY (c * (16 * f.c) + a))

set_option maxHeartbeats 2000000 in
theorem fill_any (f : Fr) (x y wd ht l b r : Int) (w : World) (hM : f.Mem w) (h1 : -40000 ≤ x ∧ x ≤ 40000) (h2 : -40000 ≤ y ∧ y ≤ 40000) (h3 : -40000 ≤ wd ∧ wd ≤ 40000) (h4 : -40000 ≤ ht ∧ ht ≤ 40000)
    (hl : 0 ≤ l ∧ l ≤ 255) (hb : 0 ≤ b ∧ b ≤ 255) (hr : 0 ≤ r ∧ r ≤ 255) :
    Calls Try.prog 34 #[f.val, .int .i64 x, .int .i64 y, .int .i64 wd, .int .i64 ht, .int .u8 l, .int .u8 b, .int .u8 r] w (FillP f x y wd ht l b r w) := by
  have hc := hM.hc; have hrr := hM.hr
  have ey := hM.y.lt; have eu := hM.u.lt; have ev := hM.v.lt
  have n1 := hM.yu; have n2 := hM.yv; have n3 := hM.uv
  obtain ⟨x0, hx0, hx1⟩ : ∃ x0 : Nat, imax x 0 = x0 ∧ (x0 : Int) = max x 0 := ⟨(max x 0).toNat, by rw [imax_eq]; omega, by omega⟩
  obtain ⟨y0, hy0, hy1⟩ : ∃ y0 : Nat, imax y 0 = y0 ∧ (y0 : Int) = max y 0 := ⟨(max y 0).toNat, by rw [imax_eq]; omega, by omega⟩
  obtain ⟨mx, hmx, hmx1⟩ : ∃ mx : Int, imin (x + wd) (16 * (f.c : Int)) = mx ∧ mx = min (x + wd) (16 * (f.c : Int)) := ⟨_, rfl, by rw [imin_eq]⟩
  obtain ⟨my, hmy, hmy1⟩ : ∃ my : Int, imin (y + ht) (16 * (f.r : Int)) = my ∧ my = min (y + ht) (16 * (f.r : Int)) := ⟨_, rfl, by rw [imin_eq]⟩
  replace hx1 := Lib.hid hx1; replace hy1 := Lib.hid hy1; replace hmx1 := Lib.hid hmx1; replace hmy1 := Lib.hid hmy1
  have mxb : mx ≤ 16 * (f.c : Int) := by have := hmx1.out; omega
  have myb : my ≤ 16 * (f.r : Int) := by have := hmy1.out; omega
  have HO : Ob (w.alloc (.cells f.cells 43)) w.heap.size FRT f.cells := Ob.new_at _ _ rfl
  replace hM := hM.alloc (.cells f.cells 43)
  have HY := hM.y; have HU := hM.u; have HV := hM.v
  clear hM
  have HW : WrF f.bY f.bU f.bV w (w.alloc (.cells f.cells 43)) := (WrF.refl _ _ _ _).alloc _
  unfold Fr.val
  go_enter Try.func34, Try.ntmps34
  go_wp2_with fail
  generalize w.alloc (.cells f.cells 43) = w2 at *
  go_loopw [16] (fun v wr => ∃ j : Nat, ∃ sY sU sV, y0 ≤ j ∧ v = .int .i64 j ∧ (j : Int) ≤ 1000000 ∧ Ob wr w.heap.size FRT f.cells ∧ PB wr f.bY (16 * f.c * (16 * f.r)) sY ∧ PB wr f.bU (8 * f.c * (8 * f.r)) sU ∧ PB wr f.bV (8 * f.c * (8 * f.r)) sV ∧ FillS (16 * f.c) (16 * f.r) x0 y0 mx my l b r j 0 f.sY sY sU sV (8 * f.c) ∧ WrF f.bY f.bU f.bV w wr) (fun i _ => (my - intOf i).toNat)
  case atStart => exact ⟨y0, _, _, _, Nat.le_refl _, rfl, by have := hy1.out; omega, HO, HY, HU, HV, FillS.start, HW⟩
  case round =>
    clear HO HY HU HV HW
    obtain ⟨j, sY, sU, sV, hj, rfl, hjb, HO, HY, HU, HV, HS, HW⟩ := hrel
    have c3 := HO.fYH
    by_cases hlt : (j : Int) < my
    · have hd : decide ((j : Int) < my) = true := by simpa using hlt
      go_wp2_with fail
      clear c3
      replace HS := HS.iff (i' := x0) (fun a c => (inSq_row (Nat.le_refl _) a c).symm)
      go_loopw [17] (fun v wr => ∃ i : Nat, ∃ sY sU sV, x0 ≤ i ∧ v = .int .i64 i ∧ (i : Int) ≤ 1000000 ∧ Ob wr w.heap.size FRT f.cells ∧ PB wr f.bY (16 * f.c * (16 * f.r)) sY ∧ PB wr f.bU (8 * f.c * (8 * f.r)) sU ∧ PB wr f.bV (8 * f.c * (8 * f.r)) sV ∧ FillS (16 * f.c) (16 * f.r) x0 y0 mx my l b r j i f.sY sY sU sV (8 * f.c) ∧ WrF f.bY f.bU f.bV w wr) (fun i _ => (mx - intOf i).toNat)
      case atStart => exact ⟨x0, _, _, _, Nat.le_refl _, rfl, by have := hx1.out; omega, HO, HY, HU, HV, HS, HW⟩
      case round =>
        clear HO HY HU HV HS HW
        obtain ⟨i, sY, sU, sV, hi, rfl, hib, HO, HY, HU, HV, HS, HW⟩ := hrel
        have c2 := HO.fYW
        have i0 : (0 : Int) ≤ i := by omega
        have j0 : (0 : Int) ≤ j := by omega
        by_cases hlt2 : (i : Int) < mx
        · have hd2 : decide ((i : Int) < mx) = true := by simpa using hlt2
          have c3 := HO.fYH
          have c4 := HO.fYS
          replace HS := Lib.hid (HS.step hi hj hlt2 hlt (by omega) (by omega) (H' := 8 * f.r) (by omega))
          go_wp2_with fail
          refine (set16_any f.c f.r f.bY f.cY _ _ _ _ _ hc hrr hl HY).mono ?_
          rintro e w3 ⟨rfl, HY3, hWr⟩
          replace HO := HO.wr hWr (by omega); replace HU := HU.wr hWr n1.symm; replace HV := HV.wr hWr n2.symm
          replace HW := HW.wr hWr (Or.inl rfl)
          clear HY hWr c2 c3 c4
          have c2 := HO.fUW
          have c3 := HO.fUH
          have c4 := HO.fUS
          go_wp2_with fail
          refine (set8_any f.c f.r f.bU f.cU _ _ _ _ _ hc hrr hb HU).mono ?_
          rintro e w4 ⟨rfl, HU3, hWr⟩
          replace HO := HO.wr hWr (by omega); replace HY3 := HY3.wr hWr n1; replace HV := HV.wr hWr n3.symm
          replace HW := HW.wr hWr (Or.inr (Or.inl rfl))
          clear HU hWr c2 c3 c4
          have c2 := HO.fVW
          have c3 := HO.fVH
          have c4 := HO.fVS
          go_wp2_with fail
          refine (set8_any f.c f.r f.bV f.cV _ _ _ _ _ hc hrr hr HV).mono ?_
          rintro e w5 ⟨rfl, HV3, hWr⟩
          replace HO := HO.wr hWr (by omega); replace HY3 := HY3.wr hWr n2; replace HU3 := HU3.wr hWr n3
          replace HW := HW.wr hWr (Or.inr (Or.inr rfl))
          clear HV hWr c2 c3 c4
          go_wp2_with fail
          exact ⟨⟨i + 1, _, _, _, by omega, by go_num, by omega, HO, HY3, HU3, HV3, HS.out, HW⟩, by simp [intOf]; omega⟩
        · have hd2 : decide ((i : Int) < mx) = false := by simpa using hlt2
          replace HS := Lib.hid (HS.iff (fun a c => inSq_next (by omega) a c))
          go_wp2_with fail
          exact ⟨⟨j + 1, _, _, _, by omega, by go_num, by omega, HO, HY, HU, HV, HS.out, HW⟩, by simp [intOf]; omega⟩
    · have hd : decide ((j : Int) < my) = false := by simpa using hlt
      replace HS := Lib.hid HS
      go_wp2_with fail
      go_end0
      have e1 := hx1.out; have e2 := hy1.out; have e3 := hmx1.out; have e4 := hmy1.out
      refine ⟨rfl, sY, sU, sV, ⟨hc, hrr, HY, HU, HV, n1, n2, n3⟩, HW, fun a c ha hc2 hin => ?_, fun a c ha hc2 hin => ?_⟩
      · have hq : inSq x0 y0 mx my j 0 a c := by unfold inSq; omega
        exact ⟨HS.out.y a c ha hc2 hq, HS.out.u a c ha hc2 hq, HS.out.v a c ha hc2 hq⟩
      · exact HS.out.n a c ha hc2 (by unfold inSq; omega)
end Go.Proofs.Ytbldgpemocnboaa

namespace Go.Proofs.Ytbldgpemocnboaa
open Go.RowKit
attribute [local go_sem ↓] run_imax run_imin

abbrev PL3 : TypeId := 48
def Fr.planes (f : Fr) : Array Value := #[.int .i64 (16 * (f.c : Int)), .int .i64 (16 * (f.r : Int)), .slice (some ⟨f.bY, 0, none⟩) (16 * f.c * (16 * f.r)) f.cY,
  .int .i64 (8 * (f.c : Int)), .int .i64 (8 * (f.r : Int)), .slice (some ⟨f.bU, 0, none⟩) (8 * f.c * (8 * f.r)) f.cU, .int .i64 (8 * (f.c : Int)), .int .i64 (8 * (f.r : Int)), .slice (some ⟨f.bV, 0, none⟩) (8 * f.c * (8 * f.r)) f.cV]

set_option maxHeartbeats 2000000 in
theorem planes_any (f : Fr) (w : World) :
    Calls Try.prog 37 #[f.val] w fun e w' => e = .returned (.agg f.planes) ∧ Below w.heap.size w w' := by
  unfold Fr.val Fr.cells
  go_enter Try.func37, Try.ntmps37
  go_wp2_with fail
  exact bodyPost_ret (results_cell_row rfl _ _ (w.heap.size + 1) _ f.planes (0, 0) _ rfl (Ob.new_at _ _ (by simp)) Try.underlying48 rfl (by kernel_rfl)) rfl ⟨rfl, by ((repeat (first | exact Below.refl _ _ | assumption | refine Below.setCell ?_ (by first | omega | (simp; done) | (simp; omega)) _ | refine Below.alloc ?_ (by first | omega | (simp; done) | (simp; omega)) _ | refine below_drewN ?_ _ | refine Below.drew ?_ | refine below_setRow ?_ (by first | omega | (simp; done) | (simp; omega)) _)))⟩
end Go.Proofs.Ytbldgpemocnboaa

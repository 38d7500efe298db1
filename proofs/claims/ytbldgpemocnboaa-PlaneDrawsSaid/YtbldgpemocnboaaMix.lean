/- plane.Mixed, walked. -/
import Derived.Test.YtbldgpemocnboaaFarM
import Derived.Test.YtbldgpemocnboaaFrRe
import Derived.Deep.DeepCutAuto
namespace Go.Proofs.Ytbldgpemocnboaa
open Go.RowKit Go.Sort
attribute [local go_sem ↓] run_imax run_imin run_imax3

/-- The macroblocks' block in whose plane the frame's plane number p is. -/
def kbp (p : Nat) : Nat := if p = 0 then 0 else p + 3
theorem kbp_or {p : Nat} (h : p < 3) : kbp p = 0 ∨ kbp p = 4 ∨ kbp p = 5 := by unfold kbp; split <;> omega
theorem kbp_sp {p p' : Nat} : ((kbp p < 4 ∧ kbp p' < 4) ∨ kbp p = kbp p') ↔ p = p' := by unfold kbp; split <;> split <;> omega
theorem idx_pi0 (w : World) (a b c d e f g h i : Value) : (Instr.index PL3 (.agg #[a, b, c, d, e, f, g, h, i]) (.int .i64 ((0 : Nat) : Int))).run Try.prog w = .ok (.agg #[a, b, c]) w := by kernel_rfl
theorem idx_pi1 (w : World) (a b c d e f g h i : Value) : (Instr.index PL3 (.agg #[a, b, c, d, e, f, g, h, i]) (.int .i64 ((1 : Nat) : Int))).run Try.prog w = .ok (.agg #[d, e, f]) w := by kernel_rfl
theorem idx_pi2 (w : World) (a b c d e f g h i : Value) : (Instr.index PL3 (.agg #[a, b, c, d, e, f, g, h, i]) (.int .i64 ((2 : Nat) : Int))).run Try.prog w = .ok (.agg #[g, h, i]) w := by kernel_rfl
/-- A plane's value. -/
def Fr.plC (h : Fr) (kb : Nat) : Array Value := #[.int .i64 (h.pw kb : Int), .int .i64 (h.ph kb : Int), .slice (some ⟨h.pb kb, 0, none⟩) (h.pw kb * h.ph kb) (h.pc kb)]
theorem planes_p (h : Fr) {p : Nat} (hp : p < 3) (w : World) : (Instr.index PL3 (.agg h.planes) (.int .i64 (p : Int))).run Try.prog w = .ok (.agg (h.plC (kbp p))) w := by
  obtain rfl | rfl | rfl : p = 0 ∨ p = 1 ∨ p = 2 := by omega
  · exact (idx_pi0 _ _ _ _ _ _ _ _ _ _).trans (by simp [kbp, Fr.plC, Fr.pw, Fr.ph, Fr.pb, Fr.pc])
  · exact (idx_pi1 _ _ _ _ _ _ _ _ _ _).trans (by simp [kbp, Fr.plC, Fr.pw, Fr.ph, Fr.pb, Fr.pc])
  · exact (idx_pi2 _ _ _ _ _ _ _ _ _ _).trans (by simp [kbp, Fr.plC, Fr.pw, Fr.ph, Fr.pb, Fr.pc])

def mix1 (s t n : Int) : Int := (s * (16 - n) + t * n + 8) / 16
theorem mix1_bd {s t n : Int} (hs : 0 ≤ s ∧ s ≤ 255) (ht : 0 ≤ t ∧ t ≤ 255) (hn : 0 ≤ n ∧ n ≤ 16) : 0 ≤ s * (16 - n) ∧ s * (16 - n) ≤ 4080 ∧ 0 ≤ t * n ∧ t * n ≤ 4080 ∧ 0 ≤ mix1 s t n ∧ mix1 s t n ≤ 255 := by
  have h1 : 0 ≤ s * (16 - n) := Int.mul_nonneg hs.1 (by omega)
  have h2 : s * (16 - n) ≤ 255 * (16 - n) := Int.mul_le_mul_of_nonneg_right hs.2 (by omega)
  have h3 : 0 ≤ t * n := Int.mul_nonneg ht.1 hn.1
  have h4 : t * n ≤ 255 * n := Int.mul_le_mul_of_nonneg_right ht.2 hn.1
  unfold mix1; omega
/-- Copy x of f so far: the planes before j are mixed with o's, of plane j i samples. -/
structure MixR (f h o : Fr) (n : Int) (j i : Nat) (x : Fr) : Prop where
  c : x.c = f.c
  r : x.r = f.r
  by_ : x.bY = h.bY
  bu : x.bU = h.bU
  bv : x.bV = h.bV
  ky : x.cY = h.cY
  ku : x.cU = h.cU
  kv : x.cV = h.cV
  s : ∀ p, p < 3 → ∀ k, k < f.pw (kbp p) * f.ph (kbp p) → x.ps (kbp p) k = if p < j ∨ (p = j ∧ k < i) then mix1 (f.ps (kbp p) k) (o.ps (kbp p) k) n else f.ps (kbp p) k
section
variable {f h o x : Fr} {n : Int} {j i : Nat}
theorem MixR.start (hlk : h.Like f) : MixR f h o n 0 0 h :=
  ⟨hlk.c, hlk.r, rfl, rfl, rfl, rfl, rfl, rfl, fun p _ k _ => by rw [if_neg (by omega)]; unfold Fr.ps; rw [hlk.y, hlk.u, hlk.v]⟩
theorem MixR.next (H : MixR f h o n j i x) (hi : f.pw (kbp j) * f.ph (kbp j) ≤ i) : MixR f h o n (j + 1) 0 x := by
  refine ⟨H.c, H.r, H.by_, H.bu, H.bv, H.ky, H.ku, H.kv, fun p hp k hk => ?_⟩
  rw [H.s p hp k hk]
  by_cases e : p = j
  · subst e; rw [if_pos (by omega), if_pos (by omega)]
  · by_cases e2 : p < j
    · rw [if_pos (by omega), if_pos (by omega)]
    · rw [if_neg (by omega), if_neg (by omega)]
theorem MixR.step (H : MixR f h o n j i x) (hj : j < 3) (hi : i < f.pw (kbp j) * f.ph (kbp j)) : MixR f h o n j (i + 1) (x.upd (kbp j) i (mix1 (f.ps (kbp j) i) (o.ps (kbp j) i) n)) := by
  refine ⟨H.c, H.r, H.by_, H.bu, H.bv, H.ky, H.ku, H.kv, fun p hp k hk => ?_⟩
  have h6 : ∀ q, q < 3 → kbp q < 6 := fun q hq => by have := kbp_or hq; omega
  rw [ps_upd x (h6 p hp) (h6 j hj)]
  by_cases e : p = j
  · subst e
    rw [if_pos (Or.inr rfl)]
    unfold updS
    by_cases e2 : k = i
    · subst e2; rw [if_pos rfl, if_pos (by omega)]
    · rw [if_neg e2, H.s p hp k hk]
      by_cases e3 : k < i
      · rw [if_pos (by omega), if_pos (by omega)]
      · rw [if_neg (by omega), if_neg (by omega)]
  · rw [if_neg (fun h9 => e (kbp_sp.1 h9)), H.s p hp k hk]
    by_cases e3 : p < j
    · rw [if_pos (by omega), if_pos (by omega)]
    · rw [if_neg (by omega), if_neg (by omega)]
theorem MixR.pb (H : MixR f h o n j i x) (k : Nat) : x.pb k = h.pb k ∧ x.pc k = h.pc k := by
  unfold Fr.pb Fr.pc; rw [H.by_, H.bu, H.bv, H.ky, H.ku, H.kv]; exact ⟨rfl, rfl⟩
theorem MixR.pw (H : MixR f h o n j i x) (k : Nat) : x.pw k = f.pw k ∧ x.ph k = f.ph k := by
  unfold Fr.pw Fr.ph; rw [H.c, H.r]; exact ⟨rfl, rfl⟩
end
/-- All of it. -/
def MixedF (x f o : Fr) (n : Int) : Prop := x.c = f.c ∧ x.r = f.r ∧ ∀ p, p < 3 → ∀ k, k < f.pw (kbp p) * f.ph (kbp p) → x.ps (kbp p) k = mix1 (f.ps (kbp p) k) (o.ps (kbp p) k) n
theorem MixR.all {f h o x : Fr} {n : Int} {i : Nat} (H : MixR f h o n 3 i x) : MixedF x f o n :=
  ⟨H.c, H.r, fun p hp k hk => by rw [H.s p hp k hk, if_pos (Or.inl hp)]⟩
def MixedP (f o : Fr) (n : Int) (w : World) (e : Ending) (w' : World) : Prop := ∃ x : Fr, e = .returned x.val ∧ MixedF x f o n ∧ x.Mem w' ∧ x.From w.heap.size ∧ Below w.heap.size w w'

theorem pb_new {h : Fr} {B : Nat} (hF : h.From B) {k q : Nat} (hq : q < B) : h.pb k ≠ q := by
  have h1 := hF.y; have h2 := hF.u; have h3 := hF.v
  unfold Fr.pb; split
  · omega
  · split <;> omega
theorem pb_geq {h : Fr} {B B' : Nat} (hF : h.From B) {k : Nat} (hB : B' ≤ B) : B' ≤ h.pb k := by
  have h1 := hF.y; have h2 := hF.u; have h3 := hF.v
  unfold Fr.pb; split
  · omega
  · split <;> omega
theorem pb_neo {h o : Fr} {w : World} (hF : h.From w.heap.size) (hO : o.Mem w) (k : Nat) : h.pb k ≠ o.bY ∧ h.pb k ≠ o.bU ∧ h.pb k ≠ o.bV :=
  ⟨pb_new hF hO.y.lt, pb_new hF hO.u.lt, pb_new hF hO.v.lt⟩
theorem Fr.Mem.pb_lt {h : Fr} {w : World} (hH : h.Mem w) (k : Nat) : h.pb k < w.heap.size := (hH.pl k).lt

theorem planes_cell {o : Fr} {p tw : Nat} {w : World} (hp : p < 3) (HT : Ob w tw PL3 #[.int .i64 (16 * (o.c : Int)), .int .i64 (16 * (o.r : Int)), .slice (some ⟨o.bY, 0, none⟩) (16 * o.c * (16 * o.r)) o.cY, .int .i64 (8 * (o.c : Int)), .int .i64 (8 * (o.r : Int)), .slice (some ⟨o.bU, 0, none⟩) (8 * o.c * (8 * o.r)) o.cU, .int .i64 (8 * (o.c : Int)), .int .i64 (8 * (o.r : Int)), .slice (some ⟨o.bV, 0, none⟩) (8 * o.c * (8 * o.r)) o.cV]) : w.cell? ⟨tw, p * 3 + 2, none⟩ = some (.slice (some ⟨o.pb (kbp p), 0, none⟩) (o.pw (kbp p) * o.ph (kbp p)) (o.pc (kbp p))) := by
  obtain rfl | rfl | rfl : p = 0 ∨ p = 1 ∨ p = 2 := by omega
  · rw [HT.cell 2 rfl]; simp [kbp, Fr.pw, Fr.ph, Fr.pb, Fr.pc]
  · rw [HT.cell 5 rfl]; simp [kbp, Fr.pw, Fr.ph, Fr.pb, Fr.pc]
  · rw [HT.cell 8 rfl]; simp [kbp, Fr.pw, Fr.ph, Fr.pb, Fr.pc]

set_option maxRecDepth 1000000 in
set_option maxHeartbeats 8000000 in
theorem mixed_any (f o : Fr) (part : Int) (w : World) (hM : f.Mem w) (hO : o.Mem w) (hc : o.c = f.c) (hr : o.r = f.r) :
    Calls Try.prog 39 #[f.val, o.val, .int .i64 part] w (MixedP f o (imin (imax part 0) 16) w) := by
  have hnb : 0 ≤ imin (imax part 0) 16 ∧ imin (imax part 0) 16 ≤ 16 := by rw [imin_eq, imax_eq]; omega
  generalize hn : imin (imax part 0) 16 = n at *
  replace hn := Lib.hid hn; replace hc := Lib.hid hc; replace hr := Lib.hid hr
  unfold Fr.val
  go_enter Try.func39, Try.ntmps39
  go_upto_region 1 with fail
  have HF : Ob (((w.alloc (.cells f.cells FRT)).alloc (.cells o.cells FRT)).alloc (.cells #[.int .i64 0, .int .i64 0, .int .i64 0, .int .i64 0, .slice none 0 0, .int .i64 0, .int .i64 0, .slice none 0 0, .int .i64 0, .int .i64 0, .slice none 0 0] FRT)) w.heap.size FRT f.cells := ((Ob.new_at _ _ rfl).alloc _).alloc _
  have HO : Ob (((w.alloc (.cells f.cells FRT)).alloc (.cells o.cells FRT)).alloc (.cells #[.int .i64 0, .int .i64 0, .int .i64 0, .int .i64 0, .slice none 0 0, .int .i64 0, .int .i64 0, .slice none 0 0, .int .i64 0, .int .i64 0, .slice none 0 0] FRT)) (w.heap.size + 1) FRT o.cells := (Ob.new_at _ _ (by simp)).alloc _
  have HR : Ob (((w.alloc (.cells f.cells FRT)).alloc (.cells o.cells FRT)).alloc (.cells #[.int .i64 0, .int .i64 0, .int .i64 0, .int .i64 0, .slice none 0 0, .int .i64 0, .int .i64 0, .slice none 0 0, .int .i64 0, .int .i64 0, .slice none 0 0] FRT)) (w.heap.size + 1 + 1) FRT #[.int .i64 0, .int .i64 0, .int .i64 0, .int .i64 0, .slice none 0 0, .int .i64 0, .int .i64 0, .slice none 0 0, .int .i64 0, .int .i64 0, .slice none 0 0] := Ob.new_at _ _ (by simp)
  have HW : Below w.heap.size w (((w.alloc (.cells f.cells FRT)).alloc (.cells o.cells FRT)).alloc (.cells #[.int .i64 0, .int .i64 0, .int .i64 0, .int .i64 0, .slice none 0 0, .int .i64 0, .int .i64 0, .slice none 0 0, .int .i64 0, .int .i64 0, .slice none 0 0] FRT)) := by ((repeat (first | exact Below.refl _ _ | assumption | refine Below.setCell ?_ (by first | omega | (simp; done) | (simp; omega)) _ | refine Below.alloc ?_ (by first | omega | (simp; done) | (simp; omega)) _ | refine below_drewN ?_ _ | refine Below.drew ?_ | refine below_setRow ?_ (by first | omega | (simp; done) | (simp; omega)) _)))
  replace hM := ((hM.alloc (.cells f.cells FRT)).alloc (.cells o.cells FRT)).alloc (.cells #[.int .i64 0, .int .i64 0, .int .i64 0, .int .i64 0, .slice none 0 0, .int .i64 0, .int .i64 0, .slice none 0 0, .int .i64 0, .int .i64 0, .slice none 0 0] FRT)
  replace hO := ((hO.alloc (.cells f.cells FRT)).alloc (.cells o.cells FRT)).alloc (.cells #[.int .i64 0, .int .i64 0, .int .i64 0, .int .i64 0, .slice none 0 0, .int .i64 0, .int .i64 0, .slice none 0 0, .int .i64 0, .int .i64 0, .slice none 0 0] FRT)
  generalize ((w.alloc (.cells f.cells FRT)).alloc (.cells o.cells FRT)).alloc (.cells #[.int .i64 0, .int .i64 0, .int .i64 0, .int .i64 0, .slice none 0 0, .int .i64 0, .int .i64 0, .slice none 0 0, .int .i64 0, .int .i64 0, .slice none 0 0] FRT) = w3 at *
  go_wp2_with (refine wpList_load_ob HF rfl 43 _ rfl rfl Try.underlying43 (by kernel_rfl) ?_)
  refine (clone_any f _ hM).mono ?_
  rintro e w4 ⟨h, rfl, hlk, hH, hhF, hb⟩
  have us := HW.size
  have uF := HF.lt; have uO := HO.lt; have uR := HR.lt
  have hno := fun k => pb_neo hhF hO k
  have hnq := fun k (q : Nat) (hq : q < w3.heap.size) => pb_new hhF (k := k) hq
  have hge := fun k => pb_geq hhF (k := k) us
  replace hno := Lib.hid hno; replace hnq := Lib.hid hnq; replace hge := Lib.hid hge
  replace hhF := hhF.mono us
  have hHlt := Lib.hid hH.pb_lt
  replace HF := HF.later hb; replace HO := HO.later hb; replace HR := HR.later hb; replace hM := hM.later hb; replace hO := hO.later hb; replace HW := below_step HW hb
  clear hb
  unfold Fr.val
  go_wp2_with (refine wpList_store_stop (Ob.new_at (w := w4) FRT frZ rfl) rfl _ _ _ rfl rfl h.cells rfl (by kernel_rfl) rfl rfl ?_)
  intro w5 hw5
  have HX := cell_ob hw5.out
  replace HF := cell_keep hw5.out HF; replace HO := cell_keep hw5.out HO; replace HR := cell_keep hw5.out HR
  replace hM := cell_mem hw5.out hM; replace hO := cell_mem hw5.out hO; replace hH := cell_mem hw5.out hH
  replace HW := cell_below hw5.out HW HW.size
  clear hw5
  have g0 := HF.fC; have g1 := HF.fR
  have g2 := HO.fC; have g3 := HO.fR
  rw [hc.out] at g2; rw [hr.out] at g3
  have hn2 := hn.out
  have uX : ∀ k, h.pb k < w4.heap.size := hHlt.out
  replace uX := Lib.hid uX
  generalize w4.heap.size = y at *
  go_wp2_with (refine wpList_load_ob HO rfl 43 _ rfl rfl Try.underlying43 (by kernel_rfl) ?_)
  refine (planes_any o _).mono ?_
  rintro e w6 ⟨rfl, hb⟩
  clear g0 g1 g2 g3 hn2
  replace HO := HO.later hb; replace HX := HX.later hb; replace HR := HR.later hb; replace hO := hO.later hb; replace hH := hH.later hb; replace HW := below_step HW hb
  clear hb
  have uYt := HX.lt
  unfold Fr.planes
  have HT : Ob (w6.alloc (.cells #[.int .i64 (16 * (o.c : Int)), .int .i64 (16 * (o.r : Int)), .slice (some ⟨o.bY, 0, none⟩) (16 * o.c * (16 * o.r)) o.cY, .int .i64 (8 * (o.c : Int)), .int .i64 (8 * (o.r : Int)), .slice (some ⟨o.bU, 0, none⟩) (8 * o.c * (8 * o.r)) o.cU, .int .i64 (8 * (o.c : Int)), .int .i64 (8 * (o.r : Int)), .slice (some ⟨o.bV, 0, none⟩) (8 * o.c * (8 * o.r)) o.cV] PL3)) w6.heap.size PL3 #[.int .i64 (16 * (o.c : Int)), .int .i64 (16 * (o.r : Int)), .slice (some ⟨o.bY, 0, none⟩) (16 * o.c * (16 * o.r)) o.cY, .int .i64 (8 * (o.c : Int)), .int .i64 (8 * (o.r : Int)), .slice (some ⟨o.bU, 0, none⟩) (8 * o.c * (8 * o.r)) o.cU, .int .i64 (8 * (o.c : Int)), .int .i64 (8 * (o.r : Int)), .slice (some ⟨o.bV, 0, none⟩) (8 * o.c * (8 * o.r)) o.cV] := Ob.new_at _ _ rfl
  replace HX := HX.alloc (.cells #[.int .i64 (16 * (o.c : Int)), .int .i64 (16 * (o.r : Int)), .slice (some ⟨o.bY, 0, none⟩) (16 * o.c * (16 * o.r)) o.cY, .int .i64 (8 * (o.c : Int)), .int .i64 (8 * (o.r : Int)), .slice (some ⟨o.bU, 0, none⟩) (8 * o.c * (8 * o.r)) o.cU, .int .i64 (8 * (o.c : Int)), .int .i64 (8 * (o.r : Int)), .slice (some ⟨o.bV, 0, none⟩) (8 * o.c * (8 * o.r)) o.cV] PL3); replace HR := HR.alloc (.cells #[.int .i64 (16 * (o.c : Int)), .int .i64 (16 * (o.r : Int)), .slice (some ⟨o.bY, 0, none⟩) (16 * o.c * (16 * o.r)) o.cY, .int .i64 (8 * (o.c : Int)), .int .i64 (8 * (o.r : Int)), .slice (some ⟨o.bU, 0, none⟩) (8 * o.c * (8 * o.r)) o.cU, .int .i64 (8 * (o.c : Int)), .int .i64 (8 * (o.r : Int)), .slice (some ⟨o.bV, 0, none⟩) (8 * o.c * (8 * o.r)) o.cV] PL3); replace hO := hO.alloc (.cells #[.int .i64 (16 * (o.c : Int)), .int .i64 (16 * (o.r : Int)), .slice (some ⟨o.bY, 0, none⟩) (16 * o.c * (16 * o.r)) o.cY, .int .i64 (8 * (o.c : Int)), .int .i64 (8 * (o.r : Int)), .slice (some ⟨o.bU, 0, none⟩) (8 * o.c * (8 * o.r)) o.cU, .int .i64 (8 * (o.c : Int)), .int .i64 (8 * (o.r : Int)), .slice (some ⟨o.bV, 0, none⟩) (8 * o.c * (8 * o.r)) o.cV] PL3); replace hH := hH.alloc (.cells #[.int .i64 (16 * (o.c : Int)), .int .i64 (16 * (o.r : Int)), .slice (some ⟨o.bY, 0, none⟩) (16 * o.c * (16 * o.r)) o.cY, .int .i64 (8 * (o.c : Int)), .int .i64 (8 * (o.r : Int)), .slice (some ⟨o.bU, 0, none⟩) (8 * o.c * (8 * o.r)) o.cU, .int .i64 (8 * (o.c : Int)), .int .i64 (8 * (o.r : Int)), .slice (some ⟨o.bV, 0, none⟩) (8 * o.c * (8 * o.r)) o.cV] PL3); replace HW := HW.alloc HW.size (.cells #[.int .i64 (16 * (o.c : Int)), .int .i64 (16 * (o.r : Int)), .slice (some ⟨o.bY, 0, none⟩) (16 * o.c * (16 * o.r)) o.cY, .int .i64 (8 * (o.c : Int)), .int .i64 (8 * (o.r : Int)), .slice (some ⟨o.bU, 0, none⟩) (8 * o.c * (8 * o.r)) o.cU, .int .i64 (8 * (o.c : Int)), .int .i64 (8 * (o.r : Int)), .slice (some ⟨o.bV, 0, none⟩) (8 * o.c * (8 * o.r)) o.cV] PL3)
  go_wp2_with (refine wpList_load_ob HX rfl 43 _ rfl rfl Try.underlying43 (by kernel_rfl) ?_)
  generalize w6.alloc (.cells #[.int .i64 (16 * (o.c : Int)), .int .i64 (16 * (o.r : Int)), .slice (some ⟨o.bY, 0, none⟩) (16 * o.c * (16 * o.r)) o.cY, .int .i64 (8 * (o.c : Int)), .int .i64 (8 * (o.r : Int)), .slice (some ⟨o.bU, 0, none⟩) (8 * o.c * (8 * o.r)) o.cU, .int .i64 (8 * (o.c : Int)), .int .i64 (8 * (o.r : Int)), .slice (some ⟨o.bV, 0, none⟩) (8 * o.c * (8 * o.r)) o.cV] PL3) = w7 at *
  have uT : ∀ k, h.pb k < w6.heap.size := fun k => Nat.lt_of_lt_of_le (uX.out k) (Nat.le_of_lt uYt)
  generalize w6.heap.size = tw at *
  refine (planes_any h _).mono ?_
  rintro e w8 ⟨rfl, hb⟩
  replace HX := HX.later hb; replace HR := HR.later hb; replace HT := HT.later hb; replace hO := hO.later hb; replace hH := hH.later hb; replace HW := below_step HW hb
  clear hb
  clear HF HO hM
  replace uT := Lib.hid uT
  have e0 := MixR.start (o := o) (n := n) hlk
  go_wp2_with fail
  go_loopw [35] (fun t wr => ∃ j : Nat, j ≤ 3 ∧ t = .int .i64 (j : Int) ∧ ∃ x : Fr, MixR f h o n j 0 x ∧ Ob wr y FRT x.cells ∧ Ob wr (w.heap.size + 1 + 1) FRT #[.int .i64 0, .int .i64 0, .int .i64 0, .int .i64 0, .slice none 0 0, .int .i64 0, .int .i64 0, .slice none 0 0, .int .i64 0, .int .i64 0, .slice none 0 0] ∧ Ob wr tw PL3 #[.int .i64 (16 * (o.c : Int)), .int .i64 (16 * (o.r : Int)), .slice (some ⟨o.bY, 0, none⟩) (16 * o.c * (16 * o.r)) o.cY, .int .i64 (8 * (o.c : Int)), .int .i64 (8 * (o.r : Int)), .slice (some ⟨o.bU, 0, none⟩) (8 * o.c * (8 * o.r)) o.cU, .int .i64 (8 * (o.c : Int)), .int .i64 (8 * (o.r : Int)), .slice (some ⟨o.bV, 0, none⟩) (8 * o.c * (8 * o.r)) o.cV] ∧ x.Mem wr ∧ o.Mem wr ∧ Below w.heap.size w wr) (fun t _ => 3 - (intOf t).toNat)
  case atStart => exact ⟨0, by omega, rfl, h, e0, HX, HR, HT, hH, hO, HW⟩
  case round =>
    clear HX HR HT hO hH HW e0
    obtain ⟨j, hj, rfl, x, hx, HX, HR, HT, hH, hO, HW⟩ := hrel
    by_cases hj3 : j < 3
    · have hd : decide ((j : Int) < 3) = true := by simp; omega
      have j0 : (0 : Int) ≤ j := by omega
      have j1 : (j : Int) < 3 := by omega
      have hidx := fun w => planes_p h hj3 w
      unfold Fr.plC at hidx
      go_upto_region 9 with fail
      clear hidx
      have HP : Ob (wr.alloc (.cells #[.int .i64 (h.pw (kbp j) : Int), .int .i64 (h.ph (kbp j) : Int), .slice (some ⟨h.pb (kbp j), 0, none⟩) (h.pw (kbp j) * h.ph (kbp j)) (h.pc (kbp j))] PLT)) wr.heap.size PLT #[.int .i64 (h.pw (kbp j) : Int), .int .i64 (h.ph (kbp j) : Int), .slice (some ⟨h.pb (kbp j), 0, none⟩) (h.pw (kbp j) * h.ph (kbp j)) (h.pc (kbp j))] := Ob.new_at _ _ rfl
      have uP : h.pb (kbp j) < wr.heap.size := Nat.lt_trans (uX.out _) HX.lt
      replace HX := HX.alloc (.cells #[.int .i64 (h.pw (kbp j) : Int), .int .i64 (h.ph (kbp j) : Int), .slice (some ⟨h.pb (kbp j), 0, none⟩) (h.pw (kbp j) * h.ph (kbp j)) (h.pc (kbp j))] PLT); replace HR := HR.alloc (.cells #[.int .i64 (h.pw (kbp j) : Int), .int .i64 (h.ph (kbp j) : Int), .slice (some ⟨h.pb (kbp j), 0, none⟩) (h.pw (kbp j) * h.ph (kbp j)) (h.pc (kbp j))] PLT); replace HT := HT.alloc (.cells #[.int .i64 (h.pw (kbp j) : Int), .int .i64 (h.ph (kbp j) : Int), .slice (some ⟨h.pb (kbp j), 0, none⟩) (h.pw (kbp j) * h.ph (kbp j)) (h.pc (kbp j))] PLT); replace hO := hO.alloc (.cells #[.int .i64 (h.pw (kbp j) : Int), .int .i64 (h.ph (kbp j) : Int), .slice (some ⟨h.pb (kbp j), 0, none⟩) (h.pw (kbp j) * h.ph (kbp j)) (h.pc (kbp j))] PLT); replace hH := hH.alloc (.cells #[.int .i64 (h.pw (kbp j) : Int), .int .i64 (h.ph (kbp j) : Int), .slice (some ⟨h.pb (kbp j), 0, none⟩) (h.pw (kbp j) * h.ph (kbp j)) (h.pc (kbp j))] PLT); replace HW := HW.alloc HW.size (.cells #[.int .i64 (h.pw (kbp j) : Int), .int .i64 (h.ph (kbp j) : Int), .slice (some ⟨h.pb (kbp j), 0, none⟩) (h.pw (kbp j) * h.ph (kbp j)) (h.pc (kbp j))] PLT)
      generalize wr.alloc (.cells #[.int .i64 (h.pw (kbp j) : Int), .int .i64 (h.ph (kbp j) : Int), .slice (some ⟨h.pb (kbp j), 0, none⟩) (h.pw (kbp j) * h.ph (kbp j)) (h.pc (kbp j))] PLT) = wa at *
      generalize wr.heap.size = pp at *
      have hwh := hx.pw (kbp j)
      have hpb := hx.pb (kbp j)
      have hxw : h.pw (kbp j) = f.pw (kbp j) ∧ h.ph (kbp j) = f.ph (kbp j) := by unfold Fr.pw Fr.ph; rw [hlk.c, hlk.r]; exact ⟨rfl, rfl⟩
      have how : o.pw (kbp j) = f.pw (kbp j) ∧ o.ph (kbp j) = f.ph (kbp j) := by unfold Fr.pw Fr.ph; rw [hc.out, hr.out]; exact ⟨rfl, rfl⟩
      have hxb := hH.plb (kbp j)
      rw [hwh.1, hwh.2] at hxb
      have hN : f.pw (kbp j) * f.ph (kbp j) ≤ 16384 := Nat.mul_le_mul hxb.1 hxb.2
      have c0 : wa.cell? ⟨pp, 2, none⟩ = some (.slice (some ⟨h.pb (kbp j), 0, none⟩) (h.pw (kbp j) * h.ph (kbp j)) (h.pc (kbp j))) := HP.cell 2 rfl
      rw [hxw.1, hxw.2] at c0
      go_wp2_with fail
      clear c0
      replace hwh := Lib.hid hwh; replace hpb := Lib.hid hpb; replace hxw := Lib.hid hxw; replace how := Lib.hid how
      go_loopw [42] (fun t wr => ∃ i : Nat, i ≤ f.pw (kbp j) * f.ph (kbp j) ∧ t = .int .i64 (i : Int) ∧ ∃ x : Fr, MixR f h o n j i x ∧ Ob wr pp PLT #[.int .i64 (h.pw (kbp j) : Int), .int .i64 (h.ph (kbp j) : Int), .slice (some ⟨h.pb (kbp j), 0, none⟩) (h.pw (kbp j) * h.ph (kbp j)) (h.pc (kbp j))] ∧ Ob wr y FRT x.cells ∧ Ob wr (w.heap.size + 1 + 1) FRT #[.int .i64 0, .int .i64 0, .int .i64 0, .int .i64 0, .slice none 0 0, .int .i64 0, .int .i64 0, .slice none 0 0, .int .i64 0, .int .i64 0, .slice none 0 0] ∧ Ob wr tw PL3 #[.int .i64 (16 * (o.c : Int)), .int .i64 (16 * (o.r : Int)), .slice (some ⟨o.bY, 0, none⟩) (16 * o.c * (16 * o.r)) o.cY, .int .i64 (8 * (o.c : Int)), .int .i64 (8 * (o.r : Int)), .slice (some ⟨o.bU, 0, none⟩) (8 * o.c * (8 * o.r)) o.cU, .int .i64 (8 * (o.c : Int)), .int .i64 (8 * (o.r : Int)), .slice (some ⟨o.bV, 0, none⟩) (8 * o.c * (8 * o.r)) o.cV] ∧ x.Mem wr ∧ o.Mem wr ∧ Below w.heap.size w wr) (fun t _ => f.pw (kbp j) * f.ph (kbp j) - (intOf t).toNat)
      case atStart => exact ⟨0, by omega, rfl, x, hx, HP, HX, HR, HT, hH, hO, HW⟩
      case round =>
        clear HP HX HR HT hO hH HW hx hwh hpb
        obtain ⟨i, hi, rfl, x, hx, HP, HX, HR, HT, hH, hO, HW⟩ := hrel
        by_cases hi3 : i < f.pw (kbp j) * f.ph (kbp j)
        · have hd : decide ((i : Int) < (f.pw (kbp j) : Int) * (f.ph (kbp j) : Int)) = true := decide_eq_true (by rw [← Int.natCast_mul]; exact Int.ofNat_lt.2 hi3)
          have i0 : (0 : Int) ≤ i := by omega
          have i1 : (i : Int) ≤ 16384 := by omega
          have hwh := Lib.hid (hx.pw (kbp j))
          have hpb := Lib.hid (hx.pb (kbp j))
          have cs := (hH.pl (kbp j)).cell (k := i) (by rw [hwh.out.1, hwh.out.2]; exact hi3)
          have cz := (hH.pl (kbp j)).free i
          have cb := (hH.pl (kbp j)).bd (k := i) (by rw [hwh.out.1, hwh.out.2]; exact hi3)
          rw [hpb.out.1] at cs cz
          rw [hx.s j hj3 i hi3, if_neg (by omega)] at cs cb
          have ct := (hO.pl (kbp j)).cell (k := i) (by rw [how.out.1, how.out.2]; exact hi3)
          have cb2 := (hO.pl (kbp j)).bd (k := i) (by rw [how.out.1, how.out.2]; exact hi3)
          generalize hs0 : f.ps (kbp j) i = s0 at *
          generalize ht0 : o.ps (kbp j) i = t0 at *
          replace hs0 := Lib.hid hs0; replace ht0 := Lib.hid ht0
          have hf := planes_cell hj3 HT
          rw [how.out.1, how.out.2] at hf
          have hd2 : decide ((i : Int) < ((f.pw (kbp j) * f.ph (kbp j) : Nat) : Int)) = true := decide_eq_true (Int.ofNat_lt.2 hi3)
          go_wp2_with fail
          obtain ⟨b1, b2, b3, b4, b5, b6⟩ := mix1_bd cb cb2 hnb
          have hv := Lib.hid (show mix1 s0 t0 n = (s0 * (16 - n) + t0 * n + 8) / 16 from rfl)
          have c0 : wr.cell? ⟨pp, 2, none⟩ = some (.slice (some ⟨h.pb (kbp j), 0, none⟩) (h.pw (kbp j) * h.ph (kbp j)) (h.pc (kbp j))) := HP.cell 2 rfl
          rw [hxw.out.1, hxw.out.2] at c0
          apply wp_region_tail_drew 23
          case hm => kernel_rfl
          case hB => kernel_rfl
          case hno => kernel_rfl
          case hF =>
            simp only [List.take_succ_cons, List.take_zero]
            repeat (go_big_quiet_step (fail))
            exact wpQuiet_nil rfl
          case hT =>
            intro nq
            simp only [List.drop_succ_cons, List.drop_zero]
            replace c0 : (wr.drewN nq).cell? ⟨pp, 2, none⟩ = some (.slice (some ⟨h.pb (kbp j), 0, none⟩) (f.pw (kbp j) * f.ph (kbp j)) (h.pc (kbp j))) := c0
            replace cs : (wr.drewN nq).cell? ⟨h.pb (kbp j), i, none⟩ = some (.int .u8 s0) := cs
            replace cz : (wr.drewN nq).frozen? ⟨h.pb (kbp j), i, none⟩ = false := cz
            replace HP := HP.drewN nq; replace HX := HX.drewN nq; replace HR := HR.drewN nq; replace HT := HT.drewN nq; replace hH := hH.drewN nq; replace hO := hO.drewN nq; replace HW := below_drewN HW nq
            generalize wr.drewN nq = wr at *
            go_wp2_with fail
            rw [show (s0 * (16 - n) + t0 * n + 8) / 16 % 256 = mix1 s0 t0 n by have h9 := hv.out; omega]
            have hk6 : kbp j < 6 := by have := kbp_or hj3; omega
            have n1 := hnq.out (kbp j) _ uR
            have n2 := uX.out (kbp j)
            have n3 := uT.out (kbp j)
            obtain ⟨n4, n5, n6⟩ := hno.out (kbp j)
            have n7 := hge.out (kbp j)
            have hx2 := hx.step hj3 hi3
            rw [hs0.out, ht0.out] at hx2
            have hH2 := hH.upd hk6 i (mix1 s0 t0 n) ⟨b5, b6⟩
            rw [hpb.out.1] at hH2
            exact ⟨⟨i + 1, by omega, by go_num, x.upd (kbp j) i (mix1 s0 t0 n), hx2, HP.other (Nat.ne_of_lt uP) i _, HX.other (Nat.ne_of_lt n2) i _, HR.other n1 i _, HT.other (Nat.ne_of_lt n3) i _, hH2, hO.other n4 n5 n6 i _, HW.setCell (p := ⟨h.pb (kbp j), i, none⟩) n7 _⟩, by simp [intOf]; omega⟩
        · obtain rfl : i = f.pw (kbp j) * f.ph (kbp j) := by omega
          have hd : decide (((f.pw (kbp j) * f.ph (kbp j) : Nat) : Int) < (f.pw (kbp j) : Int) * (f.ph (kbp j) : Int)) = false := by simp
          go_wp2_with fail
          exact ⟨⟨j + 1, by omega, by go_num, x, hx.next (Nat.le_refl _), HX, HR, HT, hH, hO, HW⟩, by simp [intOf]; omega⟩
    · obtain rfl : j = 3 := by omega
      have hx2 := hx.all
      have h1 := hx.by_; have h2 := hx.bu; have h3 := hx.bv
      go_wp2_with (first | (refine wpList_load_ob HX rfl 43 _ rfl rfl Try.underlying43 (by kernel_rfl) ?_) | (refine wpList_store_ob HR rfl _ _ _ rfl rfl x.cells rfl (by kernel_rfl) rfl rfl ?_))
      have m1 : w.heap.size + 1 + 1 ≠ x.bY := by rw [h1]; exact (hnq.out 0 _ uR).symm
      have m2 : w.heap.size + 1 + 1 ≠ x.bU := by rw [h2]; exact (hnq.out 4 _ uR).symm
      have m3 : w.heap.size + 1 + 1 ≠ x.bV := by rw [h3]; exact (hnq.out 5 _ uR).symm
      exact bodyPost_ret (results_ob rfl _ (HR.setRow_same _) (by kernel_rfl) Try.underlying43 (by kernel_rfl)) rfl ⟨x, rfl, hx2, hH.setRow m1 m2 m3 _, ⟨by rw [h1]; exact hhF.y, by rw [h2]; exact hhF.u, by rw [h3]; exact hhF.v⟩, below_setRow HW (by omega) _⟩
/-- Of two sizes: the first one as it is. -/
theorem mixed_not (f o : Fr) (part : Int) (w : World) (hM : f.Mem w) (hc : (o.c : Int) ≠ (f.c : Int)) :
    Calls Try.prog 39 #[f.val, o.val, .int .i64 part] w (ClonedF f w) := by
  have hne : ((f.c : Int) != (o.c : Int)) = true := by simp; omega
  replace hc := Lib.hid hc
  unfold Fr.val
  go_enter Try.func39, Try.ntmps39
  go_upto_region 1 with fail
  have HF : Ob (((w.alloc (.cells f.cells FRT)).alloc (.cells o.cells FRT)).alloc (.cells #[.int .i64 0, .int .i64 0, .int .i64 0, .int .i64 0, .slice none 0 0, .int .i64 0, .int .i64 0, .slice none 0 0, .int .i64 0, .int .i64 0, .slice none 0 0] FRT)) w.heap.size FRT f.cells := ((Ob.new_at _ _ rfl).alloc _).alloc _
  have HO : Ob (((w.alloc (.cells f.cells FRT)).alloc (.cells o.cells FRT)).alloc (.cells #[.int .i64 0, .int .i64 0, .int .i64 0, .int .i64 0, .slice none 0 0, .int .i64 0, .int .i64 0, .slice none 0 0, .int .i64 0, .int .i64 0, .slice none 0 0] FRT)) (w.heap.size + 1) FRT o.cells := (Ob.new_at _ _ (by simp)).alloc _
  have HR : Ob (((w.alloc (.cells f.cells FRT)).alloc (.cells o.cells FRT)).alloc (.cells #[.int .i64 0, .int .i64 0, .int .i64 0, .int .i64 0, .slice none 0 0, .int .i64 0, .int .i64 0, .slice none 0 0, .int .i64 0, .int .i64 0, .slice none 0 0] FRT)) (w.heap.size + 1 + 1) FRT #[.int .i64 0, .int .i64 0, .int .i64 0, .int .i64 0, .slice none 0 0, .int .i64 0, .int .i64 0, .slice none 0 0, .int .i64 0, .int .i64 0, .slice none 0 0] := Ob.new_at _ _ (by simp)
  have HW : Below w.heap.size w (((w.alloc (.cells f.cells FRT)).alloc (.cells o.cells FRT)).alloc (.cells #[.int .i64 0, .int .i64 0, .int .i64 0, .int .i64 0, .slice none 0 0, .int .i64 0, .int .i64 0, .slice none 0 0, .int .i64 0, .int .i64 0, .slice none 0 0] FRT)) := by ((repeat (first | exact Below.refl _ _ | assumption | refine Below.setCell ?_ (by first | omega | (simp; done) | (simp; omega)) _ | refine Below.alloc ?_ (by first | omega | (simp; done) | (simp; omega)) _ | refine below_drewN ?_ _ | refine Below.drew ?_ | refine below_setRow ?_ (by first | omega | (simp; done) | (simp; omega)) _)))
  replace hM := ((hM.alloc (.cells f.cells FRT)).alloc (.cells o.cells FRT)).alloc (.cells #[.int .i64 0, .int .i64 0, .int .i64 0, .int .i64 0, .slice none 0 0, .int .i64 0, .int .i64 0, .slice none 0 0, .int .i64 0, .int .i64 0, .slice none 0 0] FRT)
  generalize ((w.alloc (.cells f.cells FRT)).alloc (.cells o.cells FRT)).alloc (.cells #[.int .i64 0, .int .i64 0, .int .i64 0, .int .i64 0, .slice none 0 0, .int .i64 0, .int .i64 0, .slice none 0 0, .int .i64 0, .int .i64 0, .slice none 0 0] FRT) = w3 at *
  go_wp2_with (refine wpList_load_ob HF rfl 43 _ rfl rfl Try.underlying43 (by kernel_rfl) ?_)
  refine (clone_any f _ hM).mono ?_
  rintro e w4 ⟨h, rfl, hlk, hH, hhF, hb⟩
  have us := HW.size
  have uR := HR.lt
  have r1 : w.heap.size + 1 + 1 ≠ h.bY := by have := hhF.y; omega
  have r2 : w.heap.size + 1 + 1 ≠ h.bU := by have := hhF.u; omega
  have r3 : w.heap.size + 1 + 1 ≠ h.bV := by have := hhF.v; omega
  replace hhF := hhF.mono us
  clear us uR
  replace HF := HF.later hb; replace HO := HO.later hb; replace HR := HR.later hb; replace HW := below_step HW hb
  clear hb
  unfold Fr.val
  go_wp2_with (refine wpList_store_stop (Ob.new_at (w := w4) FRT frZ rfl) rfl _ _ _ rfl rfl h.cells rfl (by kernel_rfl) rfl rfl ?_)
  intro w5 hw5
  have HX := cell_ob hw5.out
  replace HF := cell_keep hw5.out HF; replace HO := cell_keep hw5.out HO; replace HR := cell_keep hw5.out HR
  replace hH := cell_mem hw5.out hH
  replace HW := cell_below hw5.out HW HW.size
  clear hw5
  have g0 := HF.fC; have g1 := HF.fR
  have g2 := HO.fC; have g3 := HO.fR
  go_wp2_with (first | (refine wpList_load_ob HX rfl 43 _ rfl rfl Try.underlying43 (by kernel_rfl) ?_) | (refine wpList_store_ob HR rfl _ _ _ rfl rfl h.cells rfl (by kernel_rfl) rfl rfl ?_))
  exact bodyPost_ret (results_ob rfl _ (HR.setRow_same _) (by kernel_rfl) Try.underlying43 (by kernel_rfl)) rfl ⟨h, rfl, hlk, hH.setRow r1 r2 r3 _, hhF, below_setRow HW (by omega) _⟩
end Go.Proofs.Ytbldgpemocnboaa

/- plane.Frame's Clone, walked: the same samples in blocks of their own. -/
import Derived.Test.YtbldgpemocnboaaFrW
import Derived.Test.YtbldgpemocnboaaOb
namespace Go.Proofs.Ytbldgpemocnboaa
open Go.RowKit Go.Sort
attribute [local go_sem ↓] run_imax run_imin

/-- Frame g has f's size and samples. -/
structure Fr.Like (g f : Fr) : Prop where
  c : g.c = f.c
  r : g.r = f.r
  y : g.sY = f.sY
  u : g.sU = f.sU
  v : g.sV = f.sV
def ClonedF (f : Fr) (w : World) (e : Ending) (w' : World) : Prop := ∃ g : Fr, e = .returned g.val ∧ g.Like f ∧ g.Mem w' ∧ g.From w.heap.size ∧ Below w.heap.size w w'
def frZ0 : Array Value := #[.int .i64 0, .int .i64 0, .int .i64 0, .int .i64 0, .slice none 0 0, .int .i64 0, .int .i64 0, .slice none 0 0, .int .i64 0, .int .i64 0, .slice none 0 0]
/-- While Clone runs: j planes are copied. -/
structure ClR (f : Fr) (q z : Nat) (w : World) (j : Nat) (g : Fr) (wr : World) : Prop where
  like : g.Like f
  ho : Ob wr q FRT g.cells
  y : PB wr g.bY (16 * g.c * (16 * g.r)) g.sY
  u : PB wr g.bU (8 * g.c * (8 * g.r)) g.sU
  v : PB wr g.bV (8 * g.c * (8 * g.r)) g.sV
  n0 : (q ≠ g.bY ∧ z ≠ g.bY) ∧ (q ≠ g.bU ∧ z ≠ g.bU) ∧ (q ≠ g.bV ∧ z ≠ g.bV)
  n1 : 1 ≤ j → w.heap.size ≤ g.bY
  n2 : 2 ≤ j → w.heap.size ≤ g.bU ∧ g.bY ≠ g.bU
  n3 : 3 ≤ j → w.heap.size ≤ g.bV ∧ g.bY ≠ g.bV ∧ g.bU ≠ g.bV
  hz : Ob wr z FRT frZ0
  below : Below w.heap.size w wr

theorem vb_none (w : World) (T : TypeId) (G : Nat → Value) : VB (w.alloc (.cells #[] T)) w.heap.size T 0 G := ⟨0, G, Nat.le_refl _, Blk.new_at (w := w) T 0 G rfl, fun k hk => by omega⟩

set_option maxHeartbeats 4000000 in
theorem clone_any (f : Fr) (w : World) (hM : f.Mem w) : Calls Try.prog 33 #[f.val] w (ClonedF f w) := by
  have hc := hM.hc; have hr := hM.hr
  have hly := hM.y.lt; have hlu := hM.u.lt; have hlv := hM.v.lt
  unfold Fr.val Fr.cells
  go_enter Try.func33, Try.ntmps33
  go_wp2_with fail
  have HO : Ob (((w.alloc (.cells f.cells FRT)).alloc (.cells frZ0 FRT)).alloc (.cells #[.pointer (some ⟨w.heap.size, 2, none⟩), .pointer (some ⟨w.heap.size, 5, none⟩), .pointer (some ⟨w.heap.size, 8, none⟩)] 144)) w.heap.size FRT f.cells := ((Ob.new_at (w := w) FRT f.cells rfl).alloc _).alloc _
  have HZ : Ob (((w.alloc (.cells f.cells FRT)).alloc (.cells frZ0 FRT)).alloc (.cells #[.pointer (some ⟨w.heap.size, 2, none⟩), .pointer (some ⟨w.heap.size, 5, none⟩), .pointer (some ⟨w.heap.size, 8, none⟩)] 144)) (w.heap.size + 1) FRT frZ0 := (Ob.new_at FRT frZ0 (by simp)).alloc _
  have HPt : Ob (((w.alloc (.cells f.cells FRT)).alloc (.cells frZ0 FRT)).alloc (.cells #[.pointer (some ⟨w.heap.size, 2, none⟩), .pointer (some ⟨w.heap.size, 5, none⟩), .pointer (some ⟨w.heap.size, 8, none⟩)] 144)) (w.heap.size + 2) 144 #[.pointer (some ⟨w.heap.size, 2, none⟩), .pointer (some ⟨w.heap.size, 5, none⟩), .pointer (some ⟨w.heap.size, 8, none⟩)] := Ob.new_at _ _ (by simp)
  have HW : Below w.heap.size w (((w.alloc (.cells f.cells FRT)).alloc (.cells frZ0 FRT)).alloc (.cells #[.pointer (some ⟨w.heap.size, 2, none⟩), .pointer (some ⟨w.heap.size, 5, none⟩), .pointer (some ⟨w.heap.size, 8, none⟩)] 144)) := by ((repeat (first | exact Below.refl _ _ | assumption | refine Below.setCell ?_ (by first | omega | (simp; done) | (simp; omega)) _ | refine Below.alloc ?_ (by first | omega | (simp; done) | (simp; omega)) _ | refine below_drewN ?_ _ | refine Below.drew ?_ | refine below_setRow ?_ (by first | omega | (simp; done) | (simp; omega)) _)))
  replace hM := ((hM.alloc (.cells f.cells FRT)).alloc (.cells frZ0 FRT)).alloc (.cells #[.pointer (some ⟨w.heap.size, 2, none⟩), .pointer (some ⟨w.heap.size, 5, none⟩), .pointer (some ⟨w.heap.size, 8, none⟩)] 144)
  unfold frZ0 at HO HZ HPt HW hM
  unfold Fr.cells at HO HZ HPt HW hM
  generalize ((w.alloc (.cells _ FRT)).alloc (.cells _ FRT)).alloc (.cells _ 144) = w1 at *
  go_loopw [10] (fun v wr => ∃ j : Nat, ∃ g : Fr, (j = 0 ∨ j = 1 ∨ j = 2 ∨ j = 3) ∧ v = .int .i64 (j : Int) ∧ ClR f w.heap.size (w.heap.size + 1) w j g wr ∧ Ob wr (w.heap.size + 2) 144 #[.pointer (some ⟨w.heap.size, 2, none⟩), .pointer (some ⟨w.heap.size, 5, none⟩), .pointer (some ⟨w.heap.size, 8, none⟩)]) (fun v _ => 3 - (intOf v).toNat)
  case atStart => exact ⟨0, f, Or.inl rfl, rfl, ⟨⟨rfl, rfl, rfl, rfl, rfl⟩, HO, hM.y, hM.u, hM.v, by omega, fun h => by omega, fun h => by omega, fun h => by omega, HZ, HW⟩, HPt⟩
  case round =>
    clear HO HZ HPt HW hM
    obtain ⟨j, g, hj, rfl, HR, HPt⟩ := hrel
    have hgc : g.c ≤ 8 := by rw [HR.like.c]; exact hc
    have hgr : g.r ≤ 8 := by rw [HR.like.r]; exact hr
    have hy := HR.y.lt; have hu := HR.u.lt; have hv := HR.v.lt; have hs := HR.below.size; have hq := HR.ho.lt; have hz := HR.hz.lt; have hp := HPt.lt
    obtain ⟨⟨a1, a2⟩, ⟨a3, a4⟩, ⟨a5, a6⟩⟩ := HR.n0
    rcases hj with rfl | rfl | rfl | rfl
    · have cp : wr.cell? ⟨w.heap.size + 2, 0, none⟩ = some (.pointer (some ⟨w.heap.size, 2, none⟩)) := HPt.cell 0 rfl
      have cs := HR.ho.fYS
      have f4 := HR.ho.free 4
      have hb := HR.y
      have hN : 16 * g.c * (16 * g.r) ≤ 16384 := Nat.le_trans (Nat.mul_le_mul (by omega : _ ≤ 128) (by omega : _ ≤ 128)) (by omega)
      go_wp2_with (at_builtin; refine wpList_append_copy rfl _ _ _ rfl 5 (.int .u8 0) 1 Try.underlying36 infoU8 rfl wr.heap.size rfl _ (vb_none wr _ (u8v g.sY)) g.bY (16 * g.c * (16 * g.r)) g.cY (u8v g.sY) rfl (hb.vb.alloc _) (fun _ _ => rfl) (by unfold maxLen; omega) (by omega) ?_)
      intro b k w2 hbk hV hb2
      have hbk2 : wr.heap.size ≤ b := by omega
      replace hb2 : Below (wr.alloc (.cells #[] 5)).heap.size (wr.alloc (.cells #[] 5)) w2 := by simpa using hb2
      clear cs hbk
      have HO2 := (HR.ho.alloc (.cells #[] 5)).later hb2
      have f5 := HO2.free 4
      have c5 := HO2.fYS
      clear f4
      go_wp2_with fail
      have e0 : w.heap.size < w2.heap.size := by have := hb2.size; simp at this; omega
      exact ⟨⟨1, { g with bY := b, cY := k }, Or.inr (Or.inl rfl), rfl, ⟨⟨HR.like.c, HR.like.r, HR.like.y, HR.like.u, HR.like.v⟩, HO2.set 4 _, (show PB w2 b (16 * g.c * (16 * g.r)) g.sY from ⟨hV, hb.bd⟩).other (by omega) _ _, ((HR.u.alloc _).later hb2).other (by omega) _ _, ((HR.v.alloc _).later hb2).other (by omega) _ _, ⟨⟨by show _ ≠ b; omega, by show _ ≠ b; omega⟩, ⟨a3, a4⟩, ⟨a5, a6⟩⟩, fun _ => (by show _ ≤ b; omega), fun h => by omega, fun h => by omega, ((HR.hz.alloc _).later hb2).other (by omega) _ _, (below_step (HR.below.alloc hs _) hb2).setCell (Nat.le_refl _) _⟩, ((HPt.alloc _).later hb2).other (by omega) _ _⟩, by simp [intOf]⟩
    · have cp : wr.cell? ⟨w.heap.size + 2, 1, none⟩ = some (.pointer (some ⟨w.heap.size, 5, none⟩)) := HPt.cell 1 rfl
      have cs := HR.ho.fUS
      have f4 := HR.ho.free 7
      have hb := HR.u
      have hN : 8 * g.c * (8 * g.r) ≤ 16384 := Nat.le_trans (Nat.mul_le_mul (by omega : _ ≤ 128) (by omega : _ ≤ 128)) (by omega)
      go_wp2_with (at_builtin; refine wpList_append_copy rfl _ _ _ rfl 5 (.int .u8 0) 1 Try.underlying36 infoU8 rfl wr.heap.size rfl _ (vb_none wr _ (u8v g.sU)) g.bU (8 * g.c * (8 * g.r)) g.cU (u8v g.sU) rfl (hb.vb.alloc _) (fun _ _ => rfl) (by unfold maxLen; omega) (by omega) ?_)
      intro b k w2 hbk hV hb2
      have hbk2 : wr.heap.size ≤ b := by omega
      replace hb2 : Below (wr.alloc (.cells #[] 5)).heap.size (wr.alloc (.cells #[] 5)) w2 := by simpa using hb2
      clear cs hbk
      have HO2 := (HR.ho.alloc (.cells #[] 5)).later hb2
      have f5 := HO2.free 7
      have c5 := HO2.fUS
      clear f4
      go_wp2_with fail
      have e0 : w.heap.size < w2.heap.size := by have := hb2.size; simp at this; omega
      exact ⟨⟨2, { g with bU := b, cU := k }, Or.inr (Or.inr (Or.inl rfl)), rfl, ⟨⟨HR.like.c, HR.like.r, HR.like.y, HR.like.u, HR.like.v⟩, HO2.set 7 _, ((HR.y.alloc _).later hb2).other (by omega) _ _, (show PB w2 b (8 * g.c * (8 * g.r)) g.sU from ⟨hV, hb.bd⟩).other (by omega) _ _, ((HR.v.alloc _).later hb2).other (by omega) _ _, ⟨⟨a1, a2⟩, ⟨by show _ ≠ b; omega, by show _ ≠ b; omega⟩, ⟨a5, a6⟩⟩, fun h => HR.n1 (by omega), fun _ => ⟨by show _ ≤ b; omega, by show g.bY ≠ b; omega⟩, fun h => by omega, ((HR.hz.alloc _).later hb2).other (by omega) _ _, (below_step (HR.below.alloc hs _) hb2).setCell (Nat.le_refl _) _⟩, ((HPt.alloc _).later hb2).other (by omega) _ _⟩, by simp [intOf]⟩
    · have cp : wr.cell? ⟨w.heap.size + 2, 2, none⟩ = some (.pointer (some ⟨w.heap.size, 8, none⟩)) := HPt.cell 2 rfl
      have cs := HR.ho.fVS
      have f4 := HR.ho.free 10
      have hb := HR.v
      have hN : 8 * g.c * (8 * g.r) ≤ 16384 := Nat.le_trans (Nat.mul_le_mul (by omega : _ ≤ 128) (by omega : _ ≤ 128)) (by omega)
      go_wp2_with (at_builtin; refine wpList_append_copy rfl _ _ _ rfl 5 (.int .u8 0) 1 Try.underlying36 infoU8 rfl wr.heap.size rfl _ (vb_none wr _ (u8v g.sV)) g.bV (8 * g.c * (8 * g.r)) g.cV (u8v g.sV) rfl (hb.vb.alloc _) (fun _ _ => rfl) (by unfold maxLen; omega) (by omega) ?_)
      intro b k w2 hbk hV hb2
      have hbk2 : wr.heap.size ≤ b := by omega
      replace hb2 : Below (wr.alloc (.cells #[] 5)).heap.size (wr.alloc (.cells #[] 5)) w2 := by simpa using hb2
      clear cs hbk
      have HO2 := (HR.ho.alloc (.cells #[] 5)).later hb2
      have f5 := HO2.free 10
      have c5 := HO2.fVS
      clear f4
      go_wp2_with fail
      have e0 : w.heap.size < w2.heap.size := by have := hb2.size; simp at this; omega
      exact ⟨⟨3, { g with bV := b, cV := k }, Or.inr (Or.inr (Or.inr rfl)), rfl, ⟨⟨HR.like.c, HR.like.r, HR.like.y, HR.like.u, HR.like.v⟩, HO2.set 10 _, ((HR.y.alloc _).later hb2).other (by omega) _ _, ((HR.u.alloc _).later hb2).other (by omega) _ _, (show PB w2 b (8 * g.c * (8 * g.r)) g.sV from ⟨hV, hb.bd⟩).other (by omega) _ _, ⟨⟨a1, a2⟩, ⟨a3, a4⟩, ⟨by show _ ≠ b; omega, by show _ ≠ b; omega⟩⟩, fun h => HR.n1 (by omega), fun h => HR.n2 (by omega), fun _ => ⟨by show _ ≤ b; omega, by show g.bY ≠ b; omega, by show g.bU ≠ b; omega⟩, ((HR.hz.alloc _).later hb2).other (by omega) _ _, (below_step (HR.below.alloc hs _) hb2).setCell (Nat.le_refl _) _⟩, ((HPt.alloc _).later hb2).other (by omega) _ _⟩, by simp [intOf]⟩
    · have n1 := HR.n1 (by omega)
      obtain ⟨n4, n5⟩ := HR.n2 (by omega)
      obtain ⟨n8, n9, n10⟩ := HR.n3 (by omega)
      go_wp2_with (first | (refine wpList_load_ob HR.ho rfl _ _ rfl rfl Try.underlying43 (by kernel_rfl) ?_) | (refine wpList_store_ob HR.hz rfl _ _ _ rfl rfl g.cells rfl (by kernel_rfl) rfl rfl ?_))
      exact bodyPost_ret (results_ob rfl _ (HR.hz.setRow_same _) rfl Try.underlying43 (by kernel_rfl)) rfl ⟨g, rfl, HR.like, ⟨hgc, hgr, HR.y.setRow a2 _, HR.u.setRow a4 _, HR.v.setRow a6 _, n5, n9, n10⟩, ⟨n1, n4, n8⟩, below_setRow HR.below (by omega) _⟩
end Go.Proofs.Ytbldgpemocnboaa

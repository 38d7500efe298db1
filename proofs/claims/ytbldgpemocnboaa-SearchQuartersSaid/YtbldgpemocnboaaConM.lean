/- Helps for the laws of conceal: Spread of a copy, by the map's numbers; memory of other frames. -/
import Derived.Test.YtbldgpemocnboaaSprM
import Derived.Test.YtbldgpemocnboaaDm
import Derived.Test.YtbldgpemocnboaaRel
import Derived.Deep.DeepCutAuto
import Derived.Deep.CutBlock
namespace Go.Proofs.Ytbldgpemocnboaa
open Go.RowKit Go.Sort
attribute [local go_sem ↓] run_imax run_imin

def dmZ : Array Value := #[.int .i64 0, .int .i64 0, .slice none 0 0]
theorem Ob.wrfT {g : Fr} {w w1 : World} {q : Nat} {T : TypeId} {cs : Array Value} (h : Ob w q T cs) (hM : g.Mem w) (hw : WrF g.bY g.bU g.bV w w1) (hT : T ≠ 5) : Ob w1 q T cs :=
  h.wrf hw (h.ne_vb hM.y.vb hT) (h.ne_vb hM.u.vb hT) (h.ne_vb hM.v.vb hT)
theorem VB.wrfT {g : Fr} {w w1 : World} {q n : Nat} {T : TypeId} {f : Nat → Value} (h : VB w q T n f) (hM : g.Mem w) (hw : WrF g.bY g.bU g.bV w w1) (hT : T ≠ 5) : VB w1 q T n f :=
  h.wrf hw (h.ne_vb hM.y.vb hT) (h.ne_vb hM.u.vb hT) (h.ne_vb hM.v.vb hT)
/-- The blocks of two frames have nothing in common. -/
def Fr.Sep (f g : Fr) : Prop := (f.bY ≠ g.bY ∧ f.bY ≠ g.bU ∧ f.bY ≠ g.bV) ∧ (f.bU ≠ g.bY ∧ f.bU ≠ g.bU ∧ f.bU ≠ g.bV) ∧ (f.bV ≠ g.bY ∧ f.bV ≠ g.bU ∧ f.bV ≠ g.bV)
theorem Fr.Sep.of {f g : Fr} {w : World} (h : f.Mem w) (hg : g.From w.heap.size) : f.Sep g := by
  have := h.y.lt; have := h.u.lt; have := h.v.lt; have := hg.y; have := hg.u; have := hg.v
  unfold Fr.Sep; omega
theorem Fr.Sep.symm {f g : Fr} (h : f.Sep g) : g.Sep f := by
  unfold Fr.Sep at *; omega
theorem Fr.Mem.wrfS {f g : Fr} {w w1 : World} (h : f.Mem w) (hs : f.Sep g) (hw : WrF g.bY g.bU g.bV w w1) : f.Mem w1 := h.wrf hw hs.1 hs.2.1 hs.2.2
theorem WrF.belowF {g : Fr} {B : Nat} {w w1 w2 : World} (h : WrF g.bY g.bU g.bV w1 w2) (hw : Below B w w1) (hB : B ≤ w1.heap.size) (hg : g.From B) : Below B w w2 := h.below hw hB hg.y hg.u hg.v
/-- A map's set, of Ob and Mem. -/
theorem Ob.wrT {w w1 : World} {q b n : Nat} {T T' : TypeId} {cs : Array Value} {f : Nat → Value} (h : Ob w q T cs) (hV : VB w b T' n f) (hw : Wr b w w1) (hT : T ≠ T') : Ob w1 q T cs := h.wr hw (h.ne_vb hV hT)
theorem Fr.Mem.wrT {f : Fr} {w w1 : World} {b n : Nat} {T : TypeId} {F : Nat → Value} (h : f.Mem w) (hV : VB w b T n F) (hw : Wr b w w1) (hT : 5 ≠ T) : f.Mem w1 :=
  h.wr hw (h.y.vb.ne_vb hV hT) (h.u.vb.ne_vb hV hT) (h.v.vb.ne_vb hV hT)
theorem spread_like {f g : Fr} {b M mb : Nat} {B : Nat → Bool} {w : World} (e1 : g.c = f.c) (e2 : g.r = f.r) (hMe : f.c * f.r = M) (h1 : 0 < f.c) (h2 : 0 < f.r) (hm : mb < M) (hM : g.Mem w) (hB : VB w b 4 M (blv B)) :
    Calls Try.prog 50 #[.agg g.cells, .agg #[.int .i64 (f.c : Int), .int .i64 (f.r : Int), .slice (some ⟨b, 0, none⟩) M M], .int .i64 (mb : Int)] w (SpreadP g mb (upOf B f.c mb) (dnOf B f.c f.r mb) w) := by
  subst hMe
  rw [← e1] at h1; rw [← e2] at h2; rw [← e1, ← e2] at hm hB ⊢
  exact spread_any g b _ B mb w h1 h2 hm hM hB
theorem col_mod {c r N : Nat} : (r * c + N % c) % c = N % c := by
  rw [Nat.mul_comm, Nat.mul_add_mod, Nat.mod_mod]
theorem upOf_congr {A B : Nat → Bool} {c r mb : Nat} (h : ∀ q, A (q * c + mb % c) = B (q * c + mb % c)) : upOf A c mb = upOf B c mb ∧ dnOf A c r mb = dnOf B c r mb := by
  have e : colR A c mb = colR B c mb := funext h
  unfold upOf dnOf; rw [e]; exact ⟨rfl, rfl⟩
/-- The macroblock is damaged itself: there are rows around it. -/
theorem around {A : Nat → Bool} {c r mb : Nat} (hc : 0 < c) (hm : mb < c * r) (h : A mb = true) : upOf A c mb < ((mb / c : Nat) : Int) ∧ mb / c < dnOf A c r mb := by
  obtain ⟨hmc, hmr⟩ := mbdm hc hm
  have e : colR A c mb (mb / c) = true := by
    unfold colR; rw [Nat.mul_comm, Nat.div_add_mod]; exact h
  have hra := rows_around (colR A c mb) hmr
  unfold upOf dnOf
  rcases hra with ⟨h1, h2⟩ | h3
  · exfalso
    have h4 := upR_bd (colR A c mb) (mb / c)
    have h5 : upR (colR A c mb) (mb / c + 1) = upR (colR A c mb) (mb / c) := upR_true e
    omega
  · exact h3
theorem SprR.sep {g h x : Fr} {mb d n : Nat} {u : Int} (H : SprR g mb u d n x) (hs : g.Sep h) : x.Sep h := by
  obtain ⟨n1, n2, n3⟩ := H.nb
  unfold Fr.Sep at *
  rw [← n1, ← n2, ← n3]; exact hs
/-- A macroblock's number, of a byte. -/
theorem mb_of (mb : Int) {M : Nat} (hM : 0 < M) (h : 0 ≤ mb) : ∃ N : Nat, mb.tmod (M : Int) = (N : Int) ∧ N < M := by
  have e1 := Int.tmod_nonneg (M : Int) h
  have e2 := Int.tmod_lt_of_pos mb (show (0 : Int) < (M : Int) by omega)
  exact ⟨(mb.tmod (M : Int)).toNat, by omega, by omega⟩
theorem dmHas_is {C R b n c : Nat} {f : Nat → Bool} {mb : Int} {w : World} {r : Bool} (hr : dmHas n f mb = r) (hB : VB w b 4 n (blv f)) :
    Calls Try.prog 46 #[dmV C R b n c, .int .i64 mb] w fun e w' => e = .returned (.bool r) ∧ Below w.heap.size w w' := by
  rw [← hr]; exact dmHas_any C R b n c f mb w hB
/-- A cell of a list, in whatever world a quiet region makes. -/
theorem list_cell {w0 w : World} {b o n : Nat} {f : Nat → Value} (hb : b < w0.heap.size) (hc : ∀ k, k < n → w0.cell? ⟨b, o + k, none⟩ = some (f k)) (HW : Below w0.heap.size w0 w) {k : Nat} (hk : k < n) (p : Regrown) :
    (Sort.grow (redrawn w p.d) p.os).cell? ⟨b, o + k, none⟩ = some (f k) := by
  rw [(below_step HW (below_regrown w p.d p.os)).cell (p := ⟨b, o + k, none⟩) hb]; exact hc k hk
end Go.Proofs.Ytbldgpemocnboaa

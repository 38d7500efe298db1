/- kinescopelaw06.Small: Frame. -/
import Derived.Test.YtbldgpemocnboaaSm2
namespace Go.Proofs.Ytbldgpemocnboaa
open Go.RowKit Go.Sort
attribute [local go_sem ↓] run_imax run_imin

theorem sl_later {w w' : World} {p : Option Addr} {n : Nat} {f : Nat → Value} (h : SL w p n f) (hb : Below w.heap.size w w') : SL w' p n f := by
  rcases h with h | ⟨b, o, h1, h2, h3⟩
  · exact Or.inl h
  · exact Or.inr ⟨b, o, h1, Nat.lt_of_lt_of_le h2 hb.size, fun k hk => by rw [hb.cell (p := ⟨b, o + k, none⟩) h2]; exact h3 k hk⟩
def SmallP (w : World) (e : Ending) (w' : World) : Prop := ∃ f : Fr, e = .returned f.val ∧ 1 ≤ f.c ∧ f.c ≤ 3 ∧ 1 ≤ f.r ∧ f.r ≤ 3 ∧ f.Mem w' ∧ f.From w.heap.size ∧ Below w.heap.size w w'
theorem small_any (co ro ki a b c sd : Int) (p : Option Addr) (n m : Nat) (sl : Nat → Int) (w : World) (hco : 0 ≤ co ∧ co ≤ 255) (hro : 0 ≤ ro ∧ ro ≤ 255) (hki : 0 ≤ ki ∧ ki ≤ 255) (ha : 0 ≤ a ∧ a ≤ 255) (hb : 0 ≤ b ∧ b ≤ 255) (hc : 0 ≤ c ∧ c ≤ 255) (hs : 0 ≤ sd ∧ sd < 4294967296)
    (hn : n ≤ 2000) (hS : SL w p n (u8v sl)) (hsb : ∀ k, k < n → 0 ≤ sl k ∧ sl k ≤ 255) :
    Calls Try.prog 32 #[smV co ro ki a b c sd p n m] w (SmallP w) := by
  have e1 : (1 : Int) + co % 3 = ((1 + co.toNat % 3 : Nat) : Int) := by omega
  have e2 : (1 : Int) + ro % 3 = ((1 + ro.toNat % 3 : Nat) : Int) := by omega
  generalize hcc : 1 + co.toNat % 3 = cc at *
  generalize hrr : 1 + ro.toNat % 3 = rr at *
  replace e1 := Lib.hid e1; replace e2 := Lib.hid e2
  unfold smV smC
  go_enter Try.func32, Try.ntmps32
  have HB : Ob (w.alloc (.cells (smC co ro ki a b c sd p n m) SMT)) w.heap.size SMT (smC co ro ki a b c sd p n m) := Ob.new_at _ _ rfl
  go_wp2_with fail
  rw [e1.out, e2.out]
  refine (sized_any co ro ki a b c sd p n m sl cc rr _ hki ha hb hc hs hn (sl_later hS (by ((repeat (first | exact Below.refl _ _ | assumption | refine Below.setCell ?_ (by first | omega | (simp; done) | (simp; omega)) _ | refine Below.alloc ?_ (by first | omega | (simp; done) | (simp; omega)) _ | refine below_drewN ?_ _ | refine Below.drew ?_ | refine below_setRow ?_ (by first | omega | (simp; done) | (simp; omega)) _))))) hsb (by omega) (by omega)).mono ?_
  rintro e w1 ⟨f, rfl, fc, fr, hM, hF, hb1⟩
  have HZ : Ob w1 (w.heap.size + 1) FRT frZ := (Ob.new_at _ _ (by simp)).later hb1
  have HW : Below w.heap.size w w1 := below_step (by ((repeat (first | exact Below.refl _ _ | assumption | refine Below.setCell ?_ (by first | omega | (simp; done) | (simp; omega)) _ | refine Below.alloc ?_ (by first | omega | (simp; done) | (simp; omega)) _ | refine below_drewN ?_ _ | refine Below.drew ?_ | refine below_setRow ?_ (by first | omega | (simp; done) | (simp; omega)) _)))) hb1
  replace hF := hF.mono (B' := w.heap.size + 2) (by simp)
  clear hb1
  have hf1 := hF.y; have hf2 := hF.u; have hf3 := hF.v
  unfold Fr.val
  go_wp2_with (refine wpList_store_ob HZ rfl _ _ _ rfl rfl f.cells rfl (by kernel_rfl) rfl rfl ?_)
  exact bodyPost_ret (results_ob rfl _ (HZ.setRow_same _) rfl Try.underlying43 (by kernel_rfl)) rfl ⟨f, rfl, by omega, by omega, by omega, by omega, hM.setRow (by omega) (by omega) (by omega) _, hF.mono (by omega), below_setRow HW (by omega) _⟩
/-- The bounds of a Small's numbers and samples. -/
structure SmallW (co ro ki a b c sd : Int) (n : Nat) (sl : Nat → Int) : Prop where
  co : 0 ≤ co ∧ co ≤ 255
  ro : 0 ≤ ro ∧ ro ≤ 255
  ki : 0 ≤ ki ∧ ki ≤ 255
  a : 0 ≤ a ∧ a ≤ 255
  b : 0 ≤ b ∧ b ≤ 255
  c : 0 ≤ c ∧ c ≤ 255
  sd : 0 ≤ sd ∧ sd < 4294967296
  sl : ∀ k, k < n → 0 ≤ sl k ∧ sl k ≤ 255
theorem smallW_any {co ro ki a b c sd : Int} {p : Option Addr} {n m : Nat} {sl : Nat → Int} {w : World} (h : SmallW co ro ki a b c sd n sl) (hn : n ≤ 2000) (hS : SL w p n (u8v sl)) :
    Calls Try.prog 32 #[smV co ro ki a b c sd p n m] w (SmallP w) :=
  small_any co ro ki a b c sd p n m sl w h.co h.ro h.ki h.a h.b h.c h.sd hn hS h.sl
end Go.Proofs.Ytbldgpemocnboaa

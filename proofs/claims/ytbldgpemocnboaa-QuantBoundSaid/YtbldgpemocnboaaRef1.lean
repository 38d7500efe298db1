/- Walks of kinescoperef07.Sign, Forward and Inverse. -/
import Derived.Test.YtbldgpemocnboaaHad4
import Derived.Deep.RegionHeld3
namespace Go.Proofs.Ytbldgpemocnboaa
open Go.RowKit
attribute [local go_sem ↓] run_imax run_imin

theorem sg_or : ∀ u, u < 8 → ∀ x, x < 8 → sg u x = 1 ∨ sg u x = -1 := by decide

def signRows : List Value := [Value.string { data := #[43, 43, 43, 43, 43, 43, 43, 43] },
  Value.string { data := #[43, 43, 43, 43, 45, 45, 45, 45] }, Value.string { data := #[43, 43, 45, 45, 45, 45, 43, 43] },
  Value.string { data := #[43, 43, 45, 45, 43, 43, 45, 45] }, Value.string { data := #[43, 45, 45, 43, 43, 45, 45, 43] },
  Value.string { data := #[43, 45, 45, 43, 45, 43, 43, 45] }, Value.string { data := #[43, 45, 43, 45, 45, 43, 45, 43] },
  Value.string { data := #[43, 45, 43, 45, 43, 45, 43, 45] }]
set_option maxRecDepth 100000 in
theorem sign_at (u x : Nat) (hu : u < 8) (hx : x < 8) (h : u < signRows.length) (W : World) :
    (Instr.index 9 (signRows[u]'h) (.int .i64 (x : Int))).run Try.prog W = .ok (.int .u8 (if sg u x = 1 then 43 else 45)) W := by
  have hu' : u = 0 ∨ u = 1 ∨ u = 2 ∨ u = 3 ∨ u = 4 ∨ u = 5 ∨ u = 6 ∨ u = 7 := by omega
  have hx' : x = 0 ∨ x = 1 ∨ x = 2 ∨ x = 3 ∨ x = 4 ∨ x = 5 ∨ x = 6 ∨ x = 7 := by omega
  rcases hu' with rfl | rfl | rfl | rfl | rfl | rfl | rfl | rfl <;> rcases hx' with rfl | rfl | rfl | rfl | rfl | rfl | rfl | rfl <;> rfl

set_option maxRecDepth 100000 in
set_option maxHeartbeats 1000000 in
theorem rsign_any (u x : Nat) (w : World) (hu : u < 8) (hx : x < 8) :
    Calls Try.prog 128 #[.int .i64 (u : Int), .int .i64 (x : Int)] w fun e w' => e = .returned (.int .i64 (sg u x)) ∧ Below w.heap.size w w' := by
  have hix := fun h W => sign_at u x hu hx h W
  unfold signRows at hix
  rcases sg_or u hu x hx with hs | hs
  · simp only [hs, if_true] at hix
    rw [hs]; clear hs
    go_enter Try.func128, Try.ntmps128
    go_wp2
    go_ret
    exact ⟨rfl, (Below.refl _ _).alloc (Nat.le_refl _) _⟩
  · simp only [hs, if_neg (show ¬ (-1 : Int) = 1 by decide)] at hix
    rw [hs]; clear hs
    go_enter Try.func128, Try.ntmps128
    go_wp2
    go_ret
    exact ⟨rfl, (Below.refl _ _).alloc (Nat.le_refl _) _⟩

/-- The first m terms of a sum by the signs of rows u and v, place by place. -/
def rterm (f : Nat → Int) (u v m : Nat) : Int := f m * sg u (m % 8) * sg v (m / 8)
def rsum (f : Nat → Int) (u v : Nat) : Nat → Int
  | 0 => 0
  | m + 1 => rsum f u v m + rterm f u v m
def reff (f : Nat → Int) (k : Nat) : Int := rsum f (k % 8) (k / 8) 64

theorem rsum_step (f : Nat → Int) (u v y x : Nat) (hx : x < 8) : rsum f u v (8 * y + x) + f (8 * y + x) * sg u x * sg v y = rsum f u v (8 * y + (x + 1)) := by
  show _ = rsum f u v (8 * y + x) + rterm f u v (8 * y + x)
  unfold rterm
  rw [show (8 * y + x) % 8 = x by omega, show (8 * y + x) / 8 = y by omega]
theorem sg_mul_bd {K a : Int} (h : -K ≤ a ∧ a ≤ K) (u x : Nat) (hu : u < 8) (hx : x < 8) : -K ≤ a * sg u x ∧ a * sg u x ≤ K := by
  rcases sg_or u hu x hx with e | e <;> rw [e] <;> omega
theorem rterm_bd {K : Int} {f : Nat → Int} (hf : ∀ j, j < 64 → -K ≤ f j ∧ f j ≤ K) (u v m : Nat) (hu : u < 8) (hv : v < 8) (hm : m < 64) : -K ≤ rterm f u v m ∧ rterm f u v m ≤ K :=
  sg_mul_bd (sg_mul_bd (hf m hm) u _ hu (by omega)) v _ hv (by omega)
theorem rsum_bd {K : Int} {f : Nat → Int} (hf : ∀ j, j < 64 → -K ≤ f j ∧ f j ≤ K) (h0 : 0 ≤ K) (u v : Nat) (hu : u < 8) (hv : v < 8) : ∀ m, m ≤ 64 → -(64 * K) ≤ rsum f u v m ∧ rsum f u v m ≤ 64 * K := by
  have : ∀ m, m ≤ 64 → -(m * K) ≤ rsum f u v m ∧ rsum f u v m ≤ m * K := by
    intro m
    induction m with
    | zero => intro _; simp [rsum]
    | succ m ih =>
      intro hm
      have h1 := ih (by omega)
      have h2 := rterm_bd hf u v m hu hv (by omega)
      have h3 : ((m + 1 : Nat) : Int) * K = m * K + K := by rw [Int.natCast_add, Int.add_mul]; simp
      rw [h3]
      show -_ ≤ rsum f u v m + rterm f u v m ∧ rsum f u v m + rterm f u v m ≤ _
      omega
  intro m hm
  have h := this m hm
  have h4 : (m : Int) * K ≤ 64 * K := Int.mul_le_mul_of_nonneg_right (by omega) h0
  omega

/-- What the loops of the document's sums keep of the world. -/
def Inv3 (w wr : World) (f : Nat → Int) (g h : Nat → Value) : Prop :=
  Blk wr w.heap.size 27 64 (ival f) ∧ Blk wr (w.heap.size + 1) 27 64 g ∧ Blk wr (w.heap.size + 1 + 1) 27 64 h ∧ Below w.heap.size w wr
theorem Inv3.on {w wr w1 : World} {f : Nat → Int} {g h : Nat → Value} (H : Inv3 w wr f g h) (hb : Below wr.heap.size wr w1) : Inv3 w w1 f g h :=
  ⟨H.1.below hb H.1.lt, H.2.1.below hb H.2.1.lt, H.2.2.1.below hb H.2.2.1.lt, H.2.2.2.trans (hb.mono H.2.2.2.size)⟩
theorem Inv3.drewN {w wr : World} {f : Nat → Int} {g h : Nat → Value} (H : Inv3 w wr f g h) (q : Nat) : Inv3 w (wr.drewN q) f g h :=
  ⟨H.1, H.2.1, H.2.2.1, below_drewN H.2.2.2 q⟩
theorem Inv3.drew {w wr : World} {f : Nat → Int} {g h : Nat → Value} (H : Inv3 w wr f g h) : Inv3 w wr.drew f g h :=
  ⟨H.1, H.2.1, H.2.2.1, H.2.2.2.drew⟩

theorem Inv3.s_on {w w0 w1 : World} {f : Nat → Int} {g h : Nat → Value} {o : Nat} {x : Value} (H : w0.cell? ⟨w.heap.size, o, none⟩ = some x ∧ Inv3 w w0 f g h) (hb : Below w0.heap.size w0 w1) :
    w1.cell? ⟨w.heap.size, o, none⟩ = some x ∧ Inv3 w w1 f g h :=
  ⟨(hb.cell (p := ⟨w.heap.size, o, none⟩) H.2.1.lt).trans H.1, H.2.on hb⟩

end Go.Proofs.Ytbldgpemocnboaa

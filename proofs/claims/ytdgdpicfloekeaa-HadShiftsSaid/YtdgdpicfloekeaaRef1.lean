/- Walks of kinescoperef07.Sign, Forward and Inverse. -/
import Derived.Test.YtdgdpicfloekeaaHad4
import Derived.Deep.RegionHeld3
namespace Go.Proofs.Ytdgdpicfloekeaa
open Go.RowKit
attribute [local go_sem ↓] run_imax run_imin

theorem sg_or : ∀ u, u < 8 → ∀ x, x < 8 → sg u x = 1 ∨ sg u x = -1 := by decide

def signRows : List Value := [Value.string { data := #[43, 43, 43, 43, 43, 43, 43, 43] },
  Value.string { data := #[43, 43, 43, 43, 45, 45, 45, 45] }, Value.string { data := #[43, 43, 45, 45, 45, 45, 43, 43] },
  Value.string { data := #[43, 43, 45, 45, 43, 43, 45, 45] }, Value.string { data := #[43, 45, 45, 43, 43, 45, 45, 43] },
  Value.string { data := #[43, 45, 45, 43, 45, 43, 43, 45] }, Value.string { data := #[43, 45, 43, 45, 45, 43, 45, 43] },
  Value.string { data := #[43, 45, 43, 45, 43, 45, 43, 45] }]
theorem sign_at (u x : Nat) (hu : u < 8) (hx : x < 8) (h : u < signRows.length) (W : World) :
    (Instr.index 9 (signRows[u]'h) (.int .i64 (x : Int))).run Try.prog W = .ok (.int .u8 (if sg u x = 1 then 43 else 45)) W := by
  have hu' : u = 0 ∨ u = 1 ∨ u = 2 ∨ u = 3 ∨ u = 4 ∨ u = 5 ∨ u = 6 ∨ u = 7 := by omega
  have hx' : x = 0 ∨ x = 1 ∨ x = 2 ∨ x = 3 ∨ x = 4 ∨ x = 5 ∨ x = 6 ∨ x = 7 := by omega
  rcases hu' with rfl | rfl | rfl | rfl | rfl | rfl | rfl | rfl <;> rcases hx' with rfl | rfl | rfl | rfl | rfl | rfl | rfl | rfl <;> rfl

set_option maxHeartbeats 1000000 in
theorem rsign_any (u x : Nat) (w : World) (hu : u < 8) (hx : x < 8) :
    Calls Try.prog 29 #[.int .i64 (u : Int), .int .i64 (x : Int)] w fun e w' => e = .returned (.int .i64 (sg u x)) ∧ Below w.heap.size w w' := by
  have hix := fun h W => sign_at u x hu hx h W
  unfold signRows at hix
  rcases sg_or u hu x hx with hs | hs
  · simp only [hs, if_true] at hix
    rw [hs]; clear hs
    go_enter Try.func29, Try.ntmps29
    go_wp2
    go_ret
    exact ⟨rfl, (Below.refl _ _).alloc (Nat.le_refl _) _⟩
  · simp only [hs, if_neg (show ¬ (-1 : Int) = 1 by decide)] at hix
    rw [hs]; clear hs
    go_enter Try.func29, Try.ntmps29
    go_wp2
    go_ret
    exact ⟨rfl, (Below.refl _ _).alloc (Nat.le_refl _) _⟩

/-- The first m terms of a sum by the signs of rows u and v, place by place. -/
def rterm (f : Nat → Int) (u v m : Nat) : Int := f m * sg u (m % 8) * sg v (m / 8)
def rsum (f : Nat → Int) (u v : Nat) : Nat → Int
  | 0 => 0
  | m + 1 => rsum f u v m + rterm f u v m
def reff (f : Nat → Int) (k : Nat) : Int := rsum f (k % 8) (k / 8) 64

theorem rsum_step (f : Nat → Int) (u v y x : Nat) (hx : x < 8) : rsum f u v (8 * y + x) + f (8 * y + x) * sg u x * sg v y = rsum f u v (8 * y + (x + 1)) := by
  show _ = rsum f u v (8 * y + x) + rterm f u v (8 * y + x)
  unfold rterm
  rw [show (8 * y + x) % 8 = x by omega, show (8 * y + x) / 8 = y by omega]
theorem sg_mul_bd {K a : Int} (h : -K ≤ a ∧ a ≤ K) (u x : Nat) (hu : u < 8) (hx : x < 8) : -K ≤ a * sg u x ∧ a * sg u x ≤ K := by
  rcases sg_or u hu x hx with e | e <;> rw [e] <;> omega
theorem rterm_bd {K : Int} {f : Nat → Int} (hf : ∀ j, j < 64 → -K ≤ f j ∧ f j ≤ K) (u v m : Nat) (hu : u < 8) (hv : v < 8) (hm : m < 64) : -K ≤ rterm f u v m ∧ rterm f u v m ≤ K :=
  sg_mul_bd (sg_mul_bd (hf m hm) u _ hu (by omega)) v _ hv (by omega)
theorem rsum_bd {K : Int} {f : Nat → Int} (hf : ∀ j, j < 64 → -K ≤ f j ∧ f j ≤ K) (h0 : 0 ≤ K) (u v : Nat) (hu : u < 8) (hv : v < 8) : ∀ m, m ≤ 64 → -(64 * K) ≤ rsum f u v m ∧ rsum f u v m ≤ 64 * K := by
  have : ∀ m, m ≤ 64 → -(m * K) ≤ rsum f u v m ∧ rsum f u v m ≤ m * K := by
    intro m
    induction m with
    | zero => intro _; simp [rsum]
    | succ m ih =>
      intro hm
      have h1 := ih (by omega)
      have h2 := rterm_bd hf u v m hu hv (by omega)
      have h3 : ((m + 1 : Nat) : Int) * K = m * K + K := by rw [Int.natCast_add, Int.add_mul]; simp
      rw [h3]
      show -_ ≤ rsum f u v m + rterm f u v m ∧ rsum f u v m + rterm f u v m ≤ _
      omega
  intro m hm
  have h := this m hm
  have h4 : (m : Int) * K ≤ 64 * K := Int.mul_le_mul_of_nonneg_right (by omega) h0
  omega

/-- What the loops of the document's sums keep of the world. -/
def Inv3 (w wr : World) (f : Nat → Int) (g h : Nat → Value) : Prop :=
  Blk wr w.heap.size 28 64 (ival f) ∧ Blk wr (w.heap.size + 1) 28 64 g ∧ Blk wr (w.heap.size + 1 + 1) 28 64 h ∧ Below w.heap.size w wr
theorem Inv3.on {w wr w1 : World} {f : Nat → Int} {g h : Nat → Value} (H : Inv3 w wr f g h) (hb : Below wr.heap.size wr w1) : Inv3 w w1 f g h :=
  ⟨H.1.below hb H.1.lt, H.2.1.below hb H.2.1.lt, H.2.2.1.below hb H.2.2.1.lt, H.2.2.2.trans (hb.mono H.2.2.2.size)⟩
theorem Inv3.drewN {w wr : World} {f : Nat → Int} {g h : Nat → Value} (H : Inv3 w wr f g h) (q : Nat) : Inv3 w (wr.drewN q) f g h :=
  ⟨H.1, H.2.1, H.2.2.1, below_drewN H.2.2.2 q⟩
theorem Inv3.drew {w wr : World} {f : Nat → Int} {g h : Nat → Value} (H : Inv3 w wr f g h) : Inv3 w wr.drew f g h :=
  ⟨H.1, H.2.1, H.2.2.1, H.2.2.2.drew⟩

theorem Inv3.s_on {w w0 w1 : World} {f : Nat → Int} {g h : Nat → Value} {o : Nat} {x : Value} (H : w0.cell? ⟨w.heap.size, o, none⟩ = some x ∧ Inv3 w w0 f g h) (hb : Below w0.heap.size w0 w1) :
    w1.cell? ⟨w.heap.size, o, none⟩ = some x ∧ Inv3 w w1 f g h :=
  ⟨(hb.cell (p := ⟨w.heap.size, o, none⟩) H.2.1.lt).trans H.1, H.2.on hb⟩

set_option maxRecDepth 100000 in
set_option maxHeartbeats 2000000 in
theorem rforward_any (f : Nat → Int) (w : World) (K : Int) (hK : 64 * K < 9007199254740992) (hf : ∀ j, j < 64 → -K ≤ f j ∧ f j ≤ K) :
    Calls Try.prog 31 #[.agg (fcells 64 (ival f))] w fun e w' => e = .returned (.agg (fcells 64 (ival (reff f)))) ∧ Below w.heap.size w w' := by
  have hK0 : 0 ≤ K := by have := hf 0 (by omega); omega
  go_enter Try.func31, Try.ntmps31
  go_wp2_with (first | (refine wpList_alloc_blk rfl 28 rfl _ _ alloc28 ?_))
  have H0 : Inv3 w (((w.alloc (.cells (fcells 64 (ival f)) 28)).alloc (.cells (fcells 64 (ival fun _ => 0)) 28)).alloc (.cells (fcells 64 (ival fun _ => 0)) 28)) f (ival fun _ => 0) (ival fun _ => 0) :=
    ⟨((Blk.new_at _ _ _ rfl).alloc _).alloc _, (Blk.new_at _ _ _ (by simp)).alloc _, Blk.new_at _ _ _ (by simp), (((Below.refl _ _).alloc (Nat.le_refl _) _).alloc (by simp) _).alloc (by simp; omega) _⟩
  go_loopw [4] (fun i wr => ∃ v : Nat, v ≤ 8 ∧ i = .int .i64 v ∧ Inv3 w wr f (ival fun _ => 0) (fillV (8 * v) (ival (reff f)) (ival fun _ => 0))) (fun i _ => 8 - (intOf i).toNat)
  case atStart => exact ⟨0, by omega, rfl, H0⟩
  case round =>
    clear H0
    obtain ⟨v, hv, rfl, H⟩ := hrel
    by_cases hv8 : v < 8
    · go_wp2
      go_loopw [5] (fun i wi => ∃ u : Nat, u ≤ 8 ∧ i = .int .i64 u ∧ Inv3 w wi f (ival fun _ => 0) (fillV (8 * v + u) (ival (reff f)) (ival fun _ => 0))) (fun i _ => 8 - (intOf i).toNat)
      case atStart => exact ⟨0, by omega, rfl, H⟩
      case round =>
        clear H
        obtain ⟨u, hu, rfl, H⟩ := hrel
        by_cases hu8 : u < 8
        · go_wp2
          go_loopw [6, 7] (fun t i wi => ∃ y : Nat, y ≤ 8 ∧ i = .int .i64 y ∧ t = .int .i64 (rsum f u v (8 * y)) ∧ Inv3 w wi f (ival fun _ => 0) (fillV (8 * v + u) (ival (reff f)) (ival fun _ => 0))) (fun _ i _ => 8 - (intOf i).toNat)
          case atStart => exact ⟨0, by omega, rfl, rfl, H⟩
          case round =>
            clear H
            obtain ⟨y, hy, rfl, rfl, H⟩ := hrel
            by_cases hy8 : y < 8
            · go_wp2
              go_loopw [6, 8] (fun t i wi => ∃ x : Nat, x ≤ 8 ∧ i = .int .i64 x ∧ t = .int .i64 (rsum f u v (8 * y + x)) ∧ Inv3 w wi f (ival fun _ => 0) (fillV (8 * v + u) (ival (reff f)) (ival fun _ => 0))) (fun _ i _ => 8 - (intOf i).toNat)
              case atStart => exact ⟨0, by omega, rfl, rfl, H⟩
              case round =>
                clear H
                obtain ⟨x, hx, rfl, rfl, H⟩ := hrel
                by_cases hx8 : x < 8
                · have i1 : (0 : Int) ≤ 8 * y + x := by omega
                  have i2 : (8 : Int) * y + x < 64 := by omega
                  have q0 := hf (8 * y + x) (by omega)
                  have q1 := sg_mul_bd q0 u x hu8 hx8
                  have q2 := sg_mul_bd q1 v y hv8 hy8
                  have q3 := rsum_bd hf hK0 u v hu8 hv8 (8 * y + x) (by omega)
                  have e1 : IntKind.i64.wrap (8 * (y : Int)) = 8 * y := IntWalk.i64_in _ (by omega)
                  have e2 : IntKind.i64.wrap (8 * (y : Int) + x) = 8 * y + x := IntWalk.i64_in _ (by omega)
                  have e3 : IntKind.i64.wrap (f (8 * y + x) * sg u x) = f (8 * y + x) * sg u x := IntWalk.i64_in _ (by omega)
                  have e4 : IntKind.i64.wrap (f (8 * y + x) * sg u x * sg v y) = f (8 * y + x) * sg u x * sg v y := IntWalk.i64_in _ (by omega)
                  have e5 : IntKind.i64.wrap (rsum f u v (8 * y + x) + f (8 * y + x) * sg u x * sg v y) = rsum f u v (8 * y + x) + f (8 * y + x) * sg u x * sg v y := IntWalk.i64_in _ (by omega)
                  have e6 : (8 * (y : Int) + x).toNat = 8 * y + x := by omega
                  clear q0 q1 q2 q3
                  go_wp2
                  have c1 : wr.cell? ⟨w.heap.size, 8 * y + x, none⟩ = some (.int .i64 (f (8 * y + x))) := H.1.cell (by omega)
                  go_region_held3 (fun w' => w'.cell? ⟨w.heap.size, 8 * y + x, none⟩ = some (.int .i64 (f (8 * y + x))) ∧ Inv3 w w' f (ival fun _ => 0) (fillV (8 * v + u) (ival (reff f)) (ival fun _ => 0)))
                    (first | exact ⟨c1, H.drew⟩ | assumption)
                    (first | (go_at_call 29; refine (rsign_any _ _ _ (by omega) (by omega)).mono ?_; rintro e w' ⟨rfl, hb⟩; have hS := Inv3.s_on (by assumption) hb; clear hb))
                  have H := hS.2
                  clear hS e1 e2 e3 e4 e5 e6 i1 i2 c1
                  go_wp2
                  refine ⟨⟨x + 1, by omega, by go_num, by rw [rsum_step f u v y x hx8], H⟩, by simp [intOf]; omega⟩
                · obtain rfl : x = 8 := by omega
                  go_wp2
                  refine ⟨⟨y + 1, by omega, by go_num, rfl, H⟩, by simp [intOf]; omega⟩
            · obtain rfl : y = 8 := by omega
              have hH := H.2.2.1
              have c1 : wr.cell? ⟨w.heap.size + 1 + 1, 8 * v + u, none⟩ = some (.int .i64 0) := hH.fill_cell (by omega)
              have f1 := hH.free (8 * v + u)
              have hN := hH.fill
              have er : ival (reff f) (8 * v + u) = .int .i64 (rsum f u v 64) := by
                unfold ival reff
                rw [show (8 * v + u) % 8 = u by omega, show (8 * v + u) / 8 = v by omega]
              rw [er] at hN
              clear er hH
              go_wp2
              refine ⟨⟨u + 1, by omega, by go_num, H.1.other (by omega) _ _, H.2.1.other (by omega) _ _, hN, H.2.2.2.setCell (p := ⟨w.heap.size + 1 + 1, 8 * v + u, none⟩) (by show _ ≤ w.heap.size + 1 + 1; omega) _⟩, by simp [intOf]; omega⟩
        · obtain rfl : u = 8 := by omega
          go_wp2
          refine ⟨⟨v + 1, by omega, by go_num, H⟩, by simp [intOf]; omega⟩
    · obtain rfl : v = 8 := by omega
      have hO := H.2.2.1.fill_all
      have hR := H.2.1
      go_wp2_with (first | (refine wpList_load_blk hO rfl _ _ rfl rfl und28 (by kernel_rfl) ?_) | (refine wpList_store_blk hR rfl _ _ _ rfl rfl rfl (by kernel_rfl) (fun j _ => rfl) ?_))
      exact bodyPost_ret (v := .agg (fcells 64 _)) (results_blk rfl _ (hR.setRow_same rfl) rfl und28 (by kernel_rfl)) rfl ⟨rfl, below_setRow H.2.2.2 (by omega) _⟩
end Go.Proofs.Ytdgdpicfloekeaa

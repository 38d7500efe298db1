/- Walk of kinescoperef07.Inverse. -/
import Derived.Test.YtbldgpemocnboaaRef1
namespace Go.Proofs.Ytbldgpemocnboaa
open Go.RowKit
attribute [local go_sem ↓] run_imax run_imin

/-- The first m terms of a sum by the signs of rows u and v, place by place. -/
def iterm (f : Nat → Int) (u v m : Nat) : Int := f m * sg (m % 8) u * sg (m / 8) v
def isum (f : Nat → Int) (u v : Nat) : Nat → Int
  | 0 => 32
  | m + 1 => isum f u v m + iterm f u v m
def invr (f : Nat → Int) (k : Nat) : Int := isum f (k % 8) (k / 8) 64 / 64

theorem isum_step (f : Nat → Int) (u v y x : Nat) (hx : x < 8) : isum f u v (8 * y + x) + f (8 * y + x) * sg x u * sg y v = isum f u v (8 * y + (x + 1)) := by
  show _ = isum f u v (8 * y + x) + iterm f u v (8 * y + x)
  unfold iterm
  rw [show (8 * y + x) % 8 = x by omega, show (8 * y + x) / 8 = y by omega]
theorem iterm_bd {K : Int} {f : Nat → Int} (hf : ∀ j, j < 64 → -K ≤ f j ∧ f j ≤ K) (u v m : Nat) (hu : u < 8) (hv : v < 8) (hm : m < 64) : -K ≤ iterm f u v m ∧ iterm f u v m ≤ K :=
  sg_mul_bd (sg_mul_bd (hf m hm) _ u (by omega) hu) _ v (by omega) hv
theorem isum_bd {K : Int} {f : Nat → Int} (hf : ∀ j, j < 64 → -K ≤ f j ∧ f j ≤ K) (h0 : 0 ≤ K) (u v : Nat) (hu : u < 8) (hv : v < 8) : ∀ m, m ≤ 64 → 32 - 64 * K ≤ isum f u v m ∧ isum f u v m ≤ 32 + 64 * K := by
  have : ∀ m, m ≤ 64 → 32 - (m * K) ≤ isum f u v m ∧ isum f u v m ≤ 32 + m * K := by
    intro m
    induction m with
    | zero => intro _; simp [isum]
    | succ m ih =>
      intro hm
      have h1 := ih (by omega)
      have h2 := iterm_bd hf u v m hu hv (by omega)
      have h3 : ((m + 1 : Nat) : Int) * K = m * K + K := by rw [Int.natCast_add, Int.add_mul]; simp
      rw [h3]
      show _ ≤ isum f u v m + iterm f u v m ∧ isum f u v m + iterm f u v m ≤ _
      omega
  intro m hm
  have h := this m hm
  have h4 : (m : Int) * K ≤ 64 * K := Int.mul_le_mul_of_nonneg_right (by omega) h0
  omega

set_option maxRecDepth 100000 in
set_option maxHeartbeats 2000000 in
theorem rinverse_any (f : Nat → Int) (w : World) (K : Int) (hK : 64 * K < 9007199254740992) (hf : ∀ j, j < 64 → -K ≤ f j ∧ f j ≤ K) :
    Calls Try.prog 120 #[.agg (fcells 64 (ival f))] w fun e w' => e = .returned (.agg (fcells 64 (ival (invr f)))) ∧ Below w.heap.size w w' := by
  have hK0 : 0 ≤ K := by have := hf 0 (by omega); omega
  go_enter Try.func120, Try.ntmps120
  go_wp2_with (first | (refine wpList_alloc_blk rfl 27 rfl _ _ alloc28 ?_))
  have H0 : Inv3 w (((w.alloc (.cells (fcells 64 (ival f)) 27)).alloc (.cells (fcells 64 (ival fun _ => 0)) 27)).alloc (.cells (fcells 64 (ival fun _ => 0)) 27)) f (ival fun _ => 0) (ival fun _ => 0) :=
    ⟨((Blk.new_at _ _ _ rfl).alloc _).alloc _, (Blk.new_at _ _ _ (by simp)).alloc _, Blk.new_at _ _ _ (by simp), (((Below.refl _ _).alloc (Nat.le_refl _) _).alloc (by simp) _).alloc (by simp; omega) _⟩
  go_loopw [4] (fun i wr => ∃ v : Nat, v ≤ 8 ∧ i = .int .i64 v ∧ Inv3 w wr f (ival fun _ => 0) (fillV (8 * v) (ival (invr f)) (ival fun _ => 0))) (fun i _ => 8 - (intOf i).toNat)
  case atStart => exact ⟨0, by omega, rfl, H0⟩
  case round =>
    clear H0
    obtain ⟨v, hv, rfl, H⟩ := hrel
    by_cases hv8 : v < 8
    · go_wp2
      go_loopw [5] (fun i wi => ∃ u : Nat, u ≤ 8 ∧ i = .int .i64 u ∧ Inv3 w wi f (ival fun _ => 0) (fillV (8 * v + u) (ival (invr f)) (ival fun _ => 0))) (fun i _ => 8 - (intOf i).toNat)
      case atStart => exact ⟨0, by omega, rfl, H⟩
      case round =>
        clear H
        obtain ⟨u, hu, rfl, H⟩ := hrel
        by_cases hu8 : u < 8
        · go_wp2
          go_loopw [6, 7] (fun t i wi => ∃ y : Nat, y ≤ 8 ∧ i = .int .i64 y ∧ t = .int .i64 (isum f u v (8 * y)) ∧ Inv3 w wi f (ival fun _ => 0) (fillV (8 * v + u) (ival (invr f)) (ival fun _ => 0))) (fun _ i _ => 8 - (intOf i).toNat)
          case atStart => exact ⟨0, by omega, rfl, rfl, H⟩
          case round =>
            clear H
            obtain ⟨y, hy, rfl, rfl, H⟩ := hrel
            by_cases hy8 : y < 8
            · go_wp2
              go_loopw [6, 8] (fun t i wi => ∃ x : Nat, x ≤ 8 ∧ i = .int .i64 x ∧ t = .int .i64 (isum f u v (8 * y + x)) ∧ Inv3 w wi f (ival fun _ => 0) (fillV (8 * v + u) (ival (invr f)) (ival fun _ => 0))) (fun _ i _ => 8 - (intOf i).toNat)
              case atStart => exact ⟨0, by omega, rfl, rfl, H⟩
              case round =>
                clear H
                obtain ⟨x, hx, rfl, rfl, H⟩ := hrel
                by_cases hx8 : x < 8
                · have i1 : (0 : Int) ≤ 8 * y + x := by omega
                  have i2 : (8 : Int) * y + x < 64 := by omega
                  have q0 := hf (8 * y + x) (by omega)
                  have q1 := sg_mul_bd q0 x u hx8 hu8
                  have q2 := sg_mul_bd q1 y v hy8 hv8
                  have q3 := isum_bd hf hK0 u v hu8 hv8 (8 * y + x) (by omega)
                  have e1 : IntKind.i64.wrap (8 * (y : Int)) = 8 * y := IntWalk.i64_in _ (by omega)
                  have e2 : IntKind.i64.wrap (8 * (y : Int) + x) = 8 * y + x := IntWalk.i64_in _ (by omega)
                  have e3 : IntKind.i64.wrap (f (8 * y + x) * sg x u) = f (8 * y + x) * sg x u := IntWalk.i64_in _ (by omega)
                  have e4 : IntKind.i64.wrap (f (8 * y + x) * sg x u * sg y v) = f (8 * y + x) * sg x u * sg y v := IntWalk.i64_in _ (by omega)
                  have e5 : IntKind.i64.wrap (isum f u v (8 * y + x) + f (8 * y + x) * sg x u * sg y v) = isum f u v (8 * y + x) + f (8 * y + x) * sg x u * sg y v := IntWalk.i64_in _ (by omega)
                  have e6 : (8 * (y : Int) + x).toNat = 8 * y + x := by omega
                  clear q0 q1 q2 q3
                  go_wp2
                  have c1 : wr.cell? ⟨w.heap.size, 8 * y + x, none⟩ = some (.int .i64 (f (8 * y + x))) := H.1.cell (by omega)
                  go_region_held3 (fun w' => w'.cell? ⟨w.heap.size, 8 * y + x, none⟩ = some (.int .i64 (f (8 * y + x))) ∧ Inv3 w w' f (ival fun _ => 0) (fillV (8 * v + u) (ival (invr f)) (ival fun _ => 0)))
                    (first | exact ⟨c1, H.drew⟩ | assumption)
                    (first | (go_at_call 128; refine (rsign_any _ _ _ (by omega) (by omega)).mono ?_; rintro e w' ⟨rfl, hb⟩; have hS := Inv3.s_on (by assumption) hb; clear hb))
                  have H := hS.2
                  clear hS e1 e2 e3 e4 e5 e6 i1 i2 c1
                  go_wp2
                  refine ⟨⟨x + 1, by omega, by go_num, by rw [isum_step f u v y x hx8], H⟩, by simp [intOf]; omega⟩
                · obtain rfl : x = 8 := by omega
                  go_wp2
                  refine ⟨⟨y + 1, by omega, by go_num, rfl, H⟩, by simp [intOf]; omega⟩
            · obtain rfl : y = 8 := by omega
              have hH := H.2.2.1
              have c1 : wr.cell? ⟨w.heap.size + 1 + 1, 8 * v + u, none⟩ = some (.int .i64 0) := hH.fill_cell (by omega)
              have f1 := hH.free (8 * v + u)
              have hN := hH.fill
              have er : ival (invr f) (8 * v + u) = .int .i64 (isum f u v 64 / 64) := by
                unfold ival invr
                rw [show (8 * v + u) % 8 = u by omega, show (8 * v + u) / 8 = v by omega]
              rw [er] at hN
              clear er hH
              have q3 := isum_bd hf hK0 u v hu8 hv8 64 (by omega)
              go_wp2
              refine ⟨⟨u + 1, by omega, by go_num, H.1.other (by omega) _ _, H.2.1.other (by omega) _ _, hN, H.2.2.2.setCell (p := ⟨w.heap.size + 1 + 1, 8 * v + u, none⟩) (by show _ ≤ w.heap.size + 1 + 1; omega) _⟩, by simp [intOf]; omega⟩
        · obtain rfl : u = 8 := by omega
          go_wp2
          refine ⟨⟨v + 1, by omega, by go_num, H⟩, by simp [intOf]; omega⟩
    · obtain rfl : v = 8 := by omega
      have hO := H.2.2.1.fill_all
      have hR := H.2.1
      go_wp2_with (first | (refine wpList_load_blk hO rfl _ _ rfl rfl und28 (by kernel_rfl) ?_) | (refine wpList_store_blk hR rfl _ _ _ rfl rfl rfl (by kernel_rfl) (fun j _ => rfl) ?_))
      exact bodyPost_ret (v := .agg (fcells 64 _)) (results_blk rfl _ (hR.setRow_same rfl) rfl und28 (by kernel_rfl)) rfl ⟨rfl, below_setRow H.2.2.2 (by omega) _⟩
end Go.Proofs.Ytbldgpemocnboaa

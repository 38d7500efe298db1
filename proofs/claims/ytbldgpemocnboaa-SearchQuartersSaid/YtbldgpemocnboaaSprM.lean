/- Plain laws of spread macroblocks; kinescopelaw26.Awake. -/
import Derived.Test.YtbldgpemocnboaaSpr2
import Derived.Test.YtbldgpemocnboaaFr
import Derived.Test.YtbldgpemocnboaaSameAt
import Derived.Test.YtbldgpemocnboaaRel
import Derived.Test.YtbldgpemocnboaaFrRe
namespace Go.Proofs.Ytbldgpemocnboaa
open Go.RowKit Go.Sort
attribute [local go_sem ↓] run_imax run_imin

theorem tch_lt {f : Fr} {kb i sz : Nat} (hc : 0 < f.c) (hsz : sz = if kb < 4 then 16 else 8) (hi : i < f.pw kb * f.ph kb) : f.tch kb i sz < f.c * f.r := by
  have hW : f.pw kb = sz * f.c := by subst hsz; unfold Fr.pw; split <;> rfl
  have hH : f.ph kb = sz * f.r := by subst hsz; unfold Fr.ph; split <;> rfl
  have hs : 0 < sz := by subst hsz; split <;> omega
  have hx : i % f.pw kb < f.pw kb := Nat.mod_lt _ (by rw [hW]; exact Nat.mul_pos hs hc)
  have hy : i / f.pw kb < f.ph kb := Nat.div_lt_of_lt_mul hi
  unfold Fr.tch
  exact nat_row (Nat.div_lt_of_lt_mul (by rw [← hH]; exact hy)) (Nat.div_lt_of_lt_mul (by rw [← hW]; exact hx))
/-- Two frames whose macroblocks are alike. -/
theorem same_ix {x y : Fr} (hc : 0 < x.c) (e1 : x.c = y.c) (e2 : x.r = y.r) (h : ∀ k, k < 6 → ∀ m, m < x.c * x.r → ∀ j, j < 64 → x.ps k (x.ix m k j) = y.ps k (x.ix m k j)) : sameB x y = true := by
  have key : ∀ kb, (kb = 0 ∨ kb = 4 ∨ kb = 5) → ∀ i, i < x.pw kb * x.ph kb → x.ps kb i = y.ps kb i := by
    intro kb hkb i hi
    obtain ⟨k, j, hk, hj, hsp, hix⟩ := ix_tch hc hkb rfl hi rfl
    have h1 := h k hk _ (tch_lt hc rfl hi) j hj
    rw [hix, ps_sp hsp, ps_sp hsp] at h1
    exact h1
  exact sameB_of e1 e2 (fun i hi => key 0 (Or.inl rfl) i hi) (fun i hi => key 4 (Or.inr (Or.inl rfl)) i hi) (fun i hi => key 5 (Or.inr (Or.inr rfl)) i hi)
section
variable {f g x y : Fr} {mb d : Nat} {u : Int}
theorem SprR.dims {n : Nat} (H : SprR f mb u d n x) : x.c = f.c ∧ x.r = f.r ∧ (∀ m k j, x.ix m k j = f.ix m k j) := by
  obtain ⟨sY, sU, sV, rfl⟩ := H.sm; exact ⟨rfl, rfl, fun _ _ _ => rfl⟩
theorem like_ps (h : g.Like f) (k : Nat) : g.ps k = f.ps k ∧ g.pw k = f.pw k ∧ g.ph k = f.ph k := by
  unfold Fr.ps Fr.pw Fr.ph; rw [h.y, h.u, h.v, h.c, h.r]; exact ⟨rfl, rfl, rfl⟩
theorem like_xy (h : g.Like f) (m k : Nat) : g.px m k = f.px m k ∧ g.py m k = f.py m k ∧ (∀ j, g.ix m k j = f.ix m k j) := by
  unfold Fr.px Fr.py Fr.ix Fr.nx Fr.ny; rw [(like_ps h k).2.1, h.c]; exact ⟨rfl, rfl, fun _ => rfl⟩
theorem like_spr (h : g.Like f) (k j : Nat) : sprV g mb k u d j = sprV f mb k u d j := by
  unfold sprV; rw [(like_ps h k).1, (like_ps h k).2.1, (like_ps h k).2.2, (like_xy h mb k).1, (like_xy h mb k).2.1, h.r]
/-- Spread of a copy is that of the frame. -/
theorem SprR.of_like (H : SprR g mb u d 6 x) (h : g.Like f) : ∀ k, k < 6 → ∀ m, m < f.c * f.r → ∀ j, j < 64 → x.ps k (f.ix m k j) = if m = mb then sat (sprV f mb k u d j) else f.ps k (f.ix m k j) := by
  intro k hk m hm j hj
  have h1 := H.s k hk m (by rw [h.c, h.r]; exact hm) j hj
  rw [(like_xy h m k).2.2, (like_ps h k).1, like_spr h] at h1
  rw [h1]
  by_cases e : m = mb
  · rw [if_pos ⟨e, hk⟩, if_pos e]
  · rw [if_neg (fun h => e h.1), if_neg e]
theorem spr_same {g' : Fr} (H : SprR g mb u d 6 x) (H' : SprR g' mb u d 6 y) (h : g.Like f) (h' : g'.Like f) (hc : 0 < f.c) : sameB x y = true := by
  obtain ⟨a1, a2, a3⟩ := H.dims
  obtain ⟨b1, b2, b3⟩ := H'.dims
  refine same_ix (by rw [a1, h.c]; exact hc) (by rw [a1, b1, h.c, h'.c]) (by rw [a2, b2, h.r, h'.r]) (fun k hk m hm j hj => ?_)
  rw [a1, a2, h.c, h.r] at hm
  rw [a3, (like_xy h m k).2.2, H.of_like h k hk m hm j hj, H'.of_like h' k hk m hm j hj]
/-- Done twice it is the same. -/
theorem spr_again {g' : Fr} (H : SprR g mb u d 6 x) (h' : g'.Like x) (H' : SprR g' mb u d 6 y) (hc : 0 < g.c) (hm : mb < g.c * g.r) (hud : u < ((mb / g.c : Nat) : Int) ∧ mb / g.c < d) : sameB x y = true := by
  obtain ⟨a1, a2, a3⟩ := H.dims
  obtain ⟨b1, b2, b3⟩ := H'.dims
  refine same_ix (by rw [a1]; exact hc) (by rw [a1, b1, h'.c, a1]) (by rw [a2, b2, h'.r, a2]) (fun k hk m hmm j hj => ?_)
  have h1 := H'.of_like h' k hk m hmm j hj
  rw [h1]
  by_cases e : m = mb
  · rw [if_pos e, a3, H.s k hk m (by rw [← a1, ← a2]; exact hmm) j hj, if_pos ⟨e, hk⟩]
    congr 1
    have h2 := H.reads hc hm hk (Or.inr hud) j
    rw [← h2]
    obtain ⟨p1, p2, _⟩ := H.pw k
    have e1 : x.px mb k = g.px mb k := by unfold Fr.px; rw [a1]
    have e2 : x.py mb k = g.py mb k := by unfold Fr.py; rw [a1]
    unfold sprV
    rw [p1, p2, e1, e2, a2]
  · rw [if_neg e]
/-- Another macroblock is as it was. -/
theorem spr_else (H : SprR g mb u d 6 x) (h : g.Like f) (hc : 0 < f.c) {m : Nat} (hm : m < f.c * f.r) (hne : m ≠ mb) : sameAtB f x m = true := by
  obtain ⟨a1, a2, a3⟩ := H.dims
  refine sameAtB_true fun k hk j hj => ?_
  rw [mbF_ix hc hm hk hj, mbF_ix (by rw [a1, h.c]; exact hc) (by rw [a1, a2, h.c, h.r]; exact hm) hk hj, a3, (like_xy h m k).2.2, H.of_like h k hk m hm j hj, if_neg hne]
/-- A macroblock's middle, if its light is all alike. -/
theorem mid_of {v : Int} (hc : 0 < x.c) (hm : mb < x.c * x.r) (h : ∀ k, k < 4 → ∀ j, j < 64 → x.ps k (x.ix mb k j) = v) : midS x mb 4 / 256 = v := by
  have h1 : ∀ k, k < 4 → sumTo (lightF x mb k) 64 = v * 64 := by
    intro k hk
    have e : sumTo (lightF x mb k) 64 = sumTo (fun _ => v) 64 := sumTo_congr 64 fun j hj => by
      have h2 := mbF_ix hc hm (show k < 6 by omega) hj
      rw [h k hk j hj] at h2
      rw [← h2]
      unfold lightF mbF Fr.pw Fr.ph Fr.ps Fr.px Fr.py
      simp only [if_pos hk]
    rw [e, sumTo_const]; rfl
  have e : midS x mb 4 = sumTo (fun _ => v * 64) 4 := sumTo_congr 4 fun k hk => h1 k hk
  rw [e, sumTo_const]
  omega
end
def AwS (k : Nat) (v : Value) (W : World) : Prop := k = 1 → ∃ b, v = dmV 1 1 b 1 1 ∧ VB W b 4 1 (blv fun _ => true)
set_option maxHeartbeats 1000000 in
theorem awake26 (w : World) :
    Calls Try.prog 42 #[] w fun e w' => e = .returned (.bool true) ∧ Below w.heap.size w w' := by
  go_enter Try.func42, Try.ntmps42
  go_wp2_with fail
  refine (newFrame_any _ _ 9 1 1 _ (by decide) (by decide) (by omega)).mono ?_
  rintro e w1 ⟨b1, b2, b3, rfl, hfr, hM, hb⟩
  obtain ⟨g, hg⟩ : ∃ g, frFlat 1 1 b1 b2 b3 9 = g := ⟨_, rfl⟩
  have gc : g.c = 1 := by rw [← hg]; rfl
  have gr : g.r = 1 := by rw [← hg]; rfl
  rw [hg] at hM hfr ⊢
  clear hg
  replace gc := Lib.hid gc; replace gr := Lib.hid gr
  unfold Fr.val
  go_wp2_with (refine wpList_store_stop (Ob.new_at (w := w1) FRT frZ rfl) rfl _ _ _ rfl rfl g.cells rfl (by kernel_rfl) rfl rfl ?_)
  intro w2 hw2
  have HF := cell_ob hw2.out
  have uq := hM.y.lt; have uq2 := hM.u.lt; have uq3 := hM.v.lt
  have n1 : w1.heap.size ≠ g.bY ∧ w1.heap.size ≠ g.bU ∧ w1.heap.size ≠ g.bV := ⟨by omega, by omega, by omega⟩
  replace hM := cell_mem hw2.out hM
  have HW := cell_below hw2.out hb hb.size
  obtain ⟨v1, v2, v3⟩ := hfr
  clear hw2 hb uq uq2 uq3
  generalize w1.heap.size = q at *
  go_wp2_with fail
  apply wp_region_rel 2 [1] AwS
  case hm => kernel_rfl
  case hB => kernel_rfl
  case hΛ => kernel_rfl
  case hSm => exact fun _ _ _ _ h hb e => let ⟨b, h1, h2⟩ := h e; ⟨b, h1, h2.later hb⟩
  case hF =>
    intro wx hwx vs
    have c0 := fun p => ((HF.later hwx).re p).fC
    have c1 := fun p => ((HF.later hwx).re p).fR
    have c2 := fun p => ((HF.later hwx).re p).fYW
    have c3 := fun p => ((HF.later hwx).re p).fYH
    have c4 := fun p => ((HF.later hwx).re p).fYS
    have c5 := fun p => ((HF.later hwx).re p).fUW
    have c6 := fun p => ((HF.later hwx).re p).fUH
    have c7 := fun p => ((HF.later hwx).re p).fUS
    have c8 := fun p => ((HF.later hwx).re p).fVW
    have c9 := fun p => ((HF.later hwx).re p).fVH
    have c10 := fun p => ((HF.later hwx).re p).fVS
    simp only [List.take_succ_cons, List.take_zero]
    repeat (first | (refine WQ.want (by rfl) (by rfl) ?_; intro K hK; go_big_quiet_op; first | go_big_quiet_on | go_big_quiet_call (fail)) | (refine WQ.skip (by rfl) (by rfl) ?_; simp only [Act.put, List.setIfInBounds_toArray, List.set_cons_succ, List.set_cons_zero]))
    refine WQ.new (by rfl) (by rfl) ?_ ?_
    · intro W hW hf
      go_simp
      refine (dmNew_any 1 1 true 1 1 W (by decide) (by decide)).mono ?_
      rintro e w' ⟨b, rfl, -, h2, hb3⟩
      exact ⟨_, rfl, hb3, fun _ => ⟨b, rfl, h2⟩⟩
    simp only [Act.put, List.setIfInBounds_toArray, List.set_cons_succ, List.set_cons_zero]
    repeat (first | (refine WQ.want (by rfl) (by rfl) ?_; intro K hK; go_big_quiet_op; first | go_big_quiet_on | go_big_quiet_call (fail)) | (refine WQ.skip (by rfl) (by rfl) ?_; simp only [Act.put, List.setIfInBounds_toArray, List.set_cons_succ, List.set_cons_zero]))
    exact WQ.nil rfl
  case hind => intro vs vs'; kernel_rfl
  case hT =>
    intro vs w' hb hS
    obtain ⟨b, hv, hB⟩ := hS 1 (by simp) rfl
    have uq4 := hb.size
    replace HF := HF.later hb; replace hM := hM.later hb; replace HW := below_step HW hb
    clear hb
    simp only [List.drop_succ_cons, List.drop_zero]
    go_wp2_with fail
    replace gc := gc.out; replace gr := gr.out
    have hsp := spread_any g b 1 (fun _ => true) 0 w' (by omega) (by omega) (by rw [gc, gr]; decide) hM (by rw [gc, gr]; exact hB)
    have e0 : dmV g.c g.r b (g.c * g.r) 1 = dmV 1 1 b 1 1 := by rw [gc, gr]
    rw [e0] at hsp
    refine hsp.mono ?_
    rintro e w3 ⟨rfl, x, hx, hX, hwr⟩
    replace HF := HF.wrf hwr n1.1 n1.2.1 n1.2.2
    replace HW := hwr.below HW HW.size (by omega) (by omega) (by omega)
    go_wp2_with (refine wpList_load_ob HF rfl 43 _ rfl rfl Try.underlying43 (by kernel_rfl) ?_)
    have hxd := (hx.pw 0).2.2.2.2
    rw [← hxd.1]
    refine (middle_any x 0 _ (by rw [hxd.2.1]; omega) hX (by decide)).mono ?_
    rintro e w4 ⟨rfl, hb4⟩
    have hmid := mid_of (x := x) (mb := 0) (v := 128) (by rw [hxd.2.1]; omega) (by rw [hxd.2.1, hxd.2.2]; rw [gc, gr]; decide) (fun k hk j hj => by
      rw [hx.dims.2.2, hx.s k (by omega) 0 (by rw [gc, gr]; decide) j hj, if_pos ⟨rfl, by omega⟩]
      have e1 : upOf (fun _ => true) g.c 0 = -1 := by rw [gc]; rfl
      have e2 : dnOf (fun _ => true) g.c g.r 0 = 1 := by rw [gc, gr]; rfl
      have e3 : sprV g 0 k (-1) 1 j = 128 := by unfold sprV btw abv blw; rw [gr]; rfl
      rw [e1, e2, e3]; rfl)
    rw [hmid]
    go_wp2_with fail
    go_ret
    exact ⟨rfl, below_step HW hb4⟩
end Go.Proofs.Ytbldgpemocnboaa

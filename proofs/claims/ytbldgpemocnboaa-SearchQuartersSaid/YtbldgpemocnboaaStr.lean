/- A slice of bytes as a string; plane.Same, walked. -/
import Derived.Test.YtbldgpemocnboaaSm
import Derived.Test.YtbldgpemocnboaaCl1
import Derived.Laws.BytesArg
namespace Go.Proofs.Ytbldgpemocnboaa
open Go.RowKit Go.Sort
attribute [local go_sem ↓] run_imax run_imin

/-- n bytes as a string. -/
def strF (n : Nat) (s : Nat → Int) : ByteArray := strOfNums ((List.range n).map s)
theorem strF_size (n : Nat) (s : Nat → Int) : (strF n s).size = n := by unfold strF; rw [strOfNums_size]; simp
theorem strF_congr {n : Nat} {s t : Nat → Int} (h : ∀ k, k < n → s k = t k) : strF n s = strF n t := by
  unfold strF; congr 1; exact List.map_congr_left fun k hk => h k (List.mem_range.1 hk)
theorem strF_inj {n m : Nat} {s t : Nat → Int} (hs : ∀ k, k < n → 0 ≤ s k ∧ s k ≤ 255) (ht : ∀ k, k < m → 0 ≤ t k ∧ t k ≤ 255) (h : strF n s = strF m t) : n = m ∧ ∀ k, k < n → s k = t k := by
  have h1 : n = m := by rw [← strF_size n s, h, strF_size]
  subst h1
  refine ⟨rfl, fun k hk => ?_⟩
  have h2 : (strF n s).data.toList = (strF n t).data.toList := by rw [h]
  unfold strF at h2
  rw [strOfNums_data, strOfNums_data, List.map_map, List.map_map] at h2
  have h3 : ((List.range n).map ((fun x : Int => UInt8.ofNat x.toNat) ∘ s))[k]? = ((List.range n).map ((fun x : Int => UInt8.ofNat x.toNat) ∘ t))[k]? := by rw [h2]
  rw [List.getElem?_map, List.getElem?_map, List.getElem?_range hk] at h3
  simp only [Option.map_some, Option.some.injEq, Function.comp] at h3
  have h4 := congrArg UInt8.toNat h3
  have a1 := hs k hk; have a2 := ht k hk
  simp only [UInt8.toNat_ofNat'] at h4
  rw [Nat.mod_eq_of_lt (by omega), Nat.mod_eq_of_lt (by omega)] at h4
  omega
/-- Whether two slices of bytes are one string. -/
def strEq (n : Nat) (s : Nat → Int) (m : Nat) (t : Nat → Int) : Bool := (strF n s).toList == (strF m t).toList
theorem strEq_same {n : Nat} {s t : Nat → Int} (h : ∀ k, k < n → s k = t k) : strEq n s n t = true := by unfold strEq; rw [strF_congr h]; simp
theorem strEq_not {n m : Nat} {s t : Nat → Int} (hs : ∀ k, k < n → 0 ≤ s k ∧ s k ≤ 255) (ht : ∀ k, k < m → 0 ≤ t k ∧ t k ≤ 255) (h : strEq n s m t = true) : n = m ∧ ∀ k, k < n → s k = t k := by
  unfold strEq at h
  rw [ByteArray.toList_eq, ByteArray.toList_eq] at h
  have h2 : (strF n s).data.toList = (strF m t).data.toList := by simpa using h
  refine strF_inj hs ht ?_
  cases hx : strF n s; cases hy : strF m t
  rw [hx, hy] at h2
  congr 1
  exact Array.toList_inj.1 h2
theorem conv_any {w : World} {b n : Nat} {s : Nat → Int} (c : Nat) (h : PB w b n s) : (convert 36 9 (.slice (some ⟨b, 0, none⟩) n c)).run Try.prog w = .ok (.string (strF n s)) w :=
  run_convert_bytes_arg w _ 5 Try.underlying36 Try.underlying5 b 0 n c ((List.range n).map s) (by simp) (fun i hi => by
    rw [Nat.zero_add, h.cell hi]; simp [hi]) _ Try.underlying9

def sameB (f g : Fr) : Bool := decide (f.c = g.c) && (decide (f.r = g.r) && (strEq (16 * f.c * (16 * f.r)) f.sY (16 * g.c * (16 * g.r)) g.sY && (strEq (8 * f.c * (8 * f.r)) f.sU (8 * g.c * (8 * g.r)) g.sU && strEq (8 * f.c * (8 * f.r)) f.sV (8 * g.c * (8 * g.r)) g.sV)))

def convTo (w : World) (p : Value) (s : ByteArray) : Prop := ∀ w', Below w.heap.size w w' → (convert 36 9 p).run Try.prog w' = .ok (.string s) w'
set_option maxHeartbeats 4000000 in
theorem same_raw (C1 C2 R1 R2 : Int) (b1 b2 b3 c1 c2 c3 : Option Addr) (n1 n2 n3 m1 m2 m3 k1 k2 k3 l1 l2 l3 : Nat) (i2 i3 i5 i6 i8 i9 j2 j3 j5 j6 j8 j9 : Int) (s1 s2 s3 t1 t2 t3 : ByteArray) (w : World)
    (h1 : convTo w (.slice b1 n1 k1) s1) (h2 : convTo w (.slice b2 n2 k2) s2) (h3 : convTo w (.slice b3 n3 k3) s3) (h4 : convTo w (.slice c1 m1 l1) t1) (h5 : convTo w (.slice c2 m2 l2) t2) (h6 : convTo w (.slice c3 m3 l3) t3) :
    Calls Try.prog 40 #[.agg #[.int .i64 C1, .int .i64 R1, .int .i64 i2, .int .i64 i3, .slice b1 n1 k1, .int .i64 i5, .int .i64 i6, .slice b2 n2 k2, .int .i64 i8, .int .i64 i9, .slice b3 n3 k3], .agg #[.int .i64 C2, .int .i64 R2, .int .i64 j2, .int .i64 j3, .slice c1 m1 l1, .int .i64 j5, .int .i64 j6, .slice c2 m2 l2, .int .i64 j8, .int .i64 j9, .slice c3 m3 l3]] w fun e w' =>
      e = .returned (.bool (decide (C1 = C2) && (decide (R1 = R2) && ((s1.toList == t1.toList) && ((s2.toList == t2.toList) && (s3.toList == t3.toList)))))) ∧ Below w.heap.size w w' := by
  by_cases hC : C1 = C2
  case neg =>
    have e1 : decide (C1 = C2) = false := by simpa using hC
    simp only [e1, Bool.false_and]
    have e2 : (C1 == C2) = false := by simpa using hC
    clear h1 h2 h3 h4 h5 h6
    go_enter Try.func40, Try.ntmps40
    go_wp2_with fail
    go_ret
    exact ⟨rfl, by ((repeat (first | exact Below.refl _ _ | assumption | refine Below.setCell ?_ (by first | omega | (simp; done) | (simp; omega)) _ | refine Below.alloc ?_ (by first | omega | (simp; done) | (simp; omega)) _ | refine below_drewN ?_ _ | refine Below.drew ?_ | refine below_setRow ?_ (by first | omega | (simp; done) | (simp; omega)) _)))⟩
  subst hC
  by_cases hR : R1 = R2
  case neg =>
    have e1 : decide (R1 = R2) = false := by simpa using hR
    simp only [e1, Bool.false_and, decide_true, Bool.and_false]
    have e2 : (R1 == R2) = false := by simpa using hR
    clear h1 h2 h3 h4 h5 h6
    go_enter Try.func40, Try.ntmps40
    go_wp2_with fail
    go_ret
    exact ⟨rfl, by ((repeat (first | exact Below.refl _ _ | assumption | refine Below.setCell ?_ (by first | omega | (simp; done) | (simp; omega)) _ | refine Below.alloc ?_ (by first | omega | (simp; done) | (simp; omega)) _ | refine below_drewN ?_ _ | refine Below.drew ?_ | refine below_setRow ?_ (by first | omega | (simp; done) | (simp; omega)) _)))⟩
  subst hR
  simp only [decide_true, Bool.true_and]
  have hw : Below w.heap.size w ((w.alloc (.cells #[.int .i64 C1, .int .i64 R1, .int .i64 i2, .int .i64 i3, .slice b1 n1 k1, .int .i64 i5, .int .i64 i6, .slice b2 n2 k2, .int .i64 i8, .int .i64 i9, .slice b3 n3 k3] FRT)).alloc (.cells #[.int .i64 C1, .int .i64 R1, .int .i64 j2, .int .i64 j3, .slice c1 m1 l1, .int .i64 j5, .int .i64 j6, .slice c2 m2 l2, .int .i64 j8, .int .i64 j9, .slice c3 m3 l3] FRT)) := by ((repeat (first | exact Below.refl _ _ | assumption | refine Below.setCell ?_ (by first | omega | (simp; done) | (simp; omega)) _ | refine Below.alloc ?_ (by first | omega | (simp; done) | (simp; omega)) _ | refine below_drewN ?_ _ | refine Below.drew ?_ | refine below_setRow ?_ (by first | omega | (simp; done) | (simp; omega)) _)))
  have v1 := h1 _ hw; have v2 := h2 _ hw; have v3 := h3 _ hw; have v4 := h4 _ hw; have v5 := h5 _ hw; have v6 := h6 _ hw
  clear h1 h2 h3 h4 h5 h6
  obtain ⟨d3, e3⟩ : ∃ b, (s1.toList == t1.toList) = b := ⟨_, rfl⟩
  obtain ⟨d4, e4⟩ : ∃ b, (s2.toList == t2.toList) = b := ⟨_, rfl⟩
  obtain ⟨d5, e5⟩ : ∃ b, (s3.toList == t3.toList) = b := ⟨_, rfl⟩
  rw [e3, e4, e5]
  cases d3
  case false =>
    simp only [Bool.false_and]
    go_enter Try.func40, Try.ntmps40
    go_wp2_with fail
    go_ret
    exact ⟨rfl, by ((repeat (first | exact Below.refl _ _ | assumption | refine Below.setCell ?_ (by first | omega | (simp; done) | (simp; omega)) _ | refine Below.alloc ?_ (by first | omega | (simp; done) | (simp; omega)) _ | refine below_drewN ?_ _ | refine Below.drew ?_ | refine below_setRow ?_ (by first | omega | (simp; done) | (simp; omega)) _)))⟩
  cases d4
  case false =>
    simp only [Bool.false_and, Bool.and_false]
    go_enter Try.func40, Try.ntmps40
    go_wp2_with fail
    go_ret
    exact ⟨rfl, by ((repeat (first | exact Below.refl _ _ | assumption | refine Below.setCell ?_ (by first | omega | (simp; done) | (simp; omega)) _ | refine Below.alloc ?_ (by first | omega | (simp; done) | (simp; omega)) _ | refine below_drewN ?_ _ | refine Below.drew ?_ | refine below_setRow ?_ (by first | omega | (simp; done) | (simp; omega)) _)))⟩
  simp only [Bool.true_and]
  go_enter Try.func40, Try.ntmps40
  go_wp2_with fail
  go_ret
  exact ⟨rfl, hw⟩
theorem convTo_pb {w : World} {b n c : Nat} {s : Nat → Int} (h : PB w b n s) : convTo w (.slice (some ⟨b, 0, none⟩) n c) (strF n s) := fun _ hb => conv_any c (h.later hb)
theorem same_any (f g : Fr) (w : World) (hM : f.Mem w) (hG : g.Mem w) :
    Calls Try.prog 40 #[f.val, g.val] w fun e w' => e = .returned (.bool (sameB f g)) ∧ Below w.heap.size w w' := by
  refine (same_raw _ _ _ _ _ _ _ _ _ _ _ _ _ _ _ _ _ _ _ _ _ _ _ _ _ _ _ _ _ _ _ _ _ _ _ _ _ _ _ _ w (convTo_pb hM.y) (convTo_pb hM.u) (convTo_pb hM.v) (convTo_pb hG.y) (convTo_pb hG.u) (convTo_pb hG.v)).mono ?_
  rintro e w' ⟨rfl, h⟩
  refine ⟨?_, h⟩
  have e1 : decide ((f.c : Int) = (g.c : Int)) = decide (f.c = g.c) := by rw [decide_eq_decide]; omega
  have e2 : decide ((f.r : Int) = (g.r : Int)) = decide (f.r = g.r) := by rw [decide_eq_decide]; omega
  rw [e1, e2]; rfl
theorem sameB_of {f g : Fr} (hc : f.c = g.c) (hr : f.r = g.r) (hy : ∀ k, k < 16 * f.c * (16 * f.r) → f.sY k = g.sY k) (hu : ∀ k, k < 8 * f.c * (8 * f.r) → f.sU k = g.sU k) (hv : ∀ k, k < 8 * f.c * (8 * f.r) → f.sV k = g.sV k) : sameB f g = true := by
  unfold sameB
  rw [← hc, ← hr, strEq_same hy, strEq_same hu, strEq_same hv]; simp
theorem sameB_like {f g : Fr} (h : g.Like f) : sameB f g = true := sameB_of h.c.symm h.r.symm (fun k _ => by rw [h.y]) (fun k _ => by rw [h.u]) (fun k _ => by rw [h.v])
theorem sameB_only {f g : Fr} {w : World} (hM : f.Mem w) (hG : g.Mem w) (h : sameB f g = true) : f.c = g.c ∧ f.r = g.r ∧ (∀ k, k < 16 * f.c * (16 * f.r) → f.sY k = g.sY k) ∧ (∀ k, k < 8 * f.c * (8 * f.r) → f.sU k = g.sU k) ∧ (∀ k, k < 8 * f.c * (8 * f.r) → f.sV k = g.sV k) := by
  unfold sameB at h
  simp only [Bool.and_eq_true, decide_eq_true_eq] at h
  obtain ⟨h1, h2, h3, h4, h5⟩ := h
  exact ⟨h1, h2, (strEq_not (fun k hk => hM.y.bd hk) (fun k hk => hG.y.bd hk) h3).2, (strEq_not (fun k hk => hM.u.bd hk) (fun k hk => hG.u.bd hk) h4).2, (strEq_not (fun k hk => hM.v.bd hk) (fun k hk => hG.v.bd hk) h5).2⟩
end Go.Proofs.Ytbldgpemocnboaa

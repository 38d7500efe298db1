/- A macroblock's six blocks of samples: in which plane, where; Block for any of them. -/
import Derived.Test.YtbldgpemocnboaaFr
import Derived.Test.YtbldgpemocnboaaPl
namespace Go.Proofs.Ytbldgpemocnboaa
open Go.RowKit

def Fr.pw (f : Fr) (k : Nat) : Nat := if k < 4 then 16 * f.c else 8 * f.c
def Fr.ph (f : Fr) (k : Nat) : Nat := if k < 4 then 16 * f.r else 8 * f.r
def Fr.pb (f : Fr) (k : Nat) : Nat := if k < 4 then f.bY else if k = 4 then f.bU else f.bV
def Fr.pc (f : Fr) (k : Nat) : Nat := if k < 4 then f.cY else if k = 4 then f.cU else f.cV
def Fr.ps (f : Fr) (k : Nat) : Nat → Int := if k < 4 then f.sY else if k = 4 then f.sU else f.sV
def Fr.px (f : Fr) (mb k : Nat) : Int := if k < 4 then 16 * ((mb : Int) % (f.c : Int)) + 8 * ((k : Int) % 2) else 8 * ((mb : Int) % (f.c : Int))
def Fr.py (f : Fr) (mb k : Nat) : Int := if k < 4 then 16 * ((mb : Int) / (f.c : Int)) + 8 * ((k : Int) / 2) else 8 * ((mb : Int) / (f.c : Int))
/-- Its samples. -/
def mbF (f : Fr) (mb k : Nat) : Nat → Int := blockF (f.pw k) (f.ph k) (f.ps k) (f.px mb k) (f.py mb k)
section
variable {f : Fr} {w : World}
theorem k6 {k : Nat} (hk : k < 6) : k < 4 ∨ k = 4 ∨ k = 5 := by omega
theorem Fr.Mem.pl (h : f.Mem w) (k : Nat) : PB w (f.pb k) (f.pw k * f.ph k) (f.ps k) := by
  unfold Fr.pb Fr.pw Fr.ph Fr.ps
  by_cases h4 : k < 4
  · simp only [if_pos h4]; exact h.y
  · simp only [if_neg h4]
    by_cases h5 : k = 4
    · simp only [if_pos h5]; exact h.u
    · simp only [if_neg h5]; exact h.v
theorem Fr.Mem.plb (h : f.Mem w) (k : Nat) : f.pw k ≤ 128 ∧ f.ph k ≤ 128 := by
  have := h.hc; have := h.hr
  unfold Fr.pw Fr.ph; split <;> omega
theorem Fr.pxy_bd (f : Fr) {mb k : Nat} (hm : mb ≤ 1000000) (hk : k < 6) : 0 ≤ f.px mb k ∧ f.px mb k ≤ 16000016 ∧ 0 ≤ f.py mb k ∧ f.py mb k ≤ 16000016 := by
  obtain ⟨m1, m2, m3, m4⟩ := mb_bd mb f.c hm
  unfold Fr.px Fr.py; split <;> omega
theorem mbF_bd (h : f.Mem w) (mb k i : Nat) : 0 ≤ mbF f mb k i ∧ mbF f mb k i ≤ 255 := plAt_bd (h.pl k) _ _
end
def Fr.blkV (f : Fr) (mb k : Nat) : Value := .tuple #[.agg #[.int .i64 (f.pw k : Int), .int .i64 (f.ph k : Int), .slice (some ⟨f.pb k, 0, none⟩) (f.pw k * f.ph k) (f.pc k)], .int .i64 (f.px mb k), .int .i64 (f.py mb k)]
theorem frBlock_any (f : Fr) (mb k : Nat) (w : World) (h1 : 0 < f.c) (h2 : f.c ≤ 8) (hm : mb ≤ 1000000) (hk : k < 6) :
    Calls Try.prog 52 #[f.val, .int .i64 (mb : Int), .int .i64 (k : Int)] w fun e w' => e = .returned (f.blkV mb k) ∧ Below w.heap.size w w' := by
  unfold Fr.blkV Fr.pw Fr.ph Fr.pb Fr.pc Fr.px Fr.py
  rcases k6 hk with h | rfl | rfl
  · simp only [if_pos h]; exact frBlockY f mb k w h1 h2 hm h
  · exact frBlockU f mb w h1 h2 hm
  · exact frBlockV f mb w h1 h2 hm
/-- The plane's value, and Block on it. -/
theorem plBlock_any (f : Fr) (mb k : Nat) (w : World) (hM : f.Mem w) (hm : mb ≤ 1000000) (hk : k < 6) :
    Calls Try.prog 67 #[.agg #[.int .i64 (f.pw k : Int), .int .i64 (f.ph k : Int), .slice (some ⟨f.pb k, 0, none⟩) (f.pw k * f.ph k) (f.pc k)], .int .i64 (f.px mb k), .int .i64 (f.py mb k)] w
      fun e w' => e = .returned (.agg (fcells 64 (ival (mbF f mb k)))) ∧ Below w.heap.size w w' := by
  have b1 := hM.plb k
  have b2 := f.pxy_bd hm hk
  exact block_any (f.pw k) (f.ph k) (f.pb k) (f.pc k) (f.ps k) _ _ w (by omega) (by omega) (hM.pl k) (by omega) (by omega) (by omega) (by omega)
end Go.Proofs.Ytbldgpemocnboaa

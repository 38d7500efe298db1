/- Whole numbers below 2^53 as float64: sums, differences and the way back to int are exact. No condition beyond the bounds that each theorem names. -/
import Derived.Laws.ComplexArith
namespace Go.Proofs.Ytbldgpemocnboaa
open Go Ieee

theorem cut_zero (neg : Bool) (n : Nat) : Toward.even.cut neg n 0 = n := by
  simp [Toward.cut, Nat.mod_one]

theorem log2_mul_pow (c k : Nat) (hc : c ≠ 0) : (c * 2 ^ k).log2 = c.log2 + k := by
  have h2 : 0 < 2 ^ k := Nat.two_pow_pos k
  have hne : c * 2 ^ k ≠ 0 := Nat.ne_of_gt (Nat.mul_pos (Nat.pos_of_ne_zero hc) h2)
  rw [Nat.log2_eq_iff hne]
  have h := (Nat.log2_eq_iff hc).1 rfl
  constructor
  · rw [Nat.pow_add]; exact Nat.mul_le_mul_right _ h.1
  · rw [show c.log2 + k + 1 = (c.log2 + 1) + k by omega, Nat.pow_add]; exact Nat.mul_lt_mul_of_pos_right h.2 h2

theorem cut_exact (way : Toward) (neg : Bool) (c d : Nat) (hc : c ≠ 0) : way.cut neg (c * 2 ^ d) d = c := by
  have h1 : d ≤ (c * 2 ^ d).log2 + 2 := by rw [log2_mul_pow c d hc]; omega
  have h2 : 0 < 2 ^ d := Nat.two_pow_pos d
  simp only [Toward.cut, Nat.min_eq_left h1, Nat.one_shiftLeft, Nat.mul_div_cancel _ h2, Nat.mul_mod_left]
  cases way <;> simp

theorem cut_exact0 (way : Toward) (neg : Bool) (d : Nat) : way.cut neg 0 d = 0 := by
  simp only [Toward.cut, Nat.zero_div, Nat.zero_mod]
  cases way <;> simp [Nat.one_shiftLeft]

/-- The word of a whole number with at most 53 digits, whatever its place. -/
theorem nearest_exact (neg : Bool) (c k : Nat) (hc : c ≠ 0) (h : c < 2 ^ 53) :
    double.nearest neg (c * 2 ^ k) (-(k : Int)) = double.word neg ((c.log2 + 1022) * 2 ^ 52 + c * 2 ^ (52 - c.log2)) := by
  have hL : c.log2 ≤ 52 := by
    have := (Nat.log2_lt hc).2 h; omega
  have hne : c * 2 ^ k ≠ 0 := Nat.ne_of_gt (Nat.mul_pos (Nat.pos_of_ne_zero hc) (Nat.two_pow_pos k))
  have hlast : max (-(k : Int) + ((c * 2 ^ k).log2 : Nat) - (double.fractionBits : Nat)) double.leastPlace = (c.log2 : Int) - 52 := by
    rw [log2_mul_pow c k hc]
    have e1 : (double.fractionBits : Int) = 52 := rfl
    have e2 : double.leastPlace = -1074 := by decide
    rw [e1, e2]; omega
  have hkept : Toward.even.cut neg ((c * 2 ^ k) <<< (-(k : Int) - ((c.log2 : Int) - 52)).toNat) ((c.log2 : Int) - 52 - -(k : Int)).toNat = c * 2 ^ (52 - c.log2) := by
    by_cases hd : k + c.log2 ≤ 52
    · have e1 : (-(k : Int) - ((c.log2 : Int) - 52)).toNat = 52 - c.log2 - k := by omega
      have e2 : ((c.log2 : Int) - 52 - -(k : Int)).toNat = 0 := by omega
      rw [e1, e2, cut_zero, Nat.shiftLeft_eq, Nat.mul_assoc, ← Nat.pow_add, show k + (52 - c.log2 - k) = 52 - c.log2 by omega]
    · have e1 : (-(k : Int) - ((c.log2 : Int) - 52)).toNat = 0 := by omega
      have e2 : ((c.log2 : Int) - 52 - -(k : Int)).toNat = k + c.log2 - 52 := by omega
      rw [e1, e2, Nat.shiftLeft_zero, show k = (52 - c.log2) + (k + c.log2 - 52) by omega, Nat.pow_add, ← Nat.mul_assoc]
      rw [show 52 - c.log2 + (k + c.log2 - 52) + c.log2 - 52 = k + c.log2 - 52 by omega]
      exact cut_exact _ _ _ _ (Nat.ne_of_gt (Nat.mul_pos (Nat.pos_of_ne_zero hc) (Nat.two_pow_pos _)))
  have hb : c * 2 ^ (52 - c.log2) < 2 ^ 53 := by
    have h1 := (Nat.log2_eq_iff hc).1 rfl
    calc c * 2 ^ (52 - c.log2) < 2 ^ (c.log2 + 1) * 2 ^ (52 - c.log2) := Nat.mul_lt_mul_of_pos_right h1.2 (Nat.two_pow_pos _)
      _ = 2 ^ 53 := by rw [← Nat.pow_add]; congr 1; omega
  unfold Format.nearest
  rw [if_neg hne]
  simp only [hlast, hkept]
  have e3 : ((c.log2 : Int) - 52 - double.leastPlace).toNat = c.log2 + 1022 := by
    have e2 : double.leastPlace = -1074 := by decide
    rw [e2]; omega
  rw [e3]
  have e4 : double.binade = 2 ^ 52 := rfl
  have e5 : double.infRung = 2047 * 2 ^ 52 := by decide
  generalize c * 2 ^ (52 - c.log2) = K at *
  generalize c.log2 = L at *
  rw [e4, e5, Nat.min_eq_left (by omega)]

/-- Read back. -/
theorem read_exact (neg : Bool) (c : Nat) (hc : c ≠ 0) (h : c < 2 ^ 53) :
    double.read (double.word neg ((c.log2 + 1022) * 2 ^ 52 + c * 2 ^ (52 - c.log2))) = .number neg (c * 2 ^ (52 - c.log2)) ((c.log2 : Int) - 52) := by
  have hL : c.log2 ≤ 52 := by
    have := (Nat.log2_lt hc).2 h; omega
  have h1 := (Nat.log2_eq_iff hc).1 rfl
  have hb : c * 2 ^ (52 - c.log2) < 2 ^ 53 := by
    calc c * 2 ^ (52 - c.log2) < 2 ^ (c.log2 + 1) * 2 ^ (52 - c.log2) := Nat.mul_lt_mul_of_pos_right h1.2 (Nat.two_pow_pos _)
      _ = 2 ^ 53 := by rw [← Nat.pow_add]; congr 1; omega
  have ha : 2 ^ 52 ≤ c * 2 ^ (52 - c.log2) := by
    calc 2 ^ 52 = 2 ^ c.log2 * 2 ^ (52 - c.log2) := by rw [← Nat.pow_add]; congr 1; omega
      _ ≤ c * 2 ^ (52 - c.log2) := Nat.mul_le_mul_right _ h1.1
  generalize hK : c * 2 ^ (52 - c.log2) = K at *
  generalize hLL : c.log2 = L at *
  have e4 : double.binade = 2 ^ 52 := rfl
  have e5 : double.infRung = 2047 * 2 ^ 52 := by decide
  have e6 : double.signWeight = 2 ^ 63 := rfl
  have e2 : double.leastPlace = -1074 := by decide
  have hr : (L + 1022) * 2 ^ 52 + K < 2 ^ 63 := by omega
  have hneg : (double.word neg ((L + 1022) * 2 ^ 52 + K) / double.signWeight % 2 == 1) = neg := by
    rw [e6]; unfold Format.word; rw [e6]
    cases neg <;> simp <;> omega
  have hrung : double.word neg ((L + 1022) * 2 ^ 52 + K) % double.signWeight = (L + 1022) * 2 ^ 52 + K := by
    rw [e6]; unfold Format.word; rw [e6]
    cases neg <;> simp <;> omega
  unfold Format.read
  simp only [hneg, hrung, e4, e5, e2]
  rw [if_neg (by omega), if_pos (by omega)]
  congr 1 <;> omega

/-- The bits of a whole number. -/
def fbits (n : Int) : Nat := FloatKind.f64.nearest n

theorem fbits_zero : fbits 0 = 0 := by decide

theorem fbits_ne (n : Int) (h0 : n ≠ 0) (h : n.natAbs < 2 ^ 53) :
    fbits n = double.word (decide (n < 0)) ((n.natAbs.log2 + 1022) * 2 ^ 52 + n.natAbs * 2 ^ (52 - n.natAbs.log2)) := by
  have := nearest_exact (decide (n < 0)) n.natAbs 0 (by omega) h
  rw [← this]
  simp [fbits, FloatKind.nearest, FloatKind.encode, Format.write, FloatKind.format]

/-- Every whole number below 2^53 is read as itself, at a place from -1074 to 0. -/
theorem read_fbits (n : Int) (h : n.natAbs < 2 ^ 53) :
    ∃ k : Nat, k ≤ 1074 ∧ double.read (fbits n) = .number (decide (n < 0)) (n.natAbs * 2 ^ k) (-(k : Int)) := by
  by_cases h0 : n = 0
  · subst h0
    exact ⟨1074, by omega, by decide +kernel⟩
  · have hc : n.natAbs ≠ 0 := by omega
    have hL : n.natAbs.log2 ≤ 52 := by
      have := (Nat.log2_lt hc).2 h; omega
    refine ⟨52 - n.natAbs.log2, by omega, ?_⟩
    rw [fbits_ne n h0 h, read_exact _ _ hc h]
    congr 1; omega

theorem write_exact (n : Int) (k : Nat) (h : n.natAbs < 2 ^ 53) :
    double.write (.number (decide (n < 0)) (n.natAbs * 2 ^ k) (-(k : Int))) = fbits n := by
  by_cases h0 : n = 0
  · subst h0
    simp [Format.write, Format.nearest, fbits_zero, Format.word]
  · rw [fbits_ne n h0 h]
    exact nearest_exact _ _ _ (by omega) h

theorem signed_of (n : Int) (k u : Nat) : signed (decide (n < 0)) (n.natAbs * 2 ^ k) u = n * (2 ^ (k + u) : Nat) := by
  unfold signed
  rw [Nat.shiftLeft_eq, Nat.mul_assoc, ← Nat.pow_add]
  by_cases hn : n < 0
  · simp only [hn, decide_true, if_true]
    rw [Int.natCast_mul, ← Int.neg_mul]; congr 1; omega
  · simp only [hn, decide_false, Bool.false_eq_true, if_false]
    rw [Int.natCast_mul]; congr 1; omega

theorem natAbs_mul_pow (n : Int) (k : Nat) : (n * (2 ^ k : Nat)).natAbs = n.natAbs * 2 ^ k := by
  rw [Int.natAbs_mul, Int.natAbs_natCast]

theorem sum_exact (a b : Int) (i j : Nat) :
    (Datum.number (decide (a < 0)) (a.natAbs * 2 ^ i) (-(i : Int))).sum (.number (decide (b < 0)) (b.natAbs * 2 ^ j) (-(j : Int))) =
      some (.number (decide (a + b < 0)) ((a + b).natAbs * 2 ^ (max i j)) (-((max i j : Nat) : Int))) := by
  have hbase : min (-(i : Int)) (-(j : Int)) = -((max i j : Nat) : Int) := by omega
  simp only [Datum.sum, hbase]
  have e1 : i + (-(i : Int) - -((max i j : Nat) : Int)).toNat = max i j := by omega
  have e2 : j + (-(j : Int) - -((max i j : Nat) : Int)).toNat = max i j := by omega
  rw [signed_of, signed_of, e1, e2, ← Int.add_mul, natAbs_mul_pow]
  have hp : (0 : Int) < ((2 ^ (max i j) : Nat) : Int) := by have := Nat.two_pow_pos (max i j); omega
  congr 2
  by_cases h0 : a + b = 0
  · rw [h0]; simp; omega
  · have : (a + b) * ((2 ^ (max i j) : Nat) : Int) ≠ 0 := Int.mul_ne_zero h0 (by omega)
    rw [if_neg this]
    congr 1
    rw [eq_iff_iff]
    constructor
    · intro hh
      rcases Int.lt_or_le (a + b) 0 with h | h
      · exact h
      · have := Int.mul_nonneg h (Int.le_of_lt hp); omega
    · intro hh; exact Int.mul_neg_of_neg_of_pos hh hp

theorem sub_exact (a b : Int) (i j : Nat) :
    (Datum.number (decide (a < 0)) (a.natAbs * 2 ^ i) (-(i : Int))).sum (Datum.opposite (.number (decide (b < 0)) (b.natAbs * 2 ^ j) (-(j : Int)))) =
      some (.number (decide (a - b < 0)) ((a - b).natAbs * 2 ^ (max i j)) (-((max i j : Nat) : Int))) := by
  by_cases hb : b = 0
  · subst hb
    have hbase : min (-(i : Int)) (-(j : Int)) = -((max i j : Nat) : Int) := by omega
    simp only [Datum.opposite, Datum.sum, hbase]
    have e1 : i + (-(i : Int) - -((max i j : Nat) : Int)).toNat = max i j := by omega
    rw [signed_of, e1]
    have hp : (0 : Int) < ((2 ^ (max i j) : Nat) : Int) := by have := Nat.two_pow_pos (max i j); omega
    have e0 : signed (!(decide ((0 : Int) < 0))) ((0 : Int).natAbs * 2 ^ j) (-(j : Int) - -((max i j : Nat) : Int)).toNat = 0 := by simp [signed]
    rw [e0, Int.add_zero, Int.sub_zero, natAbs_mul_pow]
    congr 2
    by_cases h0 : a = 0
    · subst h0; simp
    · have : a * ((2 ^ (max i j) : Nat) : Int) ≠ 0 := Int.mul_ne_zero h0 (by omega)
      rw [if_neg this]
      congr 1
      rw [eq_iff_iff]
      constructor
      · intro hh
        rcases Int.lt_or_le a 0 with h | h
        · exact h
        · have := Int.mul_nonneg h (Int.le_of_lt hp); omega
      · intro hh; exact Int.mul_neg_of_neg_of_pos hh hp
  · have := sum_exact a (-b) i j
    rw [show a + -b = a - b from rfl, Int.natAbs_neg] at this
    rw [← this]
    congr 1
    simp only [Datum.opposite]
    congr 1
    by_cases h : b < 0 <;> simp [h] <;> omega

theorem fb_add (a b : Int) (ha : a.natAbs < 2 ^ 53) (hb : b.natAbs < 2 ^ 53) (hab : (a + b).natAbs < 2 ^ 53) :
    floatBits .add .f64 (fbits a) (fbits b) = some (fbits (a + b)) := by
  obtain ⟨i, hi, ri⟩ := read_fbits a ha
  obtain ⟨j, hj, rj⟩ := read_fbits b hb
  show double.add _ _ = _
  unfold Format.add
  rw [ri, rj, sum_exact, Option.map_some, write_exact _ _ hab]

theorem fb_sub (a b : Int) (ha : a.natAbs < 2 ^ 53) (hb : b.natAbs < 2 ^ 53) (hab : (a - b).natAbs < 2 ^ 53) :
    floatBits .sub .f64 (fbits a) (fbits b) = some (fbits (a - b)) := by
  obtain ⟨i, hi, ri⟩ := read_fbits a ha
  obtain ⟨j, hj, rj⟩ := read_fbits b hb
  show double.sub _ _ = _
  unfold Format.sub
  rw [ri, rj, sub_exact, Option.map_some, write_exact _ _ hab]

theorem fb_int (a : Int) (ha : a.natAbs < 2 ^ 53) : floatToIntVal .f64 (fbits a) .i64 = some a := by
  obtain ⟨i, hi, ri⟩ := read_fbits a ha
  unfold floatToIntVal FloatKind.decode
  show (match (double.read (fbits a)).toInt .zero with
    | some n => if IntKind.i64.min ≤ n ∧ n ≤ IntKind.i64.max then some n else none
    | none => none) = some a
  rw [ri]
  have h1 : (Datum.number (decide (a < 0)) (a.natAbs * 2 ^ i) (-(i : Int))).toInt .zero = some a := by
    simp only [Datum.toInt, Datum.integral]
    have e1 : (-(i : Int)).toNat = 0 := by omega
    have e2 : (- -(i : Int)).toNat = i := by omega
    rw [e1, e2, Nat.shiftLeft_zero]
    by_cases h0 : a = 0
    · subst h0; simp [cut_exact0, signed]
    · rw [cut_exact _ _ _ _ (by omega)]
      have := signed_of a 0 0
      simp at this
      rw [this]
  rw [h1]
  have hmin : IntKind.i64.min = -9223372036854775808 := by decide
  have hmax : IntKind.i64.max = 9223372036854775807 := by decide
  simp only [hmin, hmax]
  rw [if_pos (by omega)]
end Go.Proofs.Ytbldgpemocnboaa

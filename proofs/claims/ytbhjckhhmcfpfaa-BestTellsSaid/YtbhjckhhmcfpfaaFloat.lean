/- Whole numbers below 2^53 as float64: sums and comparisons are exact. No statement of the seat is proved here. -/
import Ieee.Arith
namespace Go.Proofs.Ytbhjckhhmcfpfaa.Fb
open Ieee

/-- The whole number n as a float64's word. -/
def fb (n : Nat) : Nat := double.nearest false n 0

theorem least : double.leastPlace = -1074 := by decide
theorem fracB : double.fractionBits = 52 := rfl
theorem binB : double.binade = 4503599627370496 := by decide
theorem infB : double.infRung = 9218868437227405312 := by decide
theorem sgnB : double.signWeight = 9223372036854775808 := by decide

theorem cut_zero (m : Nat) : Toward.even.cut false m 0 = m := by
  simp [Toward.cut, Nat.mod_one]
theorem cut_exact (m d : Nat) (hm : 0 < m) : Toward.even.cut false (m * 2 ^ d) d = m := by
  have hl : d ≤ (m * 2 ^ d).log2 + 2 := by
    have h1 : 2 ^ d ≤ m * 2 ^ d := Nat.le_mul_of_pos_left _ hm
    have h2 := (Nat.le_log2 (by have := Nat.two_pow_pos d; exact Nat.mul_ne_zero (by omega) (by omega))).2 h1
    omega
  unfold Toward.cut
  simp only []
  rw [Nat.min_eq_left hl, Nat.one_shiftLeft, Nat.mul_div_cancel _ (Nat.two_pow_pos d), Nat.mul_mod_left]
  have := Nat.two_pow_pos d
  simp

theorem log2_le {n : Nat} (h0 : 0 < n) (h : n < 2 ^ 53) : n.log2 ≤ 52 := by
  have := (Nat.log2_lt (by omega)).2 h
  omega
theorem log2_mul (n k : Nat) (h0 : 0 < n) : (n * 2 ^ k).log2 = n.log2 + k := by
  have h1 := Nat.two_pow_pos k
  rw [Nat.log2_eq_iff (Nat.mul_ne_zero (by omega) (by omega))]
  have h2 := (Nat.log2_eq_iff (show n ≠ 0 by omega)).1 rfl
  constructor
  · rw [Nat.pow_add]; exact Nat.mul_le_mul_right _ h2.1
  · rw [show n.log2 + k + 1 = (n.log2 + 1) + k by omega, Nat.pow_add]; exact Nat.mul_lt_mul_of_pos_right h2.2 h1

/-- The significand. -/
def kept (n : Nat) : Nat := n * 2 ^ (52 - n.log2)
theorem kept_bd {n : Nat} (h0 : 0 < n) (h : n < 2 ^ 53) : 2 ^ 52 ≤ kept n ∧ kept n < 2 ^ 53 := by
  have hl := log2_le h0 h
  have h2 := (Nat.log2_eq_iff (show n ≠ 0 by omega)).1 rfl
  have h1 := Nat.two_pow_pos (52 - n.log2)
  unfold kept
  constructor
  · have := Nat.mul_le_mul_right (2 ^ (52 - n.log2)) h2.1
    rwa [← Nat.pow_add, show n.log2 + (52 - n.log2) = 52 by omega] at this
  · have := Nat.mul_lt_mul_of_pos_right h2.2 h1
    rwa [← Nat.pow_add, show n.log2 + 1 + (52 - n.log2) = 53 by omega] at this

/-- Written from any place below, a whole number has the same word. -/
theorem nearest_place (n k : Nat) (h0 : 0 < n) (h : n < 2 ^ 53) : double.nearest false (n * 2 ^ k) (-(k : Int)) = (n.log2 + 1022) * 4503599627370496 + kept n := by
  have hl := log2_le h0 h
  have hk := kept_bd h0 h
  have hm : n * 2 ^ k ≠ 0 := Nat.mul_ne_zero (by omega) (by have := Nat.two_pow_pos k; omega)
  unfold Format.nearest
  rw [if_neg hm, log2_mul n k h0, least, fracB, binB, infB]
  have hlast : max (-(k : Int) + ((n.log2 + k : Nat) : Int) - ((52 : Nat) : Int)) (-1074) = (n.log2 : Int) - 52 := by omega
  simp only [hlast]
  have hkept : Toward.even.cut false ((n * 2 ^ k) <<< (-(k : Int) - ((n.log2 : Int) - 52)).toNat) ((n.log2 : Int) - 52 - -(k : Int)).toNat = kept n := by
    by_cases hc : k ≤ 52 - n.log2
    · have e1 : (-(k : Int) - ((n.log2 : Int) - 52)).toNat = 52 - n.log2 - k := by omega
      have e2 : ((n.log2 : Int) - 52 - -(k : Int)).toNat = 0 := by omega
      rw [e1, e2, cut_zero, Nat.shiftLeft_eq, Nat.mul_assoc, ← Nat.pow_add]
      unfold kept
      congr 2
      omega
    · have e1 : (-(k : Int) - ((n.log2 : Int) - 52)).toNat = 0 := by omega
      have e2 : ((n.log2 : Int) - 52 - -(k : Int)).toNat = k - (52 - n.log2) := by omega
      rw [e1, e2, Nat.shiftLeft_zero]
      have e3 : n * 2 ^ k = kept n * 2 ^ (k - (52 - n.log2)) := by
        unfold kept
        rw [Nat.mul_assoc, ← Nat.pow_add]
        congr 2
        omega
      rw [e3, cut_exact _ _ (by omega)]
  rw [hkept]
  have e4 : ((n.log2 : Int) - 52 - -1074).toNat = n.log2 + 1022 := by omega
  rw [e4]
  unfold Format.word
  have p52 : 2 ^ 52 = 4503599627370496 := by decide
  have p53 : 2 ^ 53 = 9007199254740992 := by decide
  rw [if_neg (by decide)]
  omega

theorem fb_pos (n : Nat) (h0 : 0 < n) (h : n < 2 ^ 53) : fb n = (n.log2 + 1022) * 4503599627370496 + kept n := by
  have := nearest_place n 0 h0 h
  simpa [fb] using this
theorem nearest_fb (n k : Nat) (h : n < 2 ^ 53) : double.nearest false (n * 2 ^ k) (-(k : Int)) = fb n := by
  by_cases h0 : 0 < n
  · rw [nearest_place n k h0 h, fb_pos n h0 h]
  · obtain rfl : n = 0 := by omega
    simp [fb, Format.nearest]

theorem read_fb (n : Nat) (h0 : 0 < n) (h : n < 2 ^ 53) : double.read (fb n) = .number false (kept n) ((n.log2 : Int) - 52) := by
  have hl := log2_le h0 h
  have hk := kept_bd h0 h
  have p52 : 2 ^ 52 = 4503599627370496 := by decide
  have p53 : 2 ^ 53 = 9007199254740992 := by decide
  rw [fb_pos n h0 h]
  unfold Format.read
  rw [sgnB, binB, infB, least]
  generalize kept n = q at *
  have e1 : ((n.log2 + 1022) * 4503599627370496 + q) / 9223372036854775808 % 2 = 0 := by omega
  have e2 : ((n.log2 + 1022) * 4503599627370496 + q) % 9223372036854775808 = (n.log2 + 1022) * 4503599627370496 + q := by omega
  simp only [e1, e2]
  rw [if_neg (by omega), if_pos (by omega)]
  have e3 : 4503599627370496 + ((n.log2 + 1022) * 4503599627370496 + q) % 4503599627370496 = q := by omega
  have e4 : ((n.log2 + 1022) * 4503599627370496 + q) / 4503599627370496 = n.log2 + 1023 := by omega
  have e5 : (-1074 : Int) + ((n.log2 + 1023 - 1 : Nat) : Int) = (n.log2 : Int) - 52 := by omega
  rw [e3, e4, e5]
  rfl
theorem read_zero : double.read (fb 0) = .number false 0 (-1074) := by
  have h : fb 0 = 0 := by simp [fb, Format.nearest, Format.word]
  rw [h]
  unfold Format.read
  rw [sgnB, binB, infB, least]
  simp

/-- What a whole number's word stands for: n times a power of two, at a place below. -/
theorem read_any (n : Nat) (h : n < 2 ^ 53) : ∃ (m k : Nat), double.read (fb n) = .number false m (-(k : Int)) ∧ m = n * 2 ^ k := by
  by_cases h0 : 0 < n
  · have hl := log2_le h0 h
    exact ⟨kept n, 52 - n.log2, by rw [read_fb n h0 h]; congr 1; omega, rfl⟩
  · obtain rfl : n = 0 := by omega
    obtain ⟨k, hk⟩ : ∃ k : Nat, k = 1074 := ⟨_, rfl⟩
    exact ⟨0, k, by rw [hk]; exact read_zero, by rw [Nat.zero_mul]⟩

theorem signed_up (n k j : Nat) (h : k ≤ j) : signed false (n * 2 ^ k) (-(k : Int) - (-(j : Int))).toNat = ((n * 2 ^ j : Nat) : Int) := by
  have e : (-(k : Int) - (-(j : Int))).toNat = j - k := by omega
  unfold signed
  rw [if_neg (by decide), e, Nat.shiftLeft_eq, Nat.mul_assoc, ← Nat.pow_add, show k + (j - k) = j by omega]

theorem fb_add (a b : Nat) (h : a + b < 2 ^ 53) : double.add (fb a) (fb b) = some (fb (a + b)) := by
  obtain ⟨m, k, h1, rfl⟩ := read_any a (by omega)
  obtain ⟨n, j, h2, rfl⟩ := read_any b (by omega)
  unfold Format.add
  rw [h1, h2]
  unfold Datum.sum
  simp only [Option.map_some, Option.some.injEq]
  have hb : min (-(k : Int)) (-(j : Int)) = -((max k j : Nat) : Int) := by omega
  rw [hb, signed_up a k (max k j) (by omega), signed_up b j (max k j) (by omega)]
  have e : ((a * 2 ^ max k j : Nat) : Int) + ((b * 2 ^ max k j : Nat) : Int) = (((a + b) * 2 ^ max k j : Nat) : Int) := by
    rw [Nat.add_mul]; exact (Int.natCast_add _ _).symm
  rw [e]
  unfold Format.write
  have e2 : (if (((a + b) * 2 ^ max k j : Nat) : Int) = 0 then (false && false) else decide ((((a + b) * 2 ^ max k j : Nat) : Int) < 0)) = false := by
    split
    · rfl
    · exact decide_eq_false (Int.not_lt.2 (Int.natCast_nonneg _))
  simp only [e2, Int.natAbs_natCast]
  exact nearest_fb (a + b) (max k j) h

theorem fb_order (a b : Nat) (ha : a < 2 ^ 53) (hb : b < 2 ^ 53) : double.order (fb a) (fb b) = some (compare a b) := by
  obtain ⟨m, k, h1, rfl⟩ := read_any a ha
  obtain ⟨n, j, h2, rfl⟩ := read_any b hb
  unfold Format.order
  rw [h1, h2]
  unfold Datum.order
  have hb : min (-(k : Int)) (-(j : Int)) = -((max k j : Nat) : Int) := by omega
  simp only [hb]
  rw [signed_up a k (max k j) (by omega), signed_up b j (max k j) (by omega)]
  congr 1
  have hp := Nat.two_pow_pos (max k j)
  generalize 2 ^ max k j = p at *
  rcases Nat.lt_trichotomy a b with h | h | h
  · have : a * p < b * p := Nat.mul_lt_mul_of_pos_right h hp
    rw [Nat.compare_eq_lt.2 h, Int.compare_eq_lt.2 (by omega)]
  · subst h
    simp
  · have : b * p < a * p := Nat.mul_lt_mul_of_pos_right h hp
    rw [Nat.compare_eq_gt.2 h, Int.compare_eq_gt.2 (by omega)]

end Go.Proofs.Ytbhjckhhmcfpfaa.Fb

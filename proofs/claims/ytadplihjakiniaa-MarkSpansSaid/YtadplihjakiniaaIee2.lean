/- Halves: a whole number and a half is no whole number. -/
import Derived.Test.YtadplihjakiniaaMrkA
namespace Go.Proofs.Ytadplihjakiniaa
open Go.RowKit Ieee

theorem read_rung2 (s : Bool) (q m : Nat) (hq : q ≤ 1000) (h1 : 4503599627370496 ≤ m) (h2 : m < 9007199254740992) :
    double.read (double.word s ((1074 - q) * 4503599627370496 + m)) = .number s m (-(q : Int)) := by
  obtain ⟨r, hr⟩ : ∃ r, (1074 - q) * 4503599627370496 + m = r := ⟨_, rfl⟩
  have hlt : r < 9223372036854775808 := by omega
  unfold Format.read Format.word
  simp only [d_binade, d_inf, d_sign, d_least]
  rw [hr, word_mod s r hlt, word_div s r hlt, if_neg (by omega), if_pos (by omega)]
  have e1 : 4503599627370496 + r % 4503599627370496 = m := by omega
  have e2 : (-1074 : Int) + ((r / 4503599627370496 - 1 : Nat) : Int) = -(q : Int) := by omega
  rw [e1, e2]

theorem read_half (s : Bool) (n k : Nat) (h0 : 0 < n) (hn : n < 9007199254740992) :
    double.read (double.nearest s (n * 2 ^ k) (-((k + 1 : Nat) : Int))) = .number s (n * 2 ^ (52 - n.log2)) (-((52 - n.log2 + 1 : Nat) : Int)) := by
  have hl := log2_lt53 h0 hn
  have hm0 : n * 2 ^ k ≠ 0 := Nat.ne_of_gt (Nat.mul_pos h0 (Nat.two_pow_pos k))
  have hlg := log2_shift n k h0
  obtain ⟨q, hq⟩ : ∃ q, 52 - n.log2 = q := ⟨_, rfl⟩
  have hlast : max (-((k + 1 : Nat) : Int) + ((n * 2 ^ k).log2 : Int) - (double.fractionBits : Int)) double.leastPlace = -((q + 1 : Nat) : Int) := by
    rw [d_least, d_frac, hlg]; omega
  have hkept : Toward.even.cut s ((n * 2 ^ k) <<< (-((k + 1 : Nat) : Int) - -((q + 1 : Nat) : Int)).toNat) (-((q + 1 : Nat) : Int) - -((k + 1 : Nat) : Int)).toNat = n * 2 ^ q := by
    by_cases hkq : k ≤ q
    · rw [show (-((k + 1 : Nat) : Int) - -((q + 1 : Nat) : Int)).toNat = q - k by omega, show (-((q + 1 : Nat) : Int) - -((k + 1 : Nat) : Int)).toNat = 0 by omega, Nat.shiftLeft_eq, Nat.mul_assoc, ← Nat.pow_add, show k + (q - k) = q by omega]
      have := cut_exact s (n * 2 ^ q) 0 (Nat.mul_pos h0 (Nat.two_pow_pos q))
      rwa [Nat.pow_zero, Nat.mul_one] at this
    · rw [show (-((k + 1 : Nat) : Int) - -((q + 1 : Nat) : Int)).toNat = 0 by omega, show (-((q + 1 : Nat) : Int) - -((k + 1 : Nat) : Int)).toNat = k - q by omega, Nat.shiftLeft_zero]
      have := cut_exact s (n * 2 ^ q) (k - q) (Nat.mul_pos h0 (Nat.two_pow_pos q))
      rwa [Nat.mul_assoc, ← Nat.pow_add, show q + (k - q) = k by omega] at this
  have hlo : 2 ^ 52 ≤ n * 2 ^ q := by
    have := Nat.mul_le_mul_right (2 ^ q) (Nat.log2_self_le (show n ≠ 0 by omega))
    rwa [← Nat.pow_add, show n.log2 + q = 52 by omega] at this
  have hhi : n * 2 ^ q < 2 ^ 53 := by
    have := (Nat.mul_lt_mul_right (Nat.two_pow_pos q)).2 (Nat.lt_log2_self (n := n))
    rwa [← Nat.pow_add, show n.log2 + 1 + q = 53 by omega] at this
  have hlo' : 4503599627370496 ≤ n * 2 ^ q := hlo
  have hhi' : n * 2 ^ q < 9007199254740992 := hhi
  clear hlo hhi
  have hr1 : (1074 - (q + 1)) * 4503599627370496 + n * 2 ^ q ≤ 9218868437227405312 := by omega
  have hw : double.nearest s (n * 2 ^ k) (-((k + 1 : Nat) : Int)) = double.word s ((1074 - (q + 1)) * 4503599627370496 + n * 2 ^ q) := by
    unfold Format.nearest
    rw [if_neg hm0]
    simp only [hlast, hkept]
    simp only [d_least, d_binade, d_inf]
    rw [show (-((q + 1 : Nat) : Int) - -1074).toNat = 1074 - (q + 1) by omega, Nat.min_eq_left hr1]
  rw [hw, hq]
  exact read_rung2 s (q + 1) (n * 2 ^ q) (by omega) hlo' hhi'

theorem half_read : double.read 4602678819172646912 = .number false 4503599627370496 (-53) := by decide
theorem half_not {x : Nat} {n : Nat} (h : Val x n) (hn : n ≤ 1099511627776) : ∃ z, double.add x 4602678819172646912 = some z ∧ ¬ Whole z := by
  obtain ⟨s, m, i, hr, hi, ha⟩ := h
  unfold Format.add
  rw [hr, half_read]
  refine ⟨_, rfl, ?_⟩
  show ¬ Whole (double.nearest _ _ _)
  obtain ⟨p, rfl⟩ : ∃ p : Nat, i = -(p : Int) := ⟨(-i).toNat, by omega⟩
  obtain ⟨k, hk⟩ : ∃ k : Nat, max p 53 = k + 1 := ⟨max p 53 - 1, by omega⟩
  have hb1 : min (-(p : Int)) (-53) = -((k + 1 : Nat) : Int) := by omega
  have ht : signed s m (-(p : Int) - min (-(p : Int)) (-53)).toNat + signed false 4503599627370496 ((-53 : Int) - min (-(p : Int)) (-53)).toNat = ((2 * n + 1) * 2 ^ k : Nat) := by
    rw [signed_shift s m, ha, hb1, Int.mul_assoc, ← Int.pow_add, show (- -(p : Int)).toNat + (-(p : Int) - -((k + 1 : Nat) : Int)).toNat = k + 1 by omega]
    have h2 : signed false 4503599627370496 ((-53 : Int) - -((k + 1 : Nat) : Int)).toNat = 2 ^ k := by
      rw [signed_shift, signed_zero]
      have : ((-53 : Int) - -((k + 1 : Nat) : Int)).toNat = k - 52 := by omega
      rw [this]
      have h3 : (4503599627370496 : Int) = 2 ^ 52 := by decide
      show (4503599627370496 : Int) * 2 ^ (k - 52) = 2 ^ k
      rw [h3, ← Int.pow_add, show 52 + (k - 52) = k by omega]
    rw [h2, Int.pow_succ]
    push_cast
    rw [Int.add_mul, Int.one_mul]
    congr 1
    rw [Int.mul_comm ((2 : Int) ^ k) 2, ← Int.mul_assoc, Int.mul_comm (n : Int) 2]
  rw [ht, hb1]
  have hpos : 0 < (2 * n + 1) * 2 ^ k := Nat.mul_pos (by omega) (Nat.two_pow_pos k)
  generalize hT : (2 * n + 1) * 2 ^ k = T at *
  have hne : ¬ ((T : Int) = 0) := by omega
  have hnl : ¬ ((T : Int) < 0) := by omega
  rw [if_neg hne]
  simp only [hnl, decide_false, Int.natAbs_natCast]
  rw [← hT]
  rintro ⟨w, _, s', m', e', hr', _, hv⟩
  rw [read_half false (2 * n + 1) k (by omega) (by omega)] at hr'
  injection hr' with a b c
  subst a; subst b; subst c
  rw [signed_zero] at hv
  generalize 52 - (2 * n + 1).log2 = q at hv
  rw [show (- -((q + 1 : Nat) : Int)).toNat = q + 1 by omega] at hv
  have hv2 : (2 * n + 1) * 2 ^ q = w * 2 ^ (q + 1) := by
    have := hv
    simp only [Bool.false_eq_true, if_false] at this
    exact_mod_cast this
  rw [Nat.pow_succ, Nat.mul_comm (2 ^ q) 2, ← Nat.mul_assoc] at hv2
  have := Nat.eq_of_mul_eq_mul_right (Nat.two_pow_pos q) hv2
  omega

end Go.Proofs.Ytadplihjakiniaa

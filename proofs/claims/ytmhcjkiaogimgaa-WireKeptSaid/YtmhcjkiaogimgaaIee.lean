/- Whole numbers as binary floating point: what the operations come to. Plain lemmas on words and numbers; no program. -/
import Derived.WalkLawsBesides
namespace Go.Proofs.Ytmhcjkiaogimgaa
open Ieee

theorem d_binade : double.binade = 4503599627370496 := by decide
theorem d_inf : double.infRung = 9218868437227405312 := by decide
theorem d_sign : double.signWeight = 9223372036854775808 := by decide
theorem d_least : double.leastPlace = -1074 := by decide
theorem d_frac : double.fractionBits = 52 := rfl

theorem log2_shift (n k : Nat) (hn : 0 < n) : (n * 2 ^ k).log2 = n.log2 + k := by
  have h0 : n * 2 ^ k ≠ 0 := Nat.ne_of_gt (Nat.mul_pos hn (Nat.two_pow_pos k))
  refine (Nat.log2_eq_iff h0).2 ⟨?_, ?_⟩
  · rw [Nat.pow_add]; exact Nat.mul_le_mul_right _ (Nat.log2_self_le (by omega))
  · rw [show n.log2 + k + 1 = (n.log2 + 1) + k by omega, Nat.pow_add]
    exact (Nat.mul_lt_mul_right (Nat.two_pow_pos k)).2 Nat.lt_log2_self

theorem cut_exact (neg : Bool) (a d : Nat) (ha : 0 < a) : Toward.even.cut neg (a * 2 ^ d) d = a := by
  have hl := log2_shift a d ha
  have hm : min d ((a * 2 ^ d).log2 + 2) = d := by rw [hl]; omega
  have hp := Nat.two_pow_pos d
  unfold Toward.cut
  simp only [hm, Nat.one_shiftLeft, Nat.mul_mod_left, Nat.mul_zero]
  rw [Nat.mul_div_cancel _ hp]
  have h1 : decide (2 ^ d < 0) = false := by simp
  have h2 : (2 ^ d == 0) = false := by rw [beq_eq_false_iff_ne]; omega
  simp [h2]

theorem log2_lt53 {n : Nat} (h0 : 0 < n) (hn : n < 9007199254740992) : n.log2 ≤ 52 := by
  have := (Nat.log2_lt (show n ≠ 0 by omega) (k := 53)).2 (by omega)
  omega

theorem word_mod (s : Bool) (r : Nat) (h : r < 9223372036854775808) : (if s = true then 9223372036854775808 + r else r) % 9223372036854775808 = r := by
  cases s
  · simp only [Bool.false_eq_true, if_false]; exact Nat.mod_eq_of_lt h
  · simp only [if_true]; rw [Nat.add_mod_left]; exact Nat.mod_eq_of_lt h
theorem word_div (s : Bool) (r : Nat) (h : r < 9223372036854775808) : ((if s = true then 9223372036854775808 + r else r) / 9223372036854775808 % 2 == 1) = s := by
  cases s
  · simp only [Bool.false_eq_true, if_false]; rw [Nat.div_eq_of_lt h]; rfl
  · simp only [if_true]; rw [Nat.add_div_left _ (by omega), Nat.div_eq_of_lt h]; rfl
/-- A normal number's word is read as it says. -/
theorem read_rung (s : Bool) (q m : Nat) (hq : q ≤ 52) (h1 : 4503599627370496 ≤ m) (h2 : m < 9007199254740992) :
    double.read (double.word s ((1074 - q) * 4503599627370496 + m)) = .number s m (-(q : Int)) := by
  obtain ⟨r, hr⟩ : ∃ r, (1074 - q) * 4503599627370496 + m = r := ⟨_, rfl⟩
  have hlt : r < 9223372036854775808 := by omega
  unfold Format.read Format.word
  simp only [d_binade, d_inf, d_sign, d_least]
  rw [hr, word_mod s r hlt, word_div s r hlt, if_neg (by omega), if_pos (by omega)]
  have e1 : 4503599627370496 + r % 4503599627370496 = m := by omega
  have e2 : (-1074 : Int) + ((r / 4503599627370496 - 1 : Nat) : Int) = -(q : Int) := by omega
  rw [e1, e2]

/-- A whole number of at most 53 digits, written at any place, is read as it is. -/
theorem read_nearest (s : Bool) (n k : Nat) (h0 : 0 < n) (hn : n < 9007199254740992) :
    double.read (double.nearest s (n * 2 ^ k) (-(k : Int))) = .number s (n * 2 ^ (52 - n.log2)) (-((52 - n.log2 : Nat) : Int)) := by
  have hl := log2_lt53 h0 hn
  have hm0 : n * 2 ^ k ≠ 0 := Nat.ne_of_gt (Nat.mul_pos h0 (Nat.two_pow_pos k))
  have hlg := log2_shift n k h0
  obtain ⟨q, hq⟩ : ∃ q, 52 - n.log2 = q := ⟨_, rfl⟩
  have hlast : max (-(k : Int) + ((n * 2 ^ k).log2 : Int) - (double.fractionBits : Int)) double.leastPlace = -(q : Int) := by
    rw [d_least, d_frac, hlg]; omega
  have hkept : Toward.even.cut s ((n * 2 ^ k) <<< (-(k : Int) - -(q : Int)).toNat) (-(q : Int) - -(k : Int)).toNat = n * 2 ^ q := by
    by_cases hkq : k ≤ q
    · rw [show (-(k : Int) - -(q : Int)).toNat = q - k by omega, show (-(q : Int) - -(k : Int)).toNat = 0 by omega, Nat.shiftLeft_eq, Nat.mul_assoc, ← Nat.pow_add, show k + (q - k) = q by omega]
      have := cut_exact s (n * 2 ^ q) 0 (Nat.mul_pos h0 (Nat.two_pow_pos q))
      rwa [Nat.pow_zero, Nat.mul_one] at this
    · rw [show (-(k : Int) - -(q : Int)).toNat = 0 by omega, show (-(q : Int) - -(k : Int)).toNat = k - q by omega, Nat.shiftLeft_zero]
      have := cut_exact s (n * 2 ^ q) (k - q) (Nat.mul_pos h0 (Nat.two_pow_pos q))
      rwa [Nat.mul_assoc, ← Nat.pow_add, show q + (k - q) = k by omega] at this
  have hlo : 2 ^ 52 ≤ n * 2 ^ q := by
    have := Nat.mul_le_mul_right (2 ^ q) (Nat.log2_self_le (show n ≠ 0 by omega))
    rwa [← Nat.pow_add, show n.log2 + q = 52 by omega] at this
  have hhi : n * 2 ^ q < 2 ^ 53 := by
    have := (Nat.mul_lt_mul_right (Nat.two_pow_pos q)).2 (Nat.lt_log2_self (n := n))
    rwa [← Nat.pow_add, show n.log2 + 1 + q = 53 by omega] at this
  have hlo' : 4503599627370496 ≤ n * 2 ^ q := hlo
  have hhi' : n * 2 ^ q < 9007199254740992 := hhi
  clear hlo hhi
  have hr1 : (1074 - q) * 4503599627370496 + n * 2 ^ q ≤ 9218868437227405312 := by omega
  have hw : double.nearest s (n * 2 ^ k) (-(k : Int)) = double.word s ((1074 - q) * 4503599627370496 + n * 2 ^ q) := by
    unfold Format.nearest
    rw [if_neg hm0]
    simp only [hlast, hkept]
    simp only [d_least, d_binade, d_inf]
    rw [show (-(q : Int) - -1074).toNat = 1074 - q by omega, Nat.min_eq_left hr1]
  rw [hw, hq]
  exact read_rung s q (n * 2 ^ q) (by omega) hlo' hhi'

theorem read_zero (s : Bool) (e : Int) : double.read (double.nearest s 0 e) = .number s 0 (-1074) := by
  have h : double.nearest s 0 e = double.word s 0 := by unfold Format.nearest; rw [if_pos rfl]
  rw [h]
  cases s <;> rfl

/-- A word that stands for a whole number. -/
def Val (x : Nat) (z : Int) : Prop := ∃ s m e, double.read x = .number s m e ∧ e ≤ 0 ∧ signed s m 0 = z * 2 ^ (-e).toNat

theorem signed_zero (s : Bool) (m : Nat) : signed s m 0 = if s then -(m : Int) else m := by unfold signed; simp
theorem signed_shift (s : Bool) (m k : Nat) : signed s m k = signed s m 0 * 2 ^ k := by
  unfold signed
  cases s <;> simp [Nat.shiftLeft_eq, Int.neg_mul]

theorem val_write {s : Bool} {m : Nat} {e z : Int} (he : e ≤ 0) (hz : signed s m 0 = z * 2 ^ (-e).toNat) (h : z.natAbs < 9007199254740992) : Val (double.nearest s m e) z := by
  obtain ⟨k, rfl⟩ : ∃ k : Nat, e = -(k : Int) := ⟨(-e).toNat, by omega⟩
  rw [show (- -(k : Int)).toNat = k by omega] at hz
  have hm : m = z.natAbs * 2 ^ k := by
    have h1 := congrArg Int.natAbs hz
    rw [Int.natAbs_mul, Int.natAbs_pow] at h1
    have h2 : (signed s m 0).natAbs = m := by rw [signed_zero]; cases s <;> simp
    rw [h2] at h1
    exact h1
  by_cases h0 : z = 0
  · subst h0
    obtain rfl : m = 0 := by simpa using hm
    exact ⟨s, 0, -1074, read_zero s _, by omega, by rw [signed_zero, Int.zero_mul]; cases s <;> rfl⟩
  · have hpos : 0 < z.natAbs := by omega
    refine ⟨s, _, _, by rw [hm]; exact read_nearest s z.natAbs k hpos h, by omega, ?_⟩
    have hs : signed s z.natAbs 0 = z := by
      rw [signed_zero]
      rw [signed_zero, hm] at hz
      have hp : (0 : Int) < 2 ^ k := Int.pow_pos (by omega)
      cases s
      · simp only [Bool.false_eq_true, if_false] at hz ⊢
        have : (z.natAbs : Int) * 2 ^ k = z * 2 ^ k := by rw [← hz]; simp
        exact Int.eq_of_mul_eq_mul_right (by omega) this
      · simp only [if_true] at hz ⊢
        have : -(z.natAbs : Int) * 2 ^ k = z * 2 ^ k := by rw [← hz]; simp [Int.neg_mul]
        exact Int.eq_of_mul_eq_mul_right (by omega) this
    rw [show (- -((52 - z.natAbs.log2 : Nat) : Int)).toNat = 52 - z.natAbs.log2 by omega]
    conv => rhs; rw [← hs]
    rw [signed_zero, signed_zero]
    cases s <;> simp [Int.neg_mul]

theorem val_nearest (z : Int) (h : z.natAbs < 9007199254740992) : Val (FloatKind.f64.nearest z) z := by
  unfold FloatKind.nearest FloatKind.encode
  refine val_write (e := 0) (by omega) ?_ h
  rw [signed_zero]
  by_cases hz : z < 0 <;> simp [hz] <;> omega

theorem cmp_lt {a b : Int} (h : a < b) : compare a b = .lt := by show compareOfLessAndEq a b = _; unfold compareOfLessAndEq; rw [if_pos h]
theorem cmp_eq (a : Int) : compare a a = .eq := by show compareOfLessAndEq a a = _; unfold compareOfLessAndEq; rw [if_neg (by omega), if_pos rfl]
theorem cmp_gt {a b : Int} (h : b < a) : compare a b = .gt := by show compareOfLessAndEq a b = _; unfold compareOfLessAndEq; rw [if_neg (by omega), if_neg (by omega)]
theorem cmp_scale (a b : Int) {c : Int} (h : 0 < c) : compare (a * c) (b * c) = compare a b := by
  rcases Int.lt_trichotomy a b with h1 | h1 | h1
  · rw [cmp_lt h1]; exact cmp_lt (Int.mul_lt_mul_of_pos_right h1 h)
  · subst h1; rw [cmp_eq, cmp_eq]
  · rw [cmp_gt h1]; exact cmp_gt (Int.mul_lt_mul_of_pos_right h1 h)

theorem val_order {x y : Nat} {a b : Int} (hx : Val x a) (hy : Val y b) : double.order x y = some (compare a b) := by
  obtain ⟨s, m, i, rx, hi, ha⟩ := hx
  obtain ⟨t, n, j, ry, hj, hb⟩ := hy
  unfold Format.order
  rw [rx, ry]
  simp only [Datum.order]
  rw [signed_shift s m, signed_shift t n, ha, hb]
  obtain ⟨p, rfl⟩ : ∃ p : Nat, i = -(p : Int) := ⟨(-i).toNat, by omega⟩
  obtain ⟨q, rfl⟩ : ∃ q : Nat, j = -(q : Int) := ⟨(-j).toNat, by omega⟩
  rw [Int.mul_assoc, Int.mul_assoc, ← Int.pow_add, ← Int.pow_add]
  obtain ⟨r, hr⟩ : ∃ r : Nat, max p q = r := ⟨_, rfl⟩
  rw [show (- -(p : Int)).toNat + (-(p : Int) - min (-(p : Int)) (-(q : Int))).toNat = r by omega, show (- -(q : Int)).toNat + (-(q : Int) - min (-(p : Int)) (-(q : Int))).toNat = r by omega]
  have hp : (0 : Int) < 2 ^ r := Int.pow_pos (by omega)
  rw [cmp_scale a b hp]

theorem val_unique {x : Nat} {a b : Int} (ha : Val x a) (hb : Val x b) : a = b := by
  have h1 := val_order ha hb
  have h2 := val_order ha ha
  rw [h1, cmp_eq] at h2
  injection h2 with h2
  rcases Int.lt_trichotomy a b with h | h | h
  · rw [cmp_lt h] at h2; cases h2
  · exact h
  · rw [cmp_gt h] at h2; cases h2

theorem sum_val {s t : Bool} {m n : Nat} {i j a b : Int} (hi : i ≤ 0) (hj : j ≤ 0) (ha : signed s m 0 = a * 2 ^ (-i).toNat) (hb : signed t n 0 = b * 2 ^ (-j).toNat) (h : (a + b).natAbs < 9007199254740992) :
    ∃ z, ((Datum.number s m i).sum (Datum.number t n j)).map double.write = some z ∧ Val z (a + b) := by
  refine ⟨_, rfl, ?_⟩
  show Val (double.nearest _ _ _) _
  obtain ⟨p, rfl⟩ : ∃ p : Nat, i = -(p : Int) := ⟨(-i).toNat, by omega⟩
  obtain ⟨q, rfl⟩ : ∃ q : Nat, j = -(q : Int) := ⟨(-j).toNat, by omega⟩
  obtain ⟨r, hr⟩ : ∃ r : Nat, max p q = r := ⟨_, rfl⟩
  have hb1 : min (-(p : Int)) (-(q : Int)) = -(r : Int) := by omega
  have ht : signed s m (-(p : Int) - min (-(p : Int)) (-(q : Int))).toNat + signed t n (-(q : Int) - min (-(p : Int)) (-(q : Int))).toNat = (a + b) * 2 ^ r := by
    rw [signed_shift s m, signed_shift t n, ha, hb, Int.mul_assoc, Int.mul_assoc, ← Int.pow_add, ← Int.pow_add,
      show (- -(p : Int)).toNat + (-(p : Int) - min (-(p : Int)) (-(q : Int))).toNat = r by omega, show (- -(q : Int)).toNat + (-(q : Int) - min (-(p : Int)) (-(q : Int))).toNat = r by omega, ← Int.add_mul]
  rw [ht, hb1]
  refine val_write (by omega) ?_ h
  rw [show (- -(r : Int)).toNat = r by omega, signed_zero]
  generalize (a + b) * 2 ^ r = T
  by_cases h0 : T = 0
  · subst h0; simp
  · rw [if_neg h0]
    by_cases hn : T < 0 <;> simp [hn] <;> omega

theorem val_add {x y : Nat} {a b : Int} (hx : Val x a) (hy : Val y b) (h : (a + b).natAbs < 9007199254740992) : ∃ z, double.add x y = some z ∧ Val z (a + b) := by
  obtain ⟨s, m, i, rx, hi, ha⟩ := hx
  obtain ⟨t, n, j, ry, hj, hb⟩ := hy
  unfold Format.add
  rw [rx, ry]
  exact sum_val hi hj ha hb h
theorem val_sub {x y : Nat} {a b : Int} (hx : Val x a) (hy : Val y b) (h : (a - b).natAbs < 9007199254740992) : ∃ z, double.sub x y = some z ∧ Val z (a - b) := by
  obtain ⟨s, m, i, rx, hi, ha⟩ := hx
  obtain ⟨t, n, j, ry, hj, hb⟩ := hy
  unfold Format.sub
  rw [rx, ry]
  have hb' : signed (!t) n 0 = (-b) * 2 ^ (-j).toNat := by
    rw [signed_zero] at hb ⊢
    rw [Int.neg_mul, ← hb]
    cases t <;> simp
  have := sum_val hi hj ha hb' (by rwa [← Int.sub_eq_add_neg])
  rwa [← Int.sub_eq_add_neg] at this

theorem cut_zero (s : Bool) (m k : Nat) : Toward.zero.cut s m k = m / 2 ^ k := by
  unfold Toward.cut
  simp only [Nat.one_shiftLeft, Bool.toNat_false, Nat.add_zero]
  by_cases h : k ≤ m.log2 + 2
  · rw [Nat.min_eq_left h]
  · rw [Nat.min_eq_right (by omega)]
    have h1 : m < 2 ^ (m.log2 + 2) := Nat.lt_of_lt_of_le Nat.lt_log2_self (Nat.pow_le_pow_right (by omega) (by omega))
    have h2 : m < 2 ^ k := Nat.lt_of_lt_of_le h1 (Nat.pow_le_pow_right (by omega) (by omega))
    rw [Nat.div_eq_of_lt h1, Nat.div_eq_of_lt h2]

/-- A word in a mark's range: what it stands for; t: its whole part. -/
structure InR (x t : Nat) : Prop where
  rd : ∃ (s : Bool) (m k : Nat), double.read x = .number s m (-(k : Int)) ∧ (s = true → m = 0) ∧ t = m / 2 ^ k
  le : t ≤ 1099511627776

theorem InR.integral {x t : Nat} (h : InR x t) : ∃ s, (s = true → t = 0) ∧ (double.read x).integral .zero = .number s t 0 := by
  obtain ⟨s, m, k, hr, hs, ht⟩ := h.rd
  refine ⟨s, fun e => by rw [ht, hs e]; simp, ?_⟩
  rw [hr]
  simp only [Datum.integral]
  rw [show (-(k : Int)).toNat = 0 by omega, show (- -(k : Int)).toNat = k by omega, Nat.shiftLeft_zero, cut_zero, ht]
theorem InR.toInt {x t : Nat} (h : InR x t) : (double.read x).toInt .zero = some (t : Int) := by
  obtain ⟨s, hs, hi⟩ := h.integral
  unfold Datum.toInt
  rw [hi]
  simp only [signed_zero]
  cases s
  · simp
  · simp [hs rfl]
theorem InR.trunc {x t : Nat} (h : InR x t) : Val (double.write ((double.read x).integral .zero)) t := by
  obtain ⟨s, hs, hi⟩ := h.integral
  rw [hi]
  refine val_write (e := 0) (by omega) ?_ (by have := h.le; omega)
  rw [signed_zero]
  cases s
  · simp
  · simp [hs rfl]
/-- Against its whole part a word in range is equal just if it is whole. -/
theorem InR.eq {x t y : Nat} (h : InR x t) (hy : Val y t) : (double.order y x = some .eq) ↔ Val x t := by
  constructor
  · intro ho
    obtain ⟨s, m, k, hr, hs, ht⟩ := h.rd
    refine ⟨s, m, _, hr, by omega, ?_⟩
    obtain ⟨u, n, j, ry, hj, hb⟩ := hy
    unfold Format.order at ho
    rw [hr, ry] at ho
    simp only [Datum.order] at ho
    injection ho with ho
    rw [signed_shift u n, signed_shift s m, hb] at ho
    obtain ⟨q, rfl⟩ : ∃ q : Nat, j = -(q : Int) := ⟨(-j).toNat, by omega⟩
    rw [Int.mul_assoc, ← Int.pow_add] at ho
    obtain ⟨r, hr2⟩ : ∃ r : Nat, max q k = r := ⟨_, rfl⟩
    rw [show (- -(q : Int)).toNat + (-(q : Int) - min (-(q : Int)) (-(k : Int))).toNat = k + (r - k) by omega, show (-(k : Int) - min (-(q : Int)) (-(k : Int))).toNat = r - k by omega, Int.pow_add, ← Int.mul_assoc] at ho
    have hp : (0 : Int) < 2 ^ (r - k) := Int.pow_pos (by omega)
    rw [cmp_scale _ _ hp] at ho
    rw [show (- -(k : Int)).toNat = k by omega]
    rcases Int.lt_trichotomy ((t : Int) * 2 ^ k) (signed s m 0) with h | h | h
    · rw [cmp_lt h] at ho; cases ho
    · exact h.symm
    · rw [cmp_gt h] at ho; cases ho
  · intro hx
    rw [val_order hy hx, cmp_eq]

theorem val_inR {x : Nat} {n : Nat} (h : Val x n) (hn : n ≤ 1099511627776) : InR x n := by
  obtain ⟨s, m, e, hr, he, hz⟩ := h
  obtain ⟨k, rfl⟩ : ∃ k : Nat, e = -(k : Int) := ⟨(-e).toNat, by omega⟩
  rw [show (- -(k : Int)).toNat = k by omega, signed_zero] at hz
  have hp : 0 < 2 ^ k := Nat.two_pow_pos k
  have hc : ((n * 2 ^ k : Nat) : Int) = (n : Int) * 2 ^ k := by simp
  have hm : m = n * 2 ^ k ∧ (s = true → m = 0) := by
    cases s
    · simp only [Bool.false_eq_true, if_false] at hz
      exact ⟨by omega, fun h => by cases h⟩
    · simp only [if_true] at hz
      omega
  exact ⟨⟨s, m, k, hr, hm.2, by rw [hm.1, Nat.mul_div_cancel _ hp]⟩, hn⟩

/-- A normal number at a place above 0 is great. -/
theorem read_place {x : Nat} {s : Bool} {m : Nat} {e : Int} (h : double.read x = .number s m e) : e ≤ 0 ∨ 4503599627370496 ≤ m := by
  unfold Format.read at h
  simp only [d_binade, d_inf, d_sign, d_least] at h
  split at h
  · injection h with _ _ h; omega
  · split at h
    · injection h with _ h _; omega
    · split at h <;> cases h

theorem val_zero : Val 0 0 := ⟨false, 0, -1074, by decide, by omega, by rw [signed_zero, Int.zero_mul]; rfl⟩
theorem max_bits : FloatKind.f64.nearest 1099511627776 = 4787326403894837248 := by decide
theorem val_max : Val 4787326403894837248 1099511627776 := by rw [← max_bits]; exact val_nearest _ (by omega)

/-- From 0 to MaxMark. -/
theorem range_inR {x : Nat} (h0 : double.order x 0 = some .gt ∨ double.order x 0 = some .eq) (h1 : double.order x 4787326403894837248 = some .lt ∨ double.order x 4787326403894837248 = some .eq) : ∃ t, InR x t := by
  have r0 : double.read 0 = .number false 0 (-1074) := by decide
  obtain ⟨u, b, j, rb, hj, hb⟩ := val_max
  unfold Format.order at h0 h1
  rw [r0] at h0
  rw [rb] at h1
  cases hr : double.read x with
  | nan s f => rw [hr] at h0; simp [Datum.order] at h0
  | infinity s =>
    rw [hr] at h0 h1
    cases s
    · simp [Datum.order] at h1
    · simp [Datum.order] at h0
  | number s m e =>
    rw [hr] at h0 h1
    simp only [Datum.order, Option.some.injEq] at h0 h1
    have hs : s = true → m = 0 := by
      intro hs
      subst hs
      rw [signed_shift true m, signed_zero, signed_shift false 0, signed_zero] at h0
      obtain ⟨r, hr2⟩ : ∃ r : Int, r = 2 ^ (e - min e (-1074)).toNat := ⟨_, rfl⟩
      rw [← hr2] at h0
      have hp : (0 : Int) < r := by rw [hr2]; exact Int.pow_pos (by omega)
      simp only [if_true, Bool.false_eq_true, if_false, Int.natCast_zero, Int.zero_mul] at h0
      by_cases hm : m = 0
      · exact hm
      · exfalso
        have : -(m : Int) * r < 0 := by rw [Int.neg_mul]; have := Int.mul_pos (show (0 : Int) < m by omega) hp; omega
        rw [cmp_lt this] at h0
        rcases h0 with h0 | h0 <;> cases h0
    have hle : signed s m (e - min e j).toNat ≤ signed u b (j - min e j).toNat := by
      rcases Int.lt_or_le (signed u b (j - min e j).toNat) (signed s m (e - min e j).toNat) with h | h
      · rw [cmp_gt h] at h1
        rcases h1 with h1 | h1 <;> cases h1
      · exact h
    rw [signed_shift s m, signed_shift u b, hb, Int.mul_assoc, ← Int.pow_add, signed_zero] at hle
    have hm0 : (if s = true then -(m : Int) else m) = m := by
      cases s
      · rfl
      · rw [hs rfl]; rfl
    rw [hm0] at hle
    rcases Int.lt_or_le 0 e with he | he
    · exfalso
      have hpl := read_place hr
      have hm : 4503599627370496 ≤ m := by omega
      rw [show min e j = j by omega] at hle
      rw [show (-j).toNat + (j - j).toNat = (-j).toNat by omega, show (e - j).toNat = e.toNat + (-j).toNat by omega, Int.pow_add, ← Int.mul_assoc] at hle
      have hp : (0 : Int) < 2 ^ (-j).toNat := Int.pow_pos (by omega)
      have h2 := Int.le_of_mul_le_mul_right hle hp
      have h3 : (1 : Int) ≤ 2 ^ e.toNat := by have : (0 : Int) < 2 ^ e.toNat := Int.pow_pos (by omega); omega
      have h4 : (m : Int) * 1 ≤ (m : Int) * 2 ^ e.toNat := Int.mul_le_mul_of_nonneg_left h3 (by omega)
      omega
    · obtain ⟨k, rfl⟩ : ∃ k : Nat, e = -(k : Int) := ⟨(-e).toNat, by omega⟩
      obtain ⟨q, rfl⟩ : ∃ q : Nat, j = -(q : Int) := ⟨(-j).toNat, by omega⟩
      obtain ⟨r, hr2⟩ : ∃ r : Nat, max q k = r := ⟨_, rfl⟩
      rw [show (- -(q : Int)).toNat + (-(q : Int) - min (-(k : Int)) (-(q : Int))).toNat = k + (r - k) by omega, show (-(k : Int) - min (-(k : Int)) (-(q : Int))).toNat = r - k by omega, Int.pow_add, ← Int.mul_assoc] at hle
      have hp : (0 : Int) < 2 ^ (r - k) := Int.pow_pos (by omega)
      have h2 := Int.le_of_mul_le_mul_right hle hp
      have h3 : m ≤ 1099511627776 * 2 ^ k := by
        have hc : ((1099511627776 * 2 ^ k : Nat) : Int) = (1099511627776 : Int) * 2 ^ k := by simp
        omega
      refine ⟨m / 2 ^ k, ⟨s, m, k, hr, hs, rfl⟩, ?_⟩
      exact Nat.div_le_of_le_mul (by rw [Nat.mul_comm]; exact h3)

theorem read_word_number (s : Bool) (r : Nat) (h : r < 9218868437227405312) : ∃ t m e, double.read (double.word s r) = .number t m e := by
  unfold Format.read Format.word
  simp only [d_binade, d_inf, d_sign, d_least]
  rw [word_mod s r (by omega), word_div s r (by omega)]
  by_cases h1 : r < 4503599627370496
  · rw [if_pos h1]; exact ⟨_, _, _, rfl⟩
  · rw [if_neg h1, if_pos h]; exact ⟨_, _, _, rfl⟩
theorem cut_le (s : Bool) (n d : Nat) (hd : d ≤ n.log2 + 2) : Toward.even.cut s n d ≤ n / 2 ^ d + 1 := by
  unfold Toward.cut
  simp only [Nat.min_eq_left hd, Nat.one_shiftLeft]
  have : ∀ b : Bool, b.toNat ≤ 1 := by intro b; cases b <;> simp
  exact Nat.add_le_add_left (this _) _
/-- Any integer of 64 bits is read as a number. -/
theorem read_int (z : Int) (h : z.natAbs ≤ 9223372036854775808) : ∃ s m e, double.read (FloatKind.f64.nearest z) = .number s m e := by
  show ∃ s m e, double.read (double.nearest (decide (z < 0)) z.natAbs 0) = .number s m e
  generalize decide (z < 0) = b
  generalize z.natAbs = n at *
  by_cases h0 : n = 0
  · subst h0; exact ⟨_, _, _, read_zero b 0⟩
  · by_cases hs : n < 9007199254740992
    · have := read_nearest b n 0 (by omega) hs
      rw [Nat.pow_zero, Nat.mul_one] at this
      exact ⟨_, _, _, this⟩
    · have hl1 : 53 ≤ n.log2 := by
        rcases Nat.lt_or_ge n.log2 53 with h1 | h1
        · exfalso
          have := (Nat.log2_lt h0).1 h1
          omega
        · exact h1
      have hl2 : n.log2 < 64 := (Nat.log2_lt h0).2 (by omega)
      obtain ⟨q, hq⟩ : ∃ q, n.log2 = 52 + q := ⟨n.log2 - 52, by omega⟩
      have hlast : max (0 + (n.log2 : Int) - (double.fractionBits : Int)) double.leastPlace = (q : Int) := by
        rw [d_least, d_frac]; omega
      have hk : Toward.even.cut b n q ≤ 9007199254740992 := by
        have h1 := cut_le b n q (by omega)
        have h2 : n < 2 ^ (53 + q) := by
          have := Nat.lt_log2_self (n := n)
          rwa [show n.log2 + 1 = 53 + q by omega] at this
        have h3 : n / 2 ^ q < 2 ^ 53 := by
          rw [Nat.div_lt_iff_lt_mul (Nat.two_pow_pos q), ← Nat.pow_add]; exact h2
        have h4 : (2 : Nat) ^ 53 = 9007199254740992 := by decide
        omega
      have hw : double.nearest b n 0 = double.word b (min ((1074 + q) * 4503599627370496 + Toward.even.cut b n q) 9218868437227405312) := by
        unfold Format.nearest
        rw [if_neg h0]
        simp only [hlast]
        simp only [d_least, d_binade, d_inf]
        rw [show ((q : Int) - -1074).toNat = 1074 + q by omega, show ((0 : Int) - (q : Int)).toNat = 0 by omega, show ((q : Int) - 0).toNat = q by omega, Nat.shiftLeft_zero]
      rw [hw, Nat.min_eq_left (by omega)]
      exact read_word_number b _ (by omega)

end Go.Proofs.Ytmhcjkiaogimgaa

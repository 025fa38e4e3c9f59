/- Four bytes as a number, by shifts. No program. -/
import Derived.Test.YtmliiggieclbeaaSclP
import Derived.Lib.EndianBits
namespace Go.Proofs.Ytmliiggieclbeaa
open Go

theorem wraps_i63 (n : Int) (h0 : 0 ≤ n) (h1 : n < 2 ^ 63) : IntKind.i64.wrap n = n := by
  unfold IntKind.wrap
  simp [IntKind.signed, IntKind.bits]
  omega
theorem i64_or (i : Nat) (y x : Int) (hi : i ≤ 62) (h1 : 0 ≤ y) (h2 : y < 2 ^ i) (h3 : 0 ≤ x) (h4 : x % 2 ^ i = 0) (h5 : x < 2 ^ 63) (h6 : y < 2 ^ 63) : bits .or .i64 y x = y + x :=
  bits_join_low .i64 63 (by decide) wraps_i63 i y x h1 h2 h6 h3 h4 h5
theorem get4_bits {a b c d : Int} (ha : 0 ≤ a ∧ a < 256) (hb : 0 ≤ b ∧ b < 256) (hc : 0 ≤ c ∧ c < 256) (hd : 0 ≤ d ∧ d < 256) :
    bits .or .i64 (bits .or .i64 (bits .or .i64 a (b * 256)) (c * 65536)) (d * 16777216) = a + 256 * b + 65536 * c + 16777216 * d := by
  rw [i64_or 8 a (b * 256) (by omega) (by omega) (by omega) (by omega) (by omega) (by omega) (by omega)]
  rw [i64_or 16 (a + b * 256) (c * 65536) (by omega) (by omega) (by omega) (by omega) (by omega) (by omega) (by omega)]
  rw [i64_or 24 (a + b * 256 + c * 65536) (d * 16777216) (by omega) (by omega) (by omega) (by omega) (by omega) (by omega) (by omega)]
  omega

end Go.Proofs.Ytmliiggieclbeaa

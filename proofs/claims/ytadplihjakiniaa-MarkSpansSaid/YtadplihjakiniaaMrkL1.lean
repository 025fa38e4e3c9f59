/- MarkAts, MarkParts, MarkNexts: the walks. -/
import Derived.Test.YtadplihjakiniaaMrkD
namespace Go.Proofs.Ytadplihjakiniaa
open Go.RowKit

set_option maxHeartbeats 1000000 in
theorem ats_law (epoch : Int) (_ : (Lit.int .i64 epoch).wf = true) (number : Int) (_ : (Lit.int .i64 number).wf = true) {W : World} :
    Calls Try.prog 3 #[.int .i64 epoch, .int .i64 number] W fun r w' => r = .returned (.bool true) ∧ Below W.heap.size W w' := by
  by_cases h : (0 ≤ epoch ∧ epoch ≤ 1099511627776) ∧ (0 ≤ number ∧ number ≤ 1099511627776)
  · obtain ⟨⟨h1, h2⟩, ⟨h3, h4⟩⟩ := h
    obtain ⟨e, rfl⟩ := Int.eq_ofNat_of_zero_le h1
    obtain ⟨n, rfl⟩ := Int.eq_ofNat_of_zero_le h3
    have hm : MV (FloatKind.f64.nearest e) (FloatKind.f64.nearest n) e n := mv_near (by omega) (by omega)
    have o1 := ord_eq hm.re hm.re
    have o2 := ord_eq hm.im hm.im
    go_enter Try.func3, Try.ntmps3
    go_wp2_with fail
    refine (at_yes h1 h2 h3 h4 W).mono ?_
    rintro r w' ⟨rfl, rfl⟩
    go_wp2_with fail
    refine (rat_yes h1 h2 h3 h4 W).mono ?_
    rintro r w' ⟨rfl, rfl⟩
    go_wp2_with fail
    refine (parts_yes hm W).mono ?_
    rintro r w' ⟨rfl, rfl⟩
    go_wp2_with fail
    refine (good_yes hm W).mono ?_
    rintro r w' ⟨rfl, rfl⟩
    go_wp2_with fail
    refine (epoch_yes hm W).mono ?_
    rintro r w' ⟨rfl, rfl⟩
    go_wp2_with fail
    refine (number_yes hm W).mono ?_
    rintro r w' ⟨rfl, rfl⟩
    go_wp2_with fail
    refine (awake_any W).mono ?_
    rintro r w' ⟨rfl, rfl⟩
    go_wp2_with fail
    go_ret
    exact ⟨rfl, Below.refl _ _⟩
  · have hn : epoch < 0 ∨ number < 0 ∨ 1099511627776 < epoch ∨ 1099511627776 < number := by omega
    have hm : MV 0 0 0 0 := ⟨val_zero, val_zero, by omega, by omega⟩
    have o1 := ord_eq val_zero val_zero
    have HN := Lib.hid hn
    clear h hn
    go_enter Try.func3, Try.ntmps3
    go_wp2_with fail
    refine (at_no HN.out W).mono ?_
    rintro r w' ⟨rfl, rfl⟩
    go_wp2_with fail
    refine (rat_no HN.out W).mono ?_
    rintro r w' ⟨rfl, rfl⟩
    go_wp2_with fail
    refine (parts_yes hm W).mono ?_
    rintro r w' ⟨rfl, rfl⟩
    go_wp2_with fail
    refine (good_yes hm W).mono ?_
    rintro r w' ⟨rfl, rfl⟩
    go_wp2_with fail
    refine (epoch_yes hm W).mono ?_
    rintro r w' ⟨rfl, rfl⟩
    go_wp2_with fail
    refine (number_yes hm W).mono ?_
    rintro r w' ⟨rfl, rfl⟩
    go_wp2_with fail
    refine (awake_any W).mono ?_
    rintro r w' ⟨rfl, rfl⟩
    go_wp2_with fail
    go_ret
    exact ⟨rfl, Below.refl _ _⟩

set_option maxHeartbeats 1000000 in
theorem parts_any (e n : Int) (h : Fits e n) {W : World} :
    Calls Try.prog 4 #[.agg #[.int .i64 e, .int .i64 n]] W fun r w' => r = .returned (.bool true) ∧ Below W.heap.size W w' := by
  have b0 : Below W.heap.size W (W.alloc (.cells #[.int .i64 e, .int .i64 n] 35)) := (Below.refl _ _).alloc (Nat.le_refl _) _
  go_enter Try.func4, Try.ntmps4
  go_wp2_with fail
  refine (num_any e n _ h).mono ?_
  rintro r w1 ⟨rfl, b1⟩
  have B1 := bel_next b0 b1
  clear b0 b1
  generalize quart e = a
  generalize quart n = b
  rcases mark_or_bad a b with ⟨f, m, hm⟩ | hb
  · go_wp2_with fail
    refine (parts_yes hm _).mono ?_
    rintro r w' ⟨rfl, rfl⟩
    go_wp2_with fail
    refine (good_yes hm _).mono ?_
    rintro r w' ⟨rfl, rfl⟩
    go_wp2_with fail
    refine (epoch_yes hm _).mono ?_
    rintro r w' ⟨rfl, rfl⟩
    go_wp2_with fail
    refine (number_yes hm _).mono ?_
    rintro r w' ⟨rfl, rfl⟩
    go_wp2_with fail
    refine (awake_any _).mono ?_
    rintro r w' ⟨rfl, rfl⟩
    go_wp2_with fail
    go_ret
    exact ⟨rfl, B1⟩
  · go_wp2_with fail
    refine (parts_no hb _).mono ?_
    rintro r w' ⟨rfl, rfl⟩
    go_wp2_with fail
    refine (good_no hb _).mono ?_
    rintro r w' ⟨rfl, rfl⟩
    go_wp2_with fail
    refine (epoch_no hb _).mono ?_
    rintro r w' ⟨rfl, rfl⟩
    go_wp2_with fail
    refine (number_no hb _).mono ?_
    rintro r w' ⟨rfl, rfl⟩
    go_wp2_with fail
    refine (awake_any _).mono ?_
    rintro r w' ⟨rfl, rfl⟩
    go_wp2_with fail
    go_ret
    exact ⟨rfl, B1⟩

/-- Where two marks of the same parts are held against each other. -/
theorem mv_ord {a b c d e n : Nat} (h : MV a b e n) (k : MV c d e n) : FloatKind.f64.format.order a c = some .eq ∧ FloatKind.f64.format.order b d = some .eq := ⟨ord_eq h.re k.re, ord_eq h.im k.im⟩

end Go.Proofs.Ytadplihjakiniaa

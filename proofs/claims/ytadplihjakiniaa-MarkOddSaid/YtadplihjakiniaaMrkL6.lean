/- MarkOdd: what is no number, or without an end, is no mark; -0 counts as 0. -/
import Derived.Test.YtadplihjakiniaaMrkL2
import Derived.Laws.FloatArith
namespace Go.Proofs.Ytadplihjakiniaa
open Go.RowKit

theorem not_whole_of {x : Nat} (h : ∀ s m e, Ieee.double.read x ≠ .number s m e) : ¬ Whole x := by
  rintro ⟨n, _, s, m, e, hr, _⟩
  exact h _ _ _ hr
theorem nan_read (t : Nat) : ∃ s f, Ieee.double.read ((t % 2) * 2 ^ 63 + 0x7ff0000000000000 + 1 + (t / 2) % (2 ^ 52 - 1)) = .nan s f := by
  unfold Ieee.Format.read
  simp only [d_binade, d_inf, d_sign, d_least]
  have hq : (t / 2) % (2 ^ 52 - 1) < 2 ^ 52 - 1 := Nat.mod_lt _ (by omega)
  have ht : t % 2 < 2 := Nat.mod_lt _ (by omega)
  generalize (t / 2) % (2 ^ 52 - 1) = q at *
  generalize t % 2 = s at *
  have h : 9218868437227405312 < (s * 2 ^ 63 + 0x7ff0000000000000 + 1 + q) % 9223372036854775808 := by omega
  rw [if_neg (by omega), if_neg (by omega), if_neg (by omega)]
  exact ⟨_, _, rfl⟩
theorem nan_run (w : World) : ∃ r w', (binOp .sub 43 (.float .f64 9218868437227405312) (.float .f64 9218868437227405312)).run Try.prog w = .ok (.float .f64 r) w' ∧ Drawn w w' ∧ ¬ Whole r := by
  have h : FloatKind.f64.format.sub 9218868437227405312 9218868437227405312 = none := by decide
  refine ⟨(Question.nanBits FloatKind.f64 9218868437227405312 9218868437227405312).cut (w.tape w.drawn (Question.nanBits FloatKind.f64 9218868437227405312 9218868437227405312)), w.drew, ?_, ⟨1, rfl⟩, ?_⟩
  · simp [binOp, Op.floatArith, h, choose, Sem.run, Question.forced]
  refine not_whole_of fun s m e => ?_
  obtain ⟨s', f, hn⟩ := nan_read (w.tape w.drawn (Question.nanBits FloatKind.f64 9218868437227405312 9218868437227405312))
  intro h2
  have h3 := h2.symm.trans hn
  cases h3
theorem inf_read : Ieee.double.read 9218868437227405312 = .infinity false := by decide
theorem ninf_read : Ieee.double.read 18442240474082181120 = .infinity true := by decide
theorem inf_not : ¬ Whole 9218868437227405312 := not_whole_of fun s m e => by rw [inf_read]; intro h; cases h
theorem ninf_not : ¬ Whole 18442240474082181120 := not_whole_of fun s m e => by rw [ninf_read]; intro h; cases h
theorem mul_run (w : World) : (binOp .mul 43 (.float .f64 9094988921128908188) (.float .f64 9094988921128908188)).run Try.prog w = .ok (.float .f64 9218868437227405312) w := by
  refine run_float_arith w .mul _ .f64 _ _ _ ?_
  show Ieee.double.mul _ _ = _
  decide
theorem neg_inf (w : World) : (Op.unary .neg (.float .f64 9218868437227405312)).run Try.prog w = .ok (.float .f64 18442240474082181120) w := by
  simp [Op.unary]; decide
theorem neg_zero (w : World) : (Op.unary .neg (.float .f64 0)).run Try.prog w = .ok (.float .f64 9223372036854775808) w := by
  simp [Op.unary]; decide
theorem val_nzero : Val 9223372036854775808 0 := ⟨true, 0, -1074, by decide, by omega, by rw [signed_zero, Int.zero_mul]; rfl⟩
theorem val_3 : Val 4613937818241073152 3 := by
  have h : FloatKind.f64.nearest 3 = 4613937818241073152 := by decide
  rw [← h]; exact val_nearest _ (by omega)
theorem mv_nzero : MV 9223372036854775808 9223372036854775808 0 0 := ⟨val_nzero, val_nzero, by omega, by omega⟩
theorem mv_nzero3 : MV 9223372036854775808 4613937818241073152 0 3 := ⟨val_nzero, val_3, by omega, by omega⟩
theorem bad_l {a b : Nat} (h : ¬ Whole a) : Bad a b := fun h' => h h'.1
theorem bad_r {a b : Nat} (h : ¬ Whole b) : Bad a b := fun h' => h h'.2

set_option maxRecDepth 100000 in
set_option maxHeartbeats 2000000 in
theorem odd_any (e n : Int) (h : Fits e n) {W : World} :
    Calls Try.prog 7 #[.agg #[.int .i64 e, .int .i64 n]] W fun r w' => r = .returned (.bool true) ∧ Below W.heap.size W w' := by
  have b0 : Below W.heap.size W (W.alloc (.cells #[.int .i64 e, .int .i64 n] 35)) := (Below.refl _ _).alloc (Nat.le_refl _) _
  obtain ⟨z, W1, hs, hd, hz⟩ := nan_run (W.alloc (.cells #[.int .i64 e, .int .i64 n] 35))
  obtain ⟨k, rfl⟩ := hd.ex
  have hm := mul_run
  have hn1 := neg_inf
  have hn2 := neg_zero
  have hz2 : RowKit.Hid (¬ Whole z) := Lib.hid hz
  clear hz
  go_enter Try.func7, Try.ntmps7
  go_wp2_with fail
  refine (num_any e n _ h).mono ?_
  rintro r w1 ⟨rfl, b1⟩
  have B1 := bel_next (bel_next b0 (hd.below _)) b1
  clear b0 b1 hd hs hm
  generalize quart e = a
  generalize quart n = b
  go_wp2_with fail
  refine (good_no (bad_l hz2.out) _).mono ?_
  rintro r w' ⟨rfl, rfl⟩
  go_wp2_with fail
  refine (good_no (bad_r hz2.out) _).mono ?_
  rintro r w' ⟨rfl, rfl⟩
  go_wp2_with fail
  refine (good_no (bad_l inf_not) _).mono ?_
  rintro r w' ⟨rfl, rfl⟩
  go_wp2_with fail
  refine (good_no (bad_r ninf_not) _).mono ?_
  rintro r w' ⟨rfl, rfl⟩
  go_wp2_with fail
  refine (epoch_no (bad_l hz2.out) _).mono ?_
  rintro r w' ⟨rfl, rfl⟩
  go_wp2_with fail
  refine (number_no (bad_r inf_not) _).mono ?_
  rintro r w' ⟨rfl, rfl⟩
  go_wp2_with fail
  refine (later_no (.inl (bad_l inf_not)) _).mono ?_
  rintro r w' ⟨rfl, rfl⟩
  go_wp2_with fail
  refine (later_no (.inr (bad_l hz2.out)) _).mono ?_
  rintro r w' ⟨rfl, rfl⟩
  go_wp2_with fail
  refine (next_no (bad_l hz2.out) _).mono ?_
  rintro r w2 ⟨rfl, d2⟩
  go_wp2_with fail
  refine (restart_no (bad_r inf_not) _).mono ?_
  rintro r w3 ⟨rfl, d3⟩
  go_wp2_with fail
  refine (good_yes mv_nzero _).mono ?_
  rintro r w' ⟨rfl, rfl⟩
  go_wp2_with fail
  refine (epoch_yes mv_nzero3 _).mono ?_
  rintro r w' ⟨rfl, rfl⟩
  go_wp2_with fail
  refine (awake_any _).mono ?_
  rintro r w' ⟨rfl, rfl⟩
  go_wp2_with fail
  go_ret
  exact ⟨rfl, bel_next (bel_next B1 (d2.below _)) (d3.below _)⟩

end Go.Proofs.Ytadplihjakiniaa

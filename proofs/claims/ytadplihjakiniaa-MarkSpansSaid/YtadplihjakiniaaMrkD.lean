/- Marks: the document's Gap and Later; the number of a pair; awake. -/
import Derived.Test.YtadplihjakiniaaMrkC
namespace Go.Proofs.Ytadplihjakiniaa
open Go.RowKit

set_option maxHeartbeats 400000 in
theorem rgap_yes {a b c d e n f m : Nat} (h : MV a b e n) (k : MV c d f m) (w : World) :
    Calls Try.prog 28 #[.complex .f64 a b, .complex .f64 c d] w fun r w' => r = .returned (.tuple #[.int .i64 (gapN e n f m), .bool (gapB e n f m)]) ∧ w = w' := by
  have h1 := h.hn
  have k1 := k.hn
  by_cases hg : e = f ∧ n ≤ m
  · obtain ⟨rfl, hnm⟩ := hg
    have e1 : gapN e n e m = (m : Int) - n := by unfold gapN; rw [if_pos ⟨rfl, hnm⟩]
    have e2 : gapB e n e m = true := by unfold gapB; simp [hnm]
    rw [e1, e2]
    clear e1 e2
    go_enter Try.func28, Try.ntmps28
    go_wp2_with fail
    refine (parts_yes h w).mono ?_
    rintro r w' ⟨rfl, rfl⟩
    go_wp2_with fail
    refine (parts_yes k w).mono ?_
    rintro r w' ⟨rfl, rfl⟩
    go_wp2_with fail
    go_ret2
    exact ⟨rfl, rfl⟩
  · have e1 : gapN e n f m = 0 := by unfold gapN; rw [if_neg hg]
    have e2 : gapB e n f m = false := by unfold gapB; simpa using hg
    rw [e1, e2]
    clear e1 e2
    by_cases hef : e = f
    · subst hef
      have hmn : m < n := by omega
      clear hg
      go_enter Try.func28, Try.ntmps28
      go_wp2_with fail
      refine (parts_yes h w).mono ?_
      rintro r w' ⟨rfl, rfl⟩
      go_wp2_with fail
      refine (parts_yes k w).mono ?_
      rintro r w' ⟨rfl, rfl⟩
      go_wp2_with fail
      go_ret2
      exact ⟨rfl, rfl⟩
    · have hne : ((e : Int) != (f : Int)) = true := by rw [bne_iff_ne]; omega
      clear hg hef
      go_enter Try.func28, Try.ntmps28
      go_wp2_with fail
      refine (parts_yes h w).mono ?_
      rintro r w' ⟨rfl, rfl⟩
      go_wp2_with fail
      refine (parts_yes k w).mono ?_
      rintro r w' ⟨rfl, rfl⟩
      go_wp2_with fail
      go_ret2
      exact ⟨rfl, rfl⟩
theorem rgap_no {a b c d : Nat} (h : Bad a b ∨ Bad c d) (w : World) :
    Calls Try.prog 28 #[.complex .f64 a b, .complex .f64 c d] w fun r w' => r = .returned (.tuple #[.int .i64 0, .bool false]) ∧ w = w' := by
  rcases mark_or_bad a b with ⟨e, n, hm⟩ | hb
  · have hd : Bad c d := by
      rcases h with h | h
      · exact absurd h hm.not_bad
      · exact h
    go_enter Try.func28, Try.ntmps28
    go_wp2_with fail
    refine (parts_yes hm w).mono ?_
    rintro r w' ⟨rfl, rfl⟩
    go_wp2_with fail
    refine (parts_no hd w).mono ?_
    rintro r w' ⟨rfl, rfl⟩
    go_wp2_with fail
    go_ret2
    exact ⟨rfl, rfl⟩
  · rcases mark_or_bad c d with ⟨f, m, hm⟩ | hd
    · go_enter Try.func28, Try.ntmps28
      go_wp2_with fail
      refine (parts_no hb w).mono ?_
      rintro r w' ⟨rfl, rfl⟩
      go_wp2_with fail
      refine (parts_yes hm w).mono ?_
      rintro r w' ⟨rfl, rfl⟩
      go_wp2_with fail
      go_ret2
      exact ⟨rfl, rfl⟩
    · go_enter Try.func28, Try.ntmps28
      go_wp2_with fail
      refine (parts_no hb w).mono ?_
      rintro r w' ⟨rfl, rfl⟩
      go_wp2_with fail
      refine (parts_no hd w).mono ?_
      rintro r w' ⟨rfl, rfl⟩
      go_wp2_with fail
      go_ret2
      exact ⟨rfl, rfl⟩

set_option maxHeartbeats 400000 in
theorem rlater_yes {a b c d e n f m : Nat} (h : MV a b e n) (k : MV c d f m) (w : World) :
    Calls Try.prog 29 #[.complex .f64 a b, .complex .f64 c d] w fun r w' => r = .returned (.bool (laterB e n f m)) ∧ w = w' := by
  rcases Int.lt_trichotomy (e : Int) f with h1 | h1 | h1
  · have e1 : laterB e n f m = false := by unfold laterB; simp; omega
    have hne : ((e : Int) == (f : Int)) = false := by rw [beq_eq_false_iff_ne]; omega
    have hgt : decide ((f : Int) < e) = false := decide_eq_false (by omega)
    rw [e1]
    clear e1
    go_enter Try.func29, Try.ntmps29
    go_wp2_with fail
    refine (parts_yes h w).mono ?_
    rintro r w' ⟨rfl, rfl⟩
    go_wp2_with fail
    refine (parts_yes k w).mono ?_
    rintro r w' ⟨rfl, rfl⟩
    go_wp2_with fail
    go_ret
    exact ⟨bb (by simp; omega), rfl⟩
  · obtain rfl : e = f := by omega
    have e1 : laterB e n e m = decide (m < n) := by unfold laterB; simp
    rw [e1]
    clear e1 h1
    by_cases hmn : m < n
    · rw [decide_eq_true hmn]
      go_enter Try.func29, Try.ntmps29
      go_wp2_with fail
      refine (parts_yes h w).mono ?_
      rintro r w' ⟨rfl, rfl⟩
      go_wp2_with fail
      refine (parts_yes k w).mono ?_
      rintro r w' ⟨rfl, rfl⟩
      go_wp2_with fail
      go_ret
      exact ⟨bb (by simp), rfl⟩
    · rw [decide_eq_false hmn]
      go_enter Try.func29, Try.ntmps29
      go_wp2_with fail
      refine (parts_yes h w).mono ?_
      rintro r w' ⟨rfl, rfl⟩
      go_wp2_with fail
      refine (parts_yes k w).mono ?_
      rintro r w' ⟨rfl, rfl⟩
      go_wp2_with fail
      go_ret
      exact ⟨bb (by simp), rfl⟩
  · have e1 : laterB e n f m = true := by unfold laterB; simp; omega
    rw [e1]
    clear e1
    go_enter Try.func29, Try.ntmps29
    go_wp2_with fail
    refine (parts_yes h w).mono ?_
    rintro r w' ⟨rfl, rfl⟩
    go_wp2_with fail
    refine (parts_yes k w).mono ?_
    rintro r w' ⟨rfl, rfl⟩
    go_wp2_with fail
    go_ret
    exact ⟨bb (by simp), rfl⟩
theorem rlater_no {a b c d : Nat} (h : Bad a b ∨ Bad c d) (w : World) :
    Calls Try.prog 29 #[.complex .f64 a b, .complex .f64 c d] w fun r w' => r = .returned (.bool false) ∧ w = w' := by
  rcases mark_or_bad a b with ⟨e, n, hm⟩ | hb
  · have hd : Bad c d := by
      rcases h with h | h
      · exact absurd h hm.not_bad
      · exact h
    go_enter Try.func29, Try.ntmps29
    go_wp2_with fail
    refine (parts_yes hm w).mono ?_
    rintro r w' ⟨rfl, rfl⟩
    go_wp2_with fail
    refine (parts_no hd w).mono ?_
    rintro r w' ⟨rfl, rfl⟩
    go_wp2_with fail
    go_ret
    exact ⟨rfl, rfl⟩
  · rcases mark_or_bad c d with ⟨f, m, hm⟩ | hd
    · go_enter Try.func29, Try.ntmps29
      go_wp2_with fail
      refine (parts_no hb w).mono ?_
      rintro r w' ⟨rfl, rfl⟩
      go_wp2_with fail
      refine (parts_yes hm w).mono ?_
      rintro r w' ⟨rfl, rfl⟩
      go_wp2_with fail
      go_ret
      exact ⟨rfl, rfl⟩
    · go_enter Try.func29, Try.ntmps29
      go_wp2_with fail
      refine (parts_no hb w).mono ?_
      rintro r w' ⟨rfl, rfl⟩
      go_wp2_with fail
      refine (parts_no hd w).mono ?_
      rintro r w' ⟨rfl, rfl⟩
      go_wp2_with fail
      go_ret
      exact ⟨rfl, rfl⟩

/-- A quarter of a whole number. -/
def quart (z : Int) : Nat := (Ieee.double.div (FloatKind.f64.nearest z) 4616189618054758400).getD 0
theorem div_some (x : Nat) (h : ∃ s m e, Ieee.double.read x = .number s m e) : ∃ r, Ieee.double.div x 4616189618054758400 = some r := by
  obtain ⟨s, m, e, hr⟩ := h
  have h4 : Ieee.double.read 4616189618054758400 = .number false 4503599627370496 (-50) := by decide
  unfold Ieee.Format.div
  rw [hr, h4]
  exact ⟨_, rfl⟩
theorem quart_run (z : Int) (h : ∃ s m e, Ieee.double.read (FloatKind.f64.nearest z) = .number s m e) (t : TypeId) (w : World) :
    (binOp .quo t (.float .f64 (FloatKind.f64.nearest z)) (.float .f64 4616189618054758400)).run Try.prog w = .ok (.float .f64 (quart z)) w := by
  obtain ⟨r, hr⟩ := div_some _ h
  refine run_float_arith w .quo t .f64 _ _ _ ?_
  show Ieee.double.div _ _ = _
  unfold quart
  rw [hr]; rfl

theorem quart_any (z : Int) (h : (Lit.int .i64 z).wf = true) (w : World) :
    (binOp .quo 43 (.float .f64 (floatOfInt .f64 z)) (.float .f64 4616189618054758400)).run Try.prog w = .ok (.float .f64 (quart z)) w :=
  quart_run z (read_int z (by have := wf_i64 h; omega)) _ w

/-- A pair's two numbers fit. -/
def Fits (e n : Int) : Prop := (Lit.int .i64 e).wf = true ∧ (Lit.int .i64 n).wf = true

set_option maxHeartbeats 400000 in
theorem num_any (e n : Int) (w : World) (h : Fits e n) :
    Calls Try.prog 21 #[.agg #[.int .i64 e, .int .i64 n]] w fun r w' => r = .returned (.complex .f64 (quart e) (quart n)) ∧ Below w.heap.size w w' := by
  have h1 := quart_any e h.1
  have h2 := quart_any n h.2
  go_enter Try.func21, Try.ntmps21
  go_wp2_with fail
  go_ret
  exact ⟨rfl, (Below.refl _ _).alloc (Nat.le_refl _) _⟩

theorem val_2 : Val 4611686018427387904 2 := by
  have h : FloatKind.f64.nearest 2 = 4611686018427387904 := by decide
  rw [← h]; exact val_nearest _ (by omega)
theorem val_5 : Val 4617315517961601024 5 := by
  have h : FloatKind.f64.nearest 5 = 4617315517961601024 := by decide
  rw [← h]; exact val_nearest _ (by omega)
theorem val_6 : Val 4618441417868443648 6 := by
  have h : FloatKind.f64.nearest 6 = 4618441417868443648 := by decide
  rw [← h]; exact val_nearest _ (by omega)
theorem ord_eq {x y : Nat} {a : Int} (hx : Val x a) (hy : Val y a) : FloatKind.f64.format.order x y = some .eq := by rw [ord hx hy, cmp_eq]

set_option maxHeartbeats 400000 in
theorem awake_any (w : World) : Calls Try.prog 20 #[] w fun r w' => r = .returned (.bool true) ∧ w = w' := by
  have o1 := ord_eq (val_nearest 2 (by omega)) val_2
  have o2 := ord_eq (val_nearest 5 (by omega)) val_5
  go_enter Try.func20, Try.ntmps20
  go_wp2_with fail
  refine (at_yes (e := 2) (n := 5) (by omega) (by omega) (by omega) (by omega) w).mono ?_
  rintro r w' ⟨rfl, rfl⟩
  have hm : MV (FloatKind.f64.nearest 2) (FloatKind.f64.nearest 5) 2 5 := mv_near (e := 2) (n := 5) (by omega) (by omega)
  go_wp2_with fail
  refine (next_yes hm (by omega) w).mono ?_
  rintro r w' ⟨x, y, rfl, hn, rfl⟩
  have o3 := ord_eq hn.re val_2
  have o4 := ord_eq hn.im val_6
  go_wp2_with fail
  refine (epoch_yes hn w).mono ?_
  rintro r w' ⟨rfl, rfl⟩
  go_wp2_with fail
  refine (number_yes hn w).mono ?_
  rintro r w' ⟨rfl, rfl⟩
  go_wp2_with fail
  go_ret
  exact ⟨rfl, rfl⟩

end Go.Proofs.Ytadplihjakiniaa

/- MarkOrders: the walk. -/
import Derived.Test.YtadplihjakiniaaMrkL3
namespace Go.Proofs.Ytadplihjakiniaa
open Go.RowKit

/-- The pairs' order decided. -/
theorem later_cases (e n f m g k : Nat) :
    (laterB e n f m = true ∧ laterB f m e n = false ∧ laterB f m g k = true ∧ laterB e n g k = true) ∨
    (laterB e n f m = true ∧ laterB f m e n = false ∧ laterB f m g k = false) ∨
    (laterB e n f m = false ∧ laterB f m e n = true) ∨ (e = f ∧ n = m) := by
  unfold laterB
  simp only [decide_eq_true_eq, decide_eq_false_iff_not]
  omega
theorem later_self (e n : Nat) : laterB e n e n = false := by unfold laterB; simp

set_option maxRecDepth 100000 in
set_option maxHeartbeats 4000000 in
theorem orders_bad (e n : Int) (h1 : Fits e n) (f m : Int) (h2 : Fits f m) (g k : Int) (h3 : Fits g k) (W : World)
    (hb : Bad (quart e) (quart n) ∨ Bad (quart f) (quart m) ∨ Bad (quart g) (quart k)) :
    Calls Try.prog 10 #[.agg #[.int .i64 e, .int .i64 n], .agg #[.int .i64 f, .int .i64 m], .agg #[.int .i64 g, .int .i64 k]] W fun r w' => r = .returned (.bool true) ∧ Below W.heap.size W w' := by
  have HB := Lib.hid hb
  clear hb
  have B0 : Below (boxes3 W e n f m g k).heap.size (boxes3 W e n f m g k) (boxes3 W e n f m g k) := Below.refl _ _
  go_enter Try.func10, Try.ntmps10
  go_wp2_with fail
  change Calls _ _ _ (boxes3 W e n f m g k) _
  refine (num_any e n _ h1).mono ?_
  rintro r w1 ⟨rfl, b1⟩
  have B1 := bel_next B0 b1
  obtain ⟨c1, c2, c3, c4, c5, c6⟩ := tripS B1
  go_wp2_with fail
  refine (num_any f m _ h2).mono ?_
  rintro r w2 ⟨rfl, b2⟩
  have B2 := bel_next B1 b2
  clear c1 c2 c3 c4 c5 c6
  obtain ⟨c1, c2, c3, c4, c5, c6⟩ := tripS B2
  go_wp2_with fail
  refine (num_any g k _ h3).mono ?_
  rintro r w3 ⟨rfl, b3⟩
  have B3 := bel_next B2 b3
  clear c1 c2 c3 c4 c5 c6 b1 b2 b3 B0 B1 B2
  generalize quart e = a at *
  generalize quart n = b at *
  generalize quart f = c at *
  generalize quart m = d at *
  generalize quart g = p at *
  generalize quart k = q at *
  rcases mark_or_bad a b with ⟨e', n', hm⟩ | ha
  · rcases mark_or_bad c d with ⟨f', m', km⟩ | hc
    · have hp : Bad p q := by
        rcases HB.out with h | h | h
        · exact absurd h hm.not_bad
        · exact absurd h km.not_bad
        · exact h
      go_wp2_with fail
      refine (good_yes hm _).mono ?_
      rintro r w4 ⟨rfl, rfl⟩
      go_wp2_with fail
      refine (good_yes km _).mono ?_
      rintro r w4 ⟨rfl, rfl⟩
      go_wp2_with fail
      refine (good_no hp _).mono ?_
      rintro r w4 ⟨rfl, rfl⟩
      go_wp2_with fail
      refine (later_yes hm hm _).mono ?_
      rintro r w4 ⟨rfl, rfl⟩
      rw [later_self]
      go_wp2_with fail
      refine (awake_any _).mono ?_
      rintro r w4 ⟨rfl, rfl⟩
      go_wp2_with fail
      go_ret
      exact ⟨rfl, boxes3_below B3⟩
    · go_wp2_with fail
      refine (good_yes hm _).mono ?_
      rintro r w4 ⟨rfl, rfl⟩
      go_wp2_with fail
      refine (good_no hc _).mono ?_
      rintro r w4 ⟨rfl, rfl⟩
      go_wp2_with fail
      refine (later_yes hm hm _).mono ?_
      rintro r w4 ⟨rfl, rfl⟩
      rw [later_self]
      go_wp2_with fail
      refine (awake_any _).mono ?_
      rintro r w4 ⟨rfl, rfl⟩
      go_wp2_with fail
      go_ret
      exact ⟨rfl, boxes3_below B3⟩
  · go_wp2_with fail
    refine (good_no ha _).mono ?_
    rintro r w4 ⟨rfl, rfl⟩
    go_wp2_with fail
    refine (later_no (.inl ha) _).mono ?_
    rintro r w4 ⟨rfl, rfl⟩
    go_wp2_with fail
    refine (awake_any _).mono ?_
    rintro r w4 ⟨rfl, rfl⟩
    go_wp2_with fail
    go_ret
    exact ⟨rfl, boxes3_below B3⟩

theorem mv_ne {a b c d e n f m : Nat} (h : MV a b e n) (k : MV c d f m) (hne : ¬ (e = f ∧ n = m)) : (FloatKind.f64.format.order a c == some .eq && FloatKind.f64.format.order b d == some .eq) = false := by
  rw [ord h.re k.re, ord h.im k.im]
  rw [Bool.and_eq_false_iff]
  rcases Int.lt_trichotomy (e : Int) f with h1 | h1 | h1
  · left; rw [cmp_lt h1]; rfl
  · right
    rcases Int.lt_trichotomy (n : Int) m with h2 | h2 | h2
    · rw [cmp_lt h2]; rfl
    · exact absurd ⟨by omega, by omega⟩ hne
    · rw [cmp_gt h2]; rfl
  · left; rw [cmp_gt h1]; rfl

set_option maxRecDepth 100000 in
set_option maxHeartbeats 4000000 in
theorem orders_1 (e n : Int) (h1 : Fits e n) (f m : Int) (h2 : Fits f m) (g k : Int) (h3 : Fits g k) (W : World) {e' n' f' m' g' k' : Nat}
    (hm : MV (quart e) (quart n) e' n') (km : MV (quart f) (quart m) f' m') (lm : MV (quart g) (quart k) g' k')
    (eA : laterB e' n' f' m' = true) (eB : laterB f' m' e' n' = false) (eC : laterB f' m' g' k' = true) (eD : laterB e' n' g' k' = true) :
    Calls Try.prog 10 #[.agg #[.int .i64 e, .int .i64 n], .agg #[.int .i64 f, .int .i64 m], .agg #[.int .i64 g, .int .i64 k]] W fun r w' => r = .returned (.bool true) ∧ Below W.heap.size W w' := by
  have B0 : Below (boxes3 W e n f m g k).heap.size (boxes3 W e n f m g k) (boxes3 W e n f m g k) := Below.refl _ _
  go_enter Try.func10, Try.ntmps10
  go_wp2_with fail
  change Calls _ _ _ (boxes3 W e n f m g k) _
  refine (num_any e n _ h1).mono ?_
  rintro r w1 ⟨rfl, b1⟩
  have B1 := bel_next B0 b1
  obtain ⟨c1, c2, c3, c4, c5, c6⟩ := tripS B1
  go_wp2_with fail
  refine (num_any f m _ h2).mono ?_
  rintro r w2 ⟨rfl, b2⟩
  have B2 := bel_next B1 b2
  clear c1 c2 c3 c4 c5 c6
  obtain ⟨c1, c2, c3, c4, c5, c6⟩ := tripS B2
  go_wp2_with fail
  refine (num_any g k _ h3).mono ?_
  rintro r w3 ⟨rfl, b3⟩
  have B3 := bel_next B2 b3
  clear c1 c2 c3 c4 c5 c6 b1 b2 b3 B0 B1 B2
  generalize quart e = a at *
  generalize quart n = b at *
  generalize quart f = c at *
  generalize quart m = d at *
  generalize quart g = p at *
  generalize quart k = q at *
  go_wp2_with fail
  refine (good_yes hm _).mono ?_
  rintro r w4 ⟨rfl, rfl⟩
  go_wp2_with fail
  refine (good_yes km _).mono ?_
  rintro r w4 ⟨rfl, rfl⟩
  go_wp2_with fail
  refine (good_yes lm _).mono ?_
  rintro r w4 ⟨rfl, rfl⟩
  have o1 : (FloatKind.f64.format.order a c == some .eq && FloatKind.f64.format.order b d == some .eq) = false := mv_ne hm km (by rintro ⟨rfl, rfl⟩; rw [later_self] at eA; cases eA)
  go_wp2_with fail
  refine (later_yes hm km _).mono ?_
  rintro r w4 ⟨rfl, rfl⟩
  rw [eA]
  go_wp2_with fail
  refine (later_yes km hm _).mono ?_
  rintro r w4 ⟨rfl, rfl⟩
  rw [eB]
  go_wp2_with fail
  refine (later_yes hm km _).mono ?_
  rintro r w4 ⟨rfl, rfl⟩
  rw [eA]
  go_wp2_with fail
  refine (later_yes hm hm _).mono ?_
  rintro r w4 ⟨rfl, rfl⟩
  rw [later_self]
  go_wp2_with fail
  refine (later_yes hm km _).mono ?_
  rintro r w4 ⟨rfl, rfl⟩
  rw [eA]
  go_wp2_with fail
  refine (later_yes km lm _).mono ?_
  rintro r w4 ⟨rfl, rfl⟩
  rw [eC]
  go_wp2_with fail
  refine (later_yes hm lm _).mono ?_
  rintro r w4 ⟨rfl, rfl⟩
  rw [eD]
  by_cases hn : n' < 1099511627776
  · go_wp2_with fail
    refine (next_yes hm hn _).mono ?_
    rintro r w4 ⟨x1, y1, rfl, hx, rfl⟩
    have g1 : gapN e' n' e' (n' + 1) = 1 := by unfold gapN; rw [if_pos ⟨rfl, by omega⟩]; omega
    have g2 : gapB e' n' e' (n' + 1) = true := by unfold gapB; simp
    have l0 : laterB e' (n' + 1) e' n' = true := by unfold laterB; simp
    go_wp2_with fail
    refine (gap_yes hm hx _).mono ?_
    rintro r w4 ⟨rfl, rfl⟩
    rw [g1, g2]
    go_wp2_with fail
    refine (later_yes hx hm _).mono ?_
    rintro r w4 ⟨rfl, rfl⟩
    rw [l0]
    go_wp2_with fail
    refine (later_yes km hm _).mono ?_
    rintro r w4 ⟨rfl, rfl⟩
    rw [eB]
    by_cases he : e' < 1099511627776
    · go_wp2_with fail
      refine (restart_yes hm he _).mono ?_
      rintro r w4 ⟨x2, y2, rfl, hs, rfl⟩
      have l1 : laterB (e' + 1) 0 e' n' = true := by unfold laterB; simp
      go_wp2_with fail
      refine (later_yes hs hm _).mono ?_
      rintro r w4 ⟨rfl, rfl⟩
      rw [l1]
      go_wp2_with fail
      refine (epoch_yes km _).mono ?_
      rintro r w4 ⟨rfl, rfl⟩
      by_cases hfe : f' = e'
      · have hb1 : ((f' : Int) == (e' : Int)) = true := by rw [beq_iff_eq]; omega
        have l2 : laterB (e' + 1) 0 f' m' = true := by unfold laterB; simp; omega
        clear hfe
        go_wp2_with fail
        refine (epoch_yes hm _).mono ?_
        rintro r w4 ⟨rfl, rfl⟩
        go_wp2_with fail
        refine (later_yes hs km _).mono ?_
        rintro r w4 ⟨rfl, rfl⟩
        rw [l2]
        go_wp2_with fail
        refine (number_yes hs _).mono ?_
        rintro r w4 ⟨rfl, rfl⟩
        go_wp2_with fail
        refine (awake_any _).mono ?_
        rintro r w4 ⟨rfl, rfl⟩
        go_wp2_with fail
        go_ret
        exact ⟨rfl, boxes3_below B3⟩
      · have hb1 : ((f' : Int) == (e' : Int)) = false := by rw [beq_eq_false_iff_ne]; omega
        clear hfe
        go_wp2_with fail
        refine (epoch_yes hm _).mono ?_
        rintro r w4 ⟨rfl, rfl⟩
        go_wp2_with fail
        refine (number_yes hs _).mono ?_
        rintro r w4 ⟨rfl, rfl⟩
        go_wp2_with fail
        refine (awake_any _).mono ?_
        rintro r w4 ⟨rfl, rfl⟩
        go_wp2_with fail
        go_ret
        exact ⟨rfl, boxes3_below B3⟩
    · go_wp2_with fail
      refine (restart_far hm he _).mono ?_
      rintro r w5 ⟨rfl, dr⟩
      go_wp2_with fail
      refine (awake_any _).mono ?_
      rintro r w6 ⟨rfl, rfl⟩
      go_wp2_with fail
      go_ret
      exact ⟨rfl, bel_next (boxes3_below B3) (dr.below _)⟩
  · go_wp2_with fail
    refine (next_far hm hn _).mono ?_
    rintro r w5 ⟨rfl, dr0⟩
    replace B3 := bel_next B3 (dr0.below _)
    by_cases he : e' < 1099511627776
    · go_wp2_with fail
      refine (restart_yes hm he _).mono ?_
      rintro r w4 ⟨x2, y2, rfl, hs, rfl⟩
      have l1 : laterB (e' + 1) 0 e' n' = true := by unfold laterB; simp
      go_wp2_with fail
      refine (later_yes hs hm _).mono ?_
      rintro r w4 ⟨rfl, rfl⟩
      rw [l1]
      go_wp2_with fail
      refine (epoch_yes km _).mono ?_
      rintro r w4 ⟨rfl, rfl⟩
      by_cases hfe : f' = e'
      · have hb1 : ((f' : Int) == (e' : Int)) = true := by rw [beq_iff_eq]; omega
        have l2 : laterB (e' + 1) 0 f' m' = true := by unfold laterB; simp; omega
        clear hfe
        go_wp2_with fail
        refine (epoch_yes hm _).mono ?_
        rintro r w4 ⟨rfl, rfl⟩
        go_wp2_with fail
        refine (later_yes hs km _).mono ?_
        rintro r w4 ⟨rfl, rfl⟩
        rw [l2]
        go_wp2_with fail
        refine (number_yes hs _).mono ?_
        rintro r w4 ⟨rfl, rfl⟩
        go_wp2_with fail
        refine (awake_any _).mono ?_
        rintro r w4 ⟨rfl, rfl⟩
        go_wp2_with fail
        go_ret
        exact ⟨rfl, boxes3_below B3⟩
      · have hb1 : ((f' : Int) == (e' : Int)) = false := by rw [beq_eq_false_iff_ne]; omega
        clear hfe
        go_wp2_with fail
        refine (epoch_yes hm _).mono ?_
        rintro r w4 ⟨rfl, rfl⟩
        go_wp2_with fail
        refine (number_yes hs _).mono ?_
        rintro r w4 ⟨rfl, rfl⟩
        go_wp2_with fail
        refine (awake_any _).mono ?_
        rintro r w4 ⟨rfl, rfl⟩
        go_wp2_with fail
        go_ret
        exact ⟨rfl, boxes3_below B3⟩
    · go_wp2_with fail
      refine (restart_far hm he _).mono ?_
      rintro r w5 ⟨rfl, dr⟩
      go_wp2_with fail
      refine (awake_any _).mono ?_
      rintro r w6 ⟨rfl, rfl⟩
      go_wp2_with fail
      go_ret
      exact ⟨rfl, bel_next (boxes3_below B3) (dr.below _)⟩

set_option maxRecDepth 100000 in
set_option maxHeartbeats 4000000 in
theorem orders_2 (e n : Int) (h1 : Fits e n) (f m : Int) (h2 : Fits f m) (g k : Int) (h3 : Fits g k) (W : World) {e' n' f' m' g' k' : Nat}
    (hm : MV (quart e) (quart n) e' n') (km : MV (quart f) (quart m) f' m') (lm : MV (quart g) (quart k) g' k')
    (eA : laterB e' n' f' m' = true) (eB : laterB f' m' e' n' = false) (eC : laterB f' m' g' k' = false) :
    Calls Try.prog 10 #[.agg #[.int .i64 e, .int .i64 n], .agg #[.int .i64 f, .int .i64 m], .agg #[.int .i64 g, .int .i64 k]] W fun r w' => r = .returned (.bool true) ∧ Below W.heap.size W w' := by
  have B0 : Below (boxes3 W e n f m g k).heap.size (boxes3 W e n f m g k) (boxes3 W e n f m g k) := Below.refl _ _
  go_enter Try.func10, Try.ntmps10
  go_wp2_with fail
  change Calls _ _ _ (boxes3 W e n f m g k) _
  refine (num_any e n _ h1).mono ?_
  rintro r w1 ⟨rfl, b1⟩
  have B1 := bel_next B0 b1
  obtain ⟨c1, c2, c3, c4, c5, c6⟩ := tripS B1
  go_wp2_with fail
  refine (num_any f m _ h2).mono ?_
  rintro r w2 ⟨rfl, b2⟩
  have B2 := bel_next B1 b2
  clear c1 c2 c3 c4 c5 c6
  obtain ⟨c1, c2, c3, c4, c5, c6⟩ := tripS B2
  go_wp2_with fail
  refine (num_any g k _ h3).mono ?_
  rintro r w3 ⟨rfl, b3⟩
  have B3 := bel_next B2 b3
  clear c1 c2 c3 c4 c5 c6 b1 b2 b3 B0 B1 B2
  generalize quart e = a at *
  generalize quart n = b at *
  generalize quart f = c at *
  generalize quart m = d at *
  generalize quart g = p at *
  generalize quart k = q at *
  go_wp2_with fail
  refine (good_yes hm _).mono ?_
  rintro r w4 ⟨rfl, rfl⟩
  go_wp2_with fail
  refine (good_yes km _).mono ?_
  rintro r w4 ⟨rfl, rfl⟩
  go_wp2_with fail
  refine (good_yes lm _).mono ?_
  rintro r w4 ⟨rfl, rfl⟩
  have o1 : (FloatKind.f64.format.order a c == some .eq && FloatKind.f64.format.order b d == some .eq) = false := mv_ne hm km (by rintro ⟨rfl, rfl⟩; rw [later_self] at eA; cases eA)
  go_wp2_with fail
  refine (later_yes hm km _).mono ?_
  rintro r w4 ⟨rfl, rfl⟩
  rw [eA]
  go_wp2_with fail
  refine (later_yes km hm _).mono ?_
  rintro r w4 ⟨rfl, rfl⟩
  rw [eB]
  go_wp2_with fail
  refine (later_yes hm km _).mono ?_
  rintro r w4 ⟨rfl, rfl⟩
  rw [eA]
  go_wp2_with fail
  refine (later_yes hm hm _).mono ?_
  rintro r w4 ⟨rfl, rfl⟩
  rw [later_self]
  go_wp2_with fail
  refine (later_yes hm km _).mono ?_
  rintro r w4 ⟨rfl, rfl⟩
  rw [eA]
  go_wp2_with fail
  refine (later_yes km lm _).mono ?_
  rintro r w4 ⟨rfl, rfl⟩
  rw [eC]
  by_cases hn : n' < 1099511627776
  · go_wp2_with fail
    refine (next_yes hm hn _).mono ?_
    rintro r w4 ⟨x1, y1, rfl, hx, rfl⟩
    have g1 : gapN e' n' e' (n' + 1) = 1 := by unfold gapN; rw [if_pos ⟨rfl, by omega⟩]; omega
    have g2 : gapB e' n' e' (n' + 1) = true := by unfold gapB; simp
    have l0 : laterB e' (n' + 1) e' n' = true := by unfold laterB; simp
    go_wp2_with fail
    refine (gap_yes hm hx _).mono ?_
    rintro r w4 ⟨rfl, rfl⟩
    rw [g1, g2]
    go_wp2_with fail
    refine (later_yes hx hm _).mono ?_
    rintro r w4 ⟨rfl, rfl⟩
    rw [l0]
    go_wp2_with fail
    refine (later_yes km hm _).mono ?_
    rintro r w4 ⟨rfl, rfl⟩
    rw [eB]
    by_cases he : e' < 1099511627776
    · go_wp2_with fail
      refine (restart_yes hm he _).mono ?_
      rintro r w4 ⟨x2, y2, rfl, hs, rfl⟩
      have l1 : laterB (e' + 1) 0 e' n' = true := by unfold laterB; simp
      go_wp2_with fail
      refine (later_yes hs hm _).mono ?_
      rintro r w4 ⟨rfl, rfl⟩
      rw [l1]
      go_wp2_with fail
      refine (epoch_yes km _).mono ?_
      rintro r w4 ⟨rfl, rfl⟩
      by_cases hfe : f' = e'
      · have hb1 : ((f' : Int) == (e' : Int)) = true := by rw [beq_iff_eq]; omega
        have l2 : laterB (e' + 1) 0 f' m' = true := by unfold laterB; simp; omega
        clear hfe
        go_wp2_with fail
        refine (epoch_yes hm _).mono ?_
        rintro r w4 ⟨rfl, rfl⟩
        go_wp2_with fail
        refine (later_yes hs km _).mono ?_
        rintro r w4 ⟨rfl, rfl⟩
        rw [l2]
        go_wp2_with fail
        refine (number_yes hs _).mono ?_
        rintro r w4 ⟨rfl, rfl⟩
        go_wp2_with fail
        refine (awake_any _).mono ?_
        rintro r w4 ⟨rfl, rfl⟩
        go_wp2_with fail
        go_ret
        exact ⟨rfl, boxes3_below B3⟩
      · have hb1 : ((f' : Int) == (e' : Int)) = false := by rw [beq_eq_false_iff_ne]; omega
        clear hfe
        go_wp2_with fail
        refine (epoch_yes hm _).mono ?_
        rintro r w4 ⟨rfl, rfl⟩
        go_wp2_with fail
        refine (number_yes hs _).mono ?_
        rintro r w4 ⟨rfl, rfl⟩
        go_wp2_with fail
        refine (awake_any _).mono ?_
        rintro r w4 ⟨rfl, rfl⟩
        go_wp2_with fail
        go_ret
        exact ⟨rfl, boxes3_below B3⟩
    · go_wp2_with fail
      refine (restart_far hm he _).mono ?_
      rintro r w5 ⟨rfl, dr⟩
      go_wp2_with fail
      refine (awake_any _).mono ?_
      rintro r w6 ⟨rfl, rfl⟩
      go_wp2_with fail
      go_ret
      exact ⟨rfl, bel_next (boxes3_below B3) (dr.below _)⟩
  · go_wp2_with fail
    refine (next_far hm hn _).mono ?_
    rintro r w5 ⟨rfl, dr0⟩
    replace B3 := bel_next B3 (dr0.below _)
    by_cases he : e' < 1099511627776
    · go_wp2_with fail
      refine (restart_yes hm he _).mono ?_
      rintro r w4 ⟨x2, y2, rfl, hs, rfl⟩
      have l1 : laterB (e' + 1) 0 e' n' = true := by unfold laterB; simp
      go_wp2_with fail
      refine (later_yes hs hm _).mono ?_
      rintro r w4 ⟨rfl, rfl⟩
      rw [l1]
      go_wp2_with fail
      refine (epoch_yes km _).mono ?_
      rintro r w4 ⟨rfl, rfl⟩
      by_cases hfe : f' = e'
      · have hb1 : ((f' : Int) == (e' : Int)) = true := by rw [beq_iff_eq]; omega
        have l2 : laterB (e' + 1) 0 f' m' = true := by unfold laterB; simp; omega
        clear hfe
        go_wp2_with fail
        refine (epoch_yes hm _).mono ?_
        rintro r w4 ⟨rfl, rfl⟩
        go_wp2_with fail
        refine (later_yes hs km _).mono ?_
        rintro r w4 ⟨rfl, rfl⟩
        rw [l2]
        go_wp2_with fail
        refine (number_yes hs _).mono ?_
        rintro r w4 ⟨rfl, rfl⟩
        go_wp2_with fail
        refine (awake_any _).mono ?_
        rintro r w4 ⟨rfl, rfl⟩
        go_wp2_with fail
        go_ret
        exact ⟨rfl, boxes3_below B3⟩
      · have hb1 : ((f' : Int) == (e' : Int)) = false := by rw [beq_eq_false_iff_ne]; omega
        clear hfe
        go_wp2_with fail
        refine (epoch_yes hm _).mono ?_
        rintro r w4 ⟨rfl, rfl⟩
        go_wp2_with fail
        refine (number_yes hs _).mono ?_
        rintro r w4 ⟨rfl, rfl⟩
        go_wp2_with fail
        refine (awake_any _).mono ?_
        rintro r w4 ⟨rfl, rfl⟩
        go_wp2_with fail
        go_ret
        exact ⟨rfl, boxes3_below B3⟩
    · go_wp2_with fail
      refine (restart_far hm he _).mono ?_
      rintro r w5 ⟨rfl, dr⟩
      go_wp2_with fail
      refine (awake_any _).mono ?_
      rintro r w6 ⟨rfl, rfl⟩
      go_wp2_with fail
      go_ret
      exact ⟨rfl, bel_next (boxes3_below B3) (dr.below _)⟩

set_option maxRecDepth 100000 in
set_option maxHeartbeats 4000000 in
theorem orders_3 (e n : Int) (h1 : Fits e n) (f m : Int) (h2 : Fits f m) (g k : Int) (h3 : Fits g k) (W : World) {e' n' f' m' g' k' : Nat}
    (hm : MV (quart e) (quart n) e' n') (km : MV (quart f) (quart m) f' m') (lm : MV (quart g) (quart k) g' k')
    (eA : laterB e' n' f' m' = false) (eB : laterB f' m' e' n' = true) :
    Calls Try.prog 10 #[.agg #[.int .i64 e, .int .i64 n], .agg #[.int .i64 f, .int .i64 m], .agg #[.int .i64 g, .int .i64 k]] W fun r w' => r = .returned (.bool true) ∧ Below W.heap.size W w' := by
  have B0 : Below (boxes3 W e n f m g k).heap.size (boxes3 W e n f m g k) (boxes3 W e n f m g k) := Below.refl _ _
  go_enter Try.func10, Try.ntmps10
  go_wp2_with fail
  change Calls _ _ _ (boxes3 W e n f m g k) _
  refine (num_any e n _ h1).mono ?_
  rintro r w1 ⟨rfl, b1⟩
  have B1 := bel_next B0 b1
  obtain ⟨c1, c2, c3, c4, c5, c6⟩ := tripS B1
  go_wp2_with fail
  refine (num_any f m _ h2).mono ?_
  rintro r w2 ⟨rfl, b2⟩
  have B2 := bel_next B1 b2
  clear c1 c2 c3 c4 c5 c6
  obtain ⟨c1, c2, c3, c4, c5, c6⟩ := tripS B2
  go_wp2_with fail
  refine (num_any g k _ h3).mono ?_
  rintro r w3 ⟨rfl, b3⟩
  have B3 := bel_next B2 b3
  clear c1 c2 c3 c4 c5 c6 b1 b2 b3 B0 B1 B2
  generalize quart e = a at *
  generalize quart n = b at *
  generalize quart f = c at *
  generalize quart m = d at *
  generalize quart g = p at *
  generalize quart k = q at *
  go_wp2_with fail
  refine (good_yes hm _).mono ?_
  rintro r w4 ⟨rfl, rfl⟩
  go_wp2_with fail
  refine (good_yes km _).mono ?_
  rintro r w4 ⟨rfl, rfl⟩
  go_wp2_with fail
  refine (good_yes lm _).mono ?_
  rintro r w4 ⟨rfl, rfl⟩
  have o1 : (FloatKind.f64.format.order a c == some .eq && FloatKind.f64.format.order b d == some .eq) = false := mv_ne hm km (by rintro ⟨rfl, rfl⟩; rw [later_self] at eB; cases eB)
  go_wp2_with fail
  refine (later_yes hm km _).mono ?_
  rintro r w4 ⟨rfl, rfl⟩
  rw [eA]
  go_wp2_with fail
  refine (later_yes hm km _).mono ?_
  rintro r w4 ⟨rfl, rfl⟩
  rw [eA]
  go_wp2_with fail
  refine (later_yes km hm _).mono ?_
  rintro r w4 ⟨rfl, rfl⟩
  rw [eB]
  go_wp2_with fail
  refine (later_yes hm hm _).mono ?_
  rintro r w4 ⟨rfl, rfl⟩
  rw [later_self]
  go_wp2_with fail
  refine (later_yes hm km _).mono ?_
  rintro r w4 ⟨rfl, rfl⟩
  rw [eA]
  by_cases hn : n' < 1099511627776
  · go_wp2_with fail
    refine (next_yes hm hn _).mono ?_
    rintro r w4 ⟨x1, y1, rfl, hx, rfl⟩
    have g1 : gapN e' n' e' (n' + 1) = 1 := by unfold gapN; rw [if_pos ⟨rfl, by omega⟩]; omega
    have g2 : gapB e' n' e' (n' + 1) = true := by unfold gapB; simp
    have l0 : laterB e' (n' + 1) e' n' = true := by unfold laterB; simp
    go_wp2_with fail
    refine (gap_yes hm hx _).mono ?_
    rintro r w4 ⟨rfl, rfl⟩
    rw [g1, g2]
    go_wp2_with fail
    refine (later_yes hx hm _).mono ?_
    rintro r w4 ⟨rfl, rfl⟩
    rw [l0]
    go_wp2_with fail
    refine (later_yes km hm _).mono ?_
    rintro r w4 ⟨rfl, rfl⟩
    rw [eB]
    have l3 : laterB e' (n' + 1) f' m' = false := by unfold laterB at eB ⊢; simp at eB ⊢; omega
    go_wp2_with fail
    refine (later_yes hx km _).mono ?_
    rintro r w4 ⟨rfl, rfl⟩
    rw [l3]
    by_cases he : e' < 1099511627776
    · go_wp2_with fail
      refine (restart_yes hm he _).mono ?_
      rintro r w4 ⟨x2, y2, rfl, hs, rfl⟩
      have l1 : laterB (e' + 1) 0 e' n' = true := by unfold laterB; simp
      go_wp2_with fail
      refine (later_yes hs hm _).mono ?_
      rintro r w4 ⟨rfl, rfl⟩
      rw [l1]
      go_wp2_with fail
      refine (epoch_yes km _).mono ?_
      rintro r w4 ⟨rfl, rfl⟩
      by_cases hfe : f' = e'
      · have hb1 : ((f' : Int) == (e' : Int)) = true := by rw [beq_iff_eq]; omega
        have l2 : laterB (e' + 1) 0 f' m' = true := by unfold laterB; simp; omega
        clear hfe
        go_wp2_with fail
        refine (epoch_yes hm _).mono ?_
        rintro r w4 ⟨rfl, rfl⟩
        go_wp2_with fail
        refine (later_yes hs km _).mono ?_
        rintro r w4 ⟨rfl, rfl⟩
        rw [l2]
        go_wp2_with fail
        refine (number_yes hs _).mono ?_
        rintro r w4 ⟨rfl, rfl⟩
        go_wp2_with fail
        refine (awake_any _).mono ?_
        rintro r w4 ⟨rfl, rfl⟩
        go_wp2_with fail
        go_ret
        exact ⟨rfl, boxes3_below B3⟩
      · have hb1 : ((f' : Int) == (e' : Int)) = false := by rw [beq_eq_false_iff_ne]; omega
        clear hfe
        go_wp2_with fail
        refine (epoch_yes hm _).mono ?_
        rintro r w4 ⟨rfl, rfl⟩
        go_wp2_with fail
        refine (number_yes hs _).mono ?_
        rintro r w4 ⟨rfl, rfl⟩
        go_wp2_with fail
        refine (awake_any _).mono ?_
        rintro r w4 ⟨rfl, rfl⟩
        go_wp2_with fail
        go_ret
        exact ⟨rfl, boxes3_below B3⟩
    · go_wp2_with fail
      refine (restart_far hm he _).mono ?_
      rintro r w5 ⟨rfl, dr⟩
      go_wp2_with fail
      refine (awake_any _).mono ?_
      rintro r w6 ⟨rfl, rfl⟩
      go_wp2_with fail
      go_ret
      exact ⟨rfl, bel_next (boxes3_below B3) (dr.below _)⟩
  · go_wp2_with fail
    refine (next_far hm hn _).mono ?_
    rintro r w5 ⟨rfl, dr0⟩
    replace B3 := bel_next B3 (dr0.below _)
    by_cases he : e' < 1099511627776
    · go_wp2_with fail
      refine (restart_yes hm he _).mono ?_
      rintro r w4 ⟨x2, y2, rfl, hs, rfl⟩
      have l1 : laterB (e' + 1) 0 e' n' = true := by unfold laterB; simp
      go_wp2_with fail
      refine (later_yes hs hm _).mono ?_
      rintro r w4 ⟨rfl, rfl⟩
      rw [l1]
      go_wp2_with fail
      refine (epoch_yes km _).mono ?_
      rintro r w4 ⟨rfl, rfl⟩
      by_cases hfe : f' = e'
      · have hb1 : ((f' : Int) == (e' : Int)) = true := by rw [beq_iff_eq]; omega
        have l2 : laterB (e' + 1) 0 f' m' = true := by unfold laterB; simp; omega
        clear hfe
        go_wp2_with fail
        refine (epoch_yes hm _).mono ?_
        rintro r w4 ⟨rfl, rfl⟩
        go_wp2_with fail
        refine (later_yes hs km _).mono ?_
        rintro r w4 ⟨rfl, rfl⟩
        rw [l2]
        go_wp2_with fail
        refine (number_yes hs _).mono ?_
        rintro r w4 ⟨rfl, rfl⟩
        go_wp2_with fail
        refine (awake_any _).mono ?_
        rintro r w4 ⟨rfl, rfl⟩
        go_wp2_with fail
        go_ret
        exact ⟨rfl, boxes3_below B3⟩
      · have hb1 : ((f' : Int) == (e' : Int)) = false := by rw [beq_eq_false_iff_ne]; omega
        clear hfe
        go_wp2_with fail
        refine (epoch_yes hm _).mono ?_
        rintro r w4 ⟨rfl, rfl⟩
        go_wp2_with fail
        refine (number_yes hs _).mono ?_
        rintro r w4 ⟨rfl, rfl⟩
        go_wp2_with fail
        refine (awake_any _).mono ?_
        rintro r w4 ⟨rfl, rfl⟩
        go_wp2_with fail
        go_ret
        exact ⟨rfl, boxes3_below B3⟩
    · go_wp2_with fail
      refine (restart_far hm he _).mono ?_
      rintro r w5 ⟨rfl, dr⟩
      go_wp2_with fail
      refine (awake_any _).mono ?_
      rintro r w6 ⟨rfl, rfl⟩
      go_wp2_with fail
      go_ret
      exact ⟨rfl, bel_next (boxes3_below B3) (dr.below _)⟩

set_option maxRecDepth 100000 in
set_option maxHeartbeats 4000000 in
theorem orders_4 (e n : Int) (h1 : Fits e n) (f m : Int) (h2 : Fits f m) (g k : Int) (h3 : Fits g k) (W : World) {e' n' f' m' g' k' : Nat}
    (hm : MV (quart e) (quart n) e' n') (km : MV (quart f) (quart m) f' m') (lm : MV (quart g) (quart k) g' k')
    (he : e' = f') (hn : n' = m') :
    Calls Try.prog 10 #[.agg #[.int .i64 e, .int .i64 n], .agg #[.int .i64 f, .int .i64 m], .agg #[.int .i64 g, .int .i64 k]] W fun r w' => r = .returned (.bool true) ∧ Below W.heap.size W w' := by
  subst he; subst hn
  have B0 : Below (boxes3 W e n f m g k).heap.size (boxes3 W e n f m g k) (boxes3 W e n f m g k) := Below.refl _ _
  go_enter Try.func10, Try.ntmps10
  go_wp2_with fail
  change Calls _ _ _ (boxes3 W e n f m g k) _
  refine (num_any e n _ h1).mono ?_
  rintro r w1 ⟨rfl, b1⟩
  have B1 := bel_next B0 b1
  obtain ⟨c1, c2, c3, c4, c5, c6⟩ := tripS B1
  go_wp2_with fail
  refine (num_any f m _ h2).mono ?_
  rintro r w2 ⟨rfl, b2⟩
  have B2 := bel_next B1 b2
  clear c1 c2 c3 c4 c5 c6
  obtain ⟨c1, c2, c3, c4, c5, c6⟩ := tripS B2
  go_wp2_with fail
  refine (num_any g k _ h3).mono ?_
  rintro r w3 ⟨rfl, b3⟩
  have B3 := bel_next B2 b3
  clear c1 c2 c3 c4 c5 c6 b1 b2 b3 B0 B1 B2
  generalize quart e = a at *
  generalize quart n = b at *
  generalize quart f = c at *
  generalize quart m = d at *
  generalize quart g = p at *
  generalize quart k = q at *
  go_wp2_with fail
  refine (good_yes hm _).mono ?_
  rintro r w4 ⟨rfl, rfl⟩
  go_wp2_with fail
  refine (good_yes km _).mono ?_
  rintro r w4 ⟨rfl, rfl⟩
  go_wp2_with fail
  refine (good_yes lm _).mono ?_
  rintro r w4 ⟨rfl, rfl⟩
  obtain ⟨o1, o2⟩ := mv_ord hm km
  have eA := later_self e' n'
  have eB := later_self e' n'
  go_wp2_with fail
  refine (later_yes hm km _).mono ?_
  rintro r w4 ⟨rfl, rfl⟩
  rw [eA]
  go_wp2_with fail
  refine (later_yes hm hm _).mono ?_
  rintro r w4 ⟨rfl, rfl⟩
  rw [eA]
  go_wp2_with fail
  refine (later_yes hm km _).mono ?_
  rintro r w4 ⟨rfl, rfl⟩
  rw [eA]
  by_cases hn : n' < 1099511627776
  · go_wp2_with fail
    refine (next_yes hm hn _).mono ?_
    rintro r w4 ⟨x1, y1, rfl, hx, rfl⟩
    have g1 : gapN e' n' e' (n' + 1) = 1 := by unfold gapN; rw [if_pos ⟨rfl, by omega⟩]; omega
    have g2 : gapB e' n' e' (n' + 1) = true := by unfold gapB; simp
    have l0 : laterB e' (n' + 1) e' n' = true := by unfold laterB; simp
    go_wp2_with fail
    refine (gap_yes hm hx _).mono ?_
    rintro r w4 ⟨rfl, rfl⟩
    rw [g1, g2]
    go_wp2_with fail
    refine (later_yes hx hm _).mono ?_
    rintro r w4 ⟨rfl, rfl⟩
    rw [l0]
    go_wp2_with fail
    refine (later_yes km hm _).mono ?_
    rintro r w4 ⟨rfl, rfl⟩
    rw [eB]
    by_cases he : e' < 1099511627776
    · go_wp2_with fail
      refine (restart_yes hm he _).mono ?_
      rintro r w4 ⟨x2, y2, rfl, hs, rfl⟩
      have l1 : laterB (e' + 1) 0 e' n' = true := by unfold laterB; simp
      go_wp2_with fail
      refine (later_yes hs hm _).mono ?_
      rintro r w4 ⟨rfl, rfl⟩
      rw [l1]
      go_wp2_with fail
      refine (epoch_yes km _).mono ?_
      rintro r w4 ⟨rfl, rfl⟩
      have l2 : laterB (e' + 1) 0 e' n' = true := by unfold laterB; simp
      go_wp2_with fail
      refine (epoch_yes hm _).mono ?_
      rintro r w4 ⟨rfl, rfl⟩
      go_wp2_with fail
      refine (later_yes hs km _).mono ?_
      rintro r w4 ⟨rfl, rfl⟩
      rw [l2]
      go_wp2_with fail
      refine (number_yes hs _).mono ?_
      rintro r w4 ⟨rfl, rfl⟩
      go_wp2_with fail
      refine (awake_any _).mono ?_
      rintro r w4 ⟨rfl, rfl⟩
      go_wp2_with fail
      go_ret
      exact ⟨rfl, boxes3_below B3⟩
    · go_wp2_with fail
      refine (restart_far hm he _).mono ?_
      rintro r w5 ⟨rfl, dr⟩
      go_wp2_with fail
      refine (awake_any _).mono ?_
      rintro r w6 ⟨rfl, rfl⟩
      go_wp2_with fail
      go_ret
      exact ⟨rfl, bel_next (boxes3_below B3) (dr.below _)⟩
  · go_wp2_with fail
    refine (next_far hm hn _).mono ?_
    rintro r w5 ⟨rfl, dr0⟩
    replace B3 := bel_next B3 (dr0.below _)
    by_cases he : e' < 1099511627776
    · go_wp2_with fail
      refine (restart_yes hm he _).mono ?_
      rintro r w4 ⟨x2, y2, rfl, hs, rfl⟩
      have l1 : laterB (e' + 1) 0 e' n' = true := by unfold laterB; simp
      go_wp2_with fail
      refine (later_yes hs hm _).mono ?_
      rintro r w4 ⟨rfl, rfl⟩
      rw [l1]
      go_wp2_with fail
      refine (epoch_yes km _).mono ?_
      rintro r w4 ⟨rfl, rfl⟩
      have l2 : laterB (e' + 1) 0 e' n' = true := by unfold laterB; simp
      go_wp2_with fail
      refine (epoch_yes hm _).mono ?_
      rintro r w4 ⟨rfl, rfl⟩
      go_wp2_with fail
      refine (later_yes hs km _).mono ?_
      rintro r w4 ⟨rfl, rfl⟩
      rw [l2]
      go_wp2_with fail
      refine (number_yes hs _).mono ?_
      rintro r w4 ⟨rfl, rfl⟩
      go_wp2_with fail
      refine (awake_any _).mono ?_
      rintro r w4 ⟨rfl, rfl⟩
      go_wp2_with fail
      go_ret
      exact ⟨rfl, boxes3_below B3⟩
    · go_wp2_with fail
      refine (restart_far hm he _).mono ?_
      rintro r w5 ⟨rfl, dr⟩
      go_wp2_with fail
      refine (awake_any _).mono ?_
      rintro r w6 ⟨rfl, rfl⟩
      go_wp2_with fail
      go_ret
      exact ⟨rfl, bel_next (boxes3_below B3) (dr.below _)⟩

theorem orders_any (e n : Int) (h1 : Fits e n) (f m : Int) (h2 : Fits f m) (g k : Int) (h3 : Fits g k) {W : World} :
    Calls Try.prog 10 #[.agg #[.int .i64 e, .int .i64 n], .agg #[.int .i64 f, .int .i64 m], .agg #[.int .i64 g, .int .i64 k]] W fun r w' => r = .returned (.bool true) ∧ Below W.heap.size W w' := by
  rcases mark_or_bad (quart e) (quart n) with ⟨e', n', hm⟩ | ha
  · rcases mark_or_bad (quart f) (quart m) with ⟨f', m', km⟩ | hc
    · rcases mark_or_bad (quart g) (quart k) with ⟨g', k', lm⟩ | hp
      · rcases later_cases e' n' f' m' g' k' with ⟨a1, a2, a3, a4⟩ | ⟨a1, a2, a3⟩ | ⟨a1, a2⟩ | ⟨a1, a2⟩
        · exact orders_1 e n h1 f m h2 g k h3 W hm km lm a1 a2 a3 a4
        · exact orders_2 e n h1 f m h2 g k h3 W hm km lm a1 a2 a3
        · exact orders_3 e n h1 f m h2 g k h3 W hm km lm a1 a2
        · exact orders_4 e n h1 f m h2 g k h3 W hm km lm a1 a2
      · exact orders_bad e n h1 f m h2 g k h3 W (.inr (.inr hp))
    · exact orders_bad e n h1 f m h2 g k h3 W (.inr (.inl hc))
  · exact orders_bad e n h1 f m h2 g k h3 W (.inl ha)

end Go.Proofs.Ytadplihjakiniaa

/- MarkAdds: the walk. -/
import Derived.Test.YtadplihjakiniaaMrkL2
namespace Go.Proofs.Ytadplihjakiniaa
open Go.RowKit

def GapIs (a b c d : Nat) (v : Int) (ok : Bool) : Prop := ∀ w, Calls Try.prog 26 #[.complex .f64 a b, .complex .f64 c d] w fun r w' => r = .returned (.tuple #[.int .i64 v, .bool ok]) ∧ w = w'
/-- Three gaps between three numbers. -/
theorem gaps_add (a b c d p q : Nat) : ∃ x ok1 y ok2 z ok3, GapIs a b c d x ok1 ∧ GapIs c d p q y ok2 ∧ GapIs a b p q z ok3 ∧ (ok1 = true → ok2 = true → ok3 = true ∧ z = x + y) ∧ 0 ≤ x ∧ x ≤ 1099511627776 ∧ 0 ≤ y ∧ y ≤ 1099511627776 := by
  rcases mark_or_bad a b with ⟨e, n, hm⟩ | hb
  · rcases mark_or_bad c d with ⟨f, m, km⟩ | hd
    · have bx : 0 ≤ gapN e n f m ∧ gapN e n f m ≤ 1099511627776 := by have := km.hn; unfold gapN; split <;> omega
      rcases mark_or_bad p q with ⟨g, k, lm⟩ | hq
      · have by_ : 0 ≤ gapN f m g k ∧ gapN f m g k ≤ 1099511627776 := by have := lm.hn; unfold gapN; split <;> omega
        refine ⟨_, _, _, _, _, _, fun w => gap_yes hm km w, fun w => gap_yes km lm w, fun w => gap_yes hm lm w, fun h1 h2 => ?_, bx.1, bx.2, by_.1, by_.2⟩
        have h1 := of_decide_eq_true h1
        have h2 := of_decide_eq_true h2
        have h3 : e = g ∧ n ≤ k := by omega
        refine ⟨decide_eq_true h3, ?_⟩
        unfold gapN
        rw [if_pos h1, if_pos h2, if_pos h3]
        omega
      · exact ⟨_, _, _, _, _, _, fun w => gap_yes hm km w, fun w => gap_no (.inr hq) w, fun w => gap_no (.inr hq) w, (fun _ h => by cases h), bx.1, bx.2, by omega, by omega⟩
    · rcases mark_or_bad p q with ⟨g, k, lm⟩ | hq
      · exact ⟨_, _, _, _, _, _, fun w => gap_no (.inr hd) w, fun w => gap_no (.inl hd) w, fun w => gap_yes hm lm w, (fun h => by cases h), by omega, by omega, by omega, by omega⟩
      · exact ⟨_, _, _, _, _, _, fun w => gap_no (.inr hd) w, fun w => gap_no (.inl hd) w, fun w => gap_no (.inr hq) w, (fun h => by cases h), by omega, by omega, by omega, by omega⟩
  · rcases mark_or_bad c d with ⟨f, m, km⟩ | hd
    · rcases mark_or_bad p q with ⟨g, k, lm⟩ | hq
      · have by_ : 0 ≤ gapN f m g k ∧ gapN f m g k ≤ 1099511627776 := by have := lm.hn; unfold gapN; split <;> omega
        exact ⟨_, _, _, _, _, _, fun w => gap_no (.inl hb) w, fun w => gap_yes km lm w, fun w => gap_no (.inl hb) w, (fun h => by cases h), by omega, by omega, by_.1, by_.2⟩
      · exact ⟨_, _, _, _, _, _, fun w => gap_no (.inl hb) w, fun w => gap_no (.inr hq) w, fun w => gap_no (.inl hb) w, (fun h => by cases h), by omega, by omega, by omega, by omega⟩
    · exact ⟨_, _, _, _, _, _, fun w => gap_no (.inl hb) w, fun w => gap_no (.inl hd) w, fun w => gap_no (.inl hb) w, (fun h => by cases h), by omega, by omega, by omega, by omega⟩

/-- Three pairs in variables of their own. -/
abbrev TripS (W : World) (e n f m g k : Int) (w' : World) : Prop := w'.cell? ⟨W.heap.size, 0, none⟩ = some (.int .i64 e) ∧ w'.cell? ⟨W.heap.size, 1, none⟩ = some (.int .i64 n) ∧ w'.cell? ⟨W.heap.size + 1, 0, none⟩ = some (.int .i64 f) ∧ w'.cell? ⟨W.heap.size + 1, 1, none⟩ = some (.int .i64 m) ∧ w'.cell? ⟨W.heap.size + 2, 0, none⟩ = some (.int .i64 g) ∧ w'.cell? ⟨W.heap.size + 2, 1, none⟩ = some (.int .i64 k)
def boxes3 (W : World) (e n f m g k : Int) : World := (boxes W e n f m).alloc (.cells #[.int .i64 g, .int .i64 k] 35)
theorem boxes3_size (W : World) (e n f m g k : Int) : (boxes3 W e n f m g k).heap.size = W.heap.size + 3 := by simp [boxes3, boxes]
theorem tripS {W w' : World} {e n f m g k : Int} (h : Below (boxes3 W e n f m g k).heap.size (boxes3 W e n f m g k) w') : TripS W e n f m g k w' := by
  have h0 : Below (boxes W e n f m).heap.size (boxes W e n f m) (boxes3 W e n f m g k) := (Below.refl _ _).alloc (Nat.le_refl _) _
  obtain ⟨c1, c2, c3, c4⟩ := pairS (bel_next h0 h)
  have h2 : Blk (boxes3 W e n f m g k) (W.heap.size + 2) #[.int .i64 g, .int .i64 k] 35 := by
    have := Blk.new (boxes W e n f m) #[.int .i64 g, .int .i64 k] 35
    rwa [boxes_size] at this
  have k2 := h2.kp (S := fun _ => False) (Kp.of_below h) (fun h => h)
  exact ⟨c1, c2, c3, c4, by rw [k2.cell]; rfl, by rw [k2.cell]; rfl⟩
theorem boxes3_below {W w' : World} {e n f m g k : Int} (h : Below (boxes3 W e n f m g k).heap.size (boxes3 W e n f m g k) w') : Below W.heap.size W w' := by
  have h0 : Below (boxes W e n f m).heap.size (boxes W e n f m) (boxes3 W e n f m g k) := (Below.refl _ _).alloc (Nat.le_refl _) _
  exact boxes_below (bel_next h0 h)

set_option maxHeartbeats 2000000 in
theorem adds_any (e n : Int) (h1 : Fits e n) (f m : Int) (h2 : Fits f m) (g k : Int) (h3 : Fits g k) {W : World} :
    Calls Try.prog 6 #[.agg #[.int .i64 e, .int .i64 n], .agg #[.int .i64 f, .int .i64 m], .agg #[.int .i64 g, .int .i64 k]] W fun r w' => r = .returned (.bool true) ∧ Below W.heap.size W w' := by
  have B0 : Below (boxes3 W e n f m g k).heap.size (boxes3 W e n f m g k) (boxes3 W e n f m g k) := Below.refl _ _
  obtain ⟨x, ok1, y, ok2, z, ok3, G1, G2, G3, hadd, x0, x1, y0, y1⟩ := gaps_add (quart e) (quart n) (quart f) (quart m) (quart g) (quart k)
  have main : ∀ (d1 : (ok1 = true ∧ ok2 = true) ∨ ok1 = false ∨ (ok1 = true ∧ ok2 = false)), Calls Try.prog 6 #[.agg #[.int .i64 e, .int .i64 n], .agg #[.int .i64 f, .int .i64 m], .agg #[.int .i64 g, .int .i64 k]] W fun r w' => r = .returned (.bool true) ∧ Below W.heap.size W w' := by
    intro d1
    have hz : ok1 = true → ok2 = true → ok3 = true ∧ z = x + y := hadd
    have HZ := Lib.hid hz
    clear hadd hz
    rcases d1 with ⟨rfl, rfl⟩ | rfl | ⟨rfl, rfl⟩
    all_goals
      try (obtain ⟨e1, e2⟩ := HZ.out rfl rfl; subst e1; subst e2)
      clear HZ
      go_enter Try.func6, Try.ntmps6
      go_wp2_with fail
      change Code.wp _ _ _ _ (boxes3 W e n f m g k)
      obtain ⟨W0, hW0⟩ : ∃ W0, W0 = boxes3 W e n f m g k := ⟨_, rfl⟩
      rw [← hW0]
      have C0 : Below (boxes3 W e n f m g k).heap.size (boxes3 W e n f m g k) W0 := by rw [hW0]; exact B0
      have s0 := tripS C0
      clear B0 hW0
      go_region_held3 (fun w' => TripS W e n f m g k w') ((first | assumption | exact s1 | exact s2)) (first | (go_at_call_of 21 (Value.agg #[.int .i64 e, .int .i64 n]); refine (num_any e n _ h1).mono ?_; rintro r w1 ⟨rfl, b1'⟩; have b1 := below_undrew b1'; have B1 := bel_next C0 b1; have s1 := tripS B1) | (go_at_call_of 21 (Value.agg #[.int .i64 f, .int .i64 m]); refine (num_any f m _ h2).mono ?_; rintro r w2 ⟨rfl, b2⟩; have B2 := bel_next B1 b2; have s2 := tripS B2) | (go_at_call 26; refine (G1 _).mono ?_; rintro r w3 ⟨rfl, rfl⟩))
      clear C0 s0 b1' b1 B1 s1 b2 s2 G1
      go_wp2_with fail
      have s2 := tripS B2
      go_region_held3 (fun w' => TripS W e n f m g k w') ((first | assumption | exact s3 | exact s4)) (first | (go_at_call_of 21 (Value.agg #[.int .i64 f, .int .i64 m]); refine (num_any f m _ h2).mono ?_; rintro r w3 ⟨rfl, b3'⟩; have b3 := below_undrew b3'; have B3 := bel_next B2 b3; have s3 := tripS B3) | (go_at_call_of 21 (Value.agg #[.int .i64 g, .int .i64 k]); refine (num_any g k _ h3).mono ?_; rintro r w4 ⟨rfl, b4⟩; have B4 := bel_next B3 b4; have s4 := tripS B4) | (go_at_call 26; refine (G2 _).mono ?_; rintro r w5 ⟨rfl, rfl⟩))
      clear B2 s2 b3' b3 B3 s3 b4 s4 G2
      go_wp2_with fail
      have s4 := tripS B4
      go_region_held3 (fun w' => TripS W e n f m g k w') ((first | assumption | exact s5 | exact s6)) (first | (go_at_call_of 21 (Value.agg #[.int .i64 e, .int .i64 n]); refine (num_any e n _ h1).mono ?_; rintro r w5 ⟨rfl, b5'⟩; have b5 := below_undrew b5'; have B5 := bel_next B4 b5; have s5 := tripS B5) | (go_at_call_of 21 (Value.agg #[.int .i64 g, .int .i64 k]); refine (num_any g k _ h3).mono ?_; rintro r w6 ⟨rfl, b6⟩; have B6 := bel_next B5 b6; have s6 := tripS B6) | (go_at_call 26; refine (G3 _).mono ?_; rintro r w7 ⟨rfl, rfl⟩))
      clear B4 s4 b5' b5 B5 s5 b6 s6 G3
      go_wp2_with fail
      refine (awake_any _).mono ?_
      rintro r w' ⟨rfl, rfl⟩
      go_wp2_with fail
      go_ret
      exact ⟨rfl, boxes3_below B6⟩
  exact main (by cases ok1 <;> cases ok2 <;> simp)

end Go.Proofs.Ytadplihjakiniaa

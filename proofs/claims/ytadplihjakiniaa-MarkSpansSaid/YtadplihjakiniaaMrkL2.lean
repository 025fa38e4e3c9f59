/- MarkNexts, MarkGaps, MarkAdds: the walks. -/
import Derived.Test.YtadplihjakiniaaMrkL1
import Derived.Deep.RegionHeld3
import Derived.Deep.RegionWith
namespace Go.Proofs.Ytadplihjakiniaa
open Go.RowKit

/-- What Next and Restart come to: no mark, or the mark of two parts. -/
def Is (o : Option (Nat × Nat)) (a b : Nat) (k : Int) : Prop :=
  match o with
  | none => a = 0 ∧ b = 0 ∧ k = 1
  | some (e, n) => MV a b e n ∧ k = 0
def Res (o : Option (Nat × Nat)) (w : World) (r : Ending) (w' : World) : Prop := ∃ a b k, r = .returned (.tuple #[.complex .f64 a b, .int .i64 k]) ∧ Is o a b k ∧ Drawn w w'
theorem res_no {w : World} {r : Ending} {w' : World} (h : NoMark w r w') : Res none w r w' := ⟨0, 0, 1, h.1, ⟨rfl, rfl, rfl⟩, h.2⟩
theorem res_got {e n : Nat} {w : World} {r : Ending} {w' : World} (h : GotMark e n w r w') : Res (some (e, n)) w r w' := by
  obtain ⟨a, b, h1, h2, rfl⟩ := h
  exact ⟨a, b, 0, h1, ⟨h2, rfl⟩, Drawn.refl _⟩
theorem is_same {o : Option (Nat × Nat)} {a b c d : Nat} {k j : Int} (h : Is o a b k) (h' : Is o c d j) : k = j ∧ FloatKind.f64.format.order a c = some .eq ∧ FloatKind.f64.format.order b d = some .eq := by
  cases o with
  | none =>
    obtain ⟨rfl, rfl, rfl⟩ := h
    obtain ⟨rfl, rfl, rfl⟩ := h'
    exact ⟨rfl, ord_eq val_zero val_zero, ord_eq val_zero val_zero⟩
  | some p =>
    obtain ⟨h1, rfl⟩ := h
    obtain ⟨h2, rfl⟩ := h'
    exact ⟨rfl, (mv_ord h1 h2).1, (mv_ord h1 h2).2⟩

theorem nexts_both (a b : Nat) : ∃ o, (∀ w, Calls Try.prog 22 #[.complex .f64 a b] w (Res o w)) ∧ (∀ w, Calls Try.prog 24 #[.complex .f64 a b] w (Res o w)) := by
  rcases mark_or_bad a b with ⟨e, n, hm⟩ | hb
  · by_cases h : n < 1099511627776
    · exact ⟨some (e, n + 1), fun w => (next_yes hm h w).mono fun _ _ h => res_got h, fun w => (rnext_yes hm h w).mono fun _ _ h => res_got h⟩
    · exact ⟨none, fun w => (next_far hm h w).mono fun _ _ h => res_no h, fun w => (rnext_far hm h w).mono fun _ _ h => res_no h⟩
  · exact ⟨none, fun w => (next_no hb w).mono fun _ _ h => res_no h, fun w => (rnext_no hb w).mono fun _ _ h => res_no h⟩
theorem restarts_both (a b : Nat) : ∃ o, (∀ w, Calls Try.prog 23 #[.complex .f64 a b] w (Res o w)) ∧ (∀ w, Calls Try.prog 25 #[.complex .f64 a b] w (Res o w)) := by
  rcases mark_or_bad a b with ⟨e, n, hm⟩ | hb
  · by_cases h : e < 1099511627776
    · exact ⟨some (e + 1, 0), fun w => (restart_yes hm h w).mono fun _ _ h => res_got h, fun w => (rrestart_yes hm h w).mono fun _ _ h => res_got h⟩
    · exact ⟨none, fun w => (restart_far hm h w).mono fun _ _ h => res_no h, fun w => (rrestart_far hm h w).mono fun _ _ h => res_no h⟩
  · exact ⟨none, fun w => (restart_no hb w).mono fun _ _ h => res_no h, fun w => (rrestart_no hb w).mono fun _ _ h => res_no h⟩
theorem gaps_both (a b c d : Nat) : ∃ (v : Int) (ok : Bool), (∀ w, Calls Try.prog 26 #[.complex .f64 a b, .complex .f64 c d] w fun r w' => r = .returned (.tuple #[.int .i64 v, .bool ok]) ∧ w = w') ∧
    (∀ w, Calls Try.prog 28 #[.complex .f64 a b, .complex .f64 c d] w fun r w' => r = .returned (.tuple #[.int .i64 v, .bool ok]) ∧ w = w') := by
  rcases mark_or_bad a b with ⟨e, n, hm⟩ | hb
  · rcases mark_or_bad c d with ⟨f, m, km⟩ | hd
    · exact ⟨_, _, fun w => gap_yes hm km w, fun w => rgap_yes hm km w⟩
    · exact ⟨_, _, fun w => gap_no (.inr hd) w, fun w => rgap_no (.inr hd) w⟩
  · exact ⟨_, _, fun w => gap_no (.inl hb) w, fun w => rgap_no (.inl hb) w⟩
theorem laters_both (a b c d : Nat) : ∃ ok : Bool, (∀ w, Calls Try.prog 27 #[.complex .f64 a b, .complex .f64 c d] w fun r w' => r = .returned (.bool ok) ∧ w = w') ∧
    (∀ w, Calls Try.prog 29 #[.complex .f64 a b, .complex .f64 c d] w fun r w' => r = .returned (.bool ok) ∧ w = w') := by
  rcases mark_or_bad a b with ⟨e, n, hm⟩ | hb
  · rcases mark_or_bad c d with ⟨f, m, km⟩ | hd
    · exact ⟨_, fun w => later_yes hm km w, fun w => rlater_yes hm km w⟩
    · exact ⟨_, fun w => later_no (.inr hd) w, fun w => rlater_no (.inr hd) w⟩
  · exact ⟨_, fun w => later_no (.inl hb) w, fun w => rlater_no (.inl hb) w⟩

set_option maxHeartbeats 1000000 in
theorem nexts_any (e n : Int) (h : Fits e n) {W : World} :
    Calls Try.prog 5 #[.agg #[.int .i64 e, .int .i64 n]] W fun r w' => r = .returned (.bool true) ∧ Below W.heap.size W w' := by
  have b0 : Below W.heap.size W (W.alloc (.cells #[.int .i64 e, .int .i64 n] 35)) := (Below.refl _ _).alloc (Nat.le_refl _) _
  go_enter Try.func5, Try.ntmps5
  go_wp2_with fail
  refine (num_any e n _ h).mono ?_
  rintro r w1 ⟨rfl, b1⟩
  have B1 := bel_next b0 b1
  clear b0 b1
  generalize quart e = a
  generalize quart n = b
  obtain ⟨o, n1, n2⟩ := nexts_both a b
  obtain ⟨u, r1, r2⟩ := restarts_both a b
  have N1 := Lib.hid n1
  have N2 := Lib.hid n2
  have R1 := Lib.hid r1
  have R2 := Lib.hid r2
  clear n1 n2 r1 r2
  go_wp2_with fail
  refine (N1.out _).mono ?_
  rintro r w2 ⟨x1, y1, k1, rfl, i1, e1⟩
  go_wp2_with fail
  refine (R1.out _).mono ?_
  rintro r w3 ⟨x2, y2, k2, rfl, i2, e2⟩
  go_wp2_with fail
  refine (N2.out _).mono ?_
  rintro r w4 ⟨x3, y3, k3, rfl, i3, e3⟩
  go_wp2_with fail
  refine (R2.out _).mono ?_
  rintro r w5 ⟨x4, y4, k4, rfl, i4, e4⟩
  obtain ⟨rfl, o1, o2⟩ := is_same i1 i3
  obtain ⟨rfl, o3, o4⟩ := is_same i2 i4
  go_wp2_with fail
  refine (awake_any _).mono ?_
  rintro r w' ⟨rfl, rfl⟩
  go_wp2_with fail
  go_ret
  exact ⟨rfl, bel_next (bel_next (bel_next (bel_next B1 (e1.below _)) (e2.below _)) (e3.below _)) (e4.below _)⟩

/-- Two pairs in variables of their own. -/
abbrev PairS (W : World) (e n f m : Int) (w' : World) : Prop := w'.cell? ⟨W.heap.size, 0, none⟩ = some (.int .i64 e) ∧ w'.cell? ⟨W.heap.size, 1, none⟩ = some (.int .i64 n) ∧ w'.cell? ⟨W.heap.size + 1, 0, none⟩ = some (.int .i64 f) ∧ w'.cell? ⟨W.heap.size + 1, 1, none⟩ = some (.int .i64 m)
def boxes (W : World) (e n f m : Int) : World := (W.alloc (.cells #[.int .i64 e, .int .i64 n] 35)).alloc (.cells #[.int .i64 f, .int .i64 m] 35)
theorem boxes_size (W : World) (e n f m : Int) : (boxes W e n f m).heap.size = W.heap.size + 2 := by simp [boxes]
theorem pairS {W w' : World} {e n f m : Int} (h : Below (boxes W e n f m).heap.size (boxes W e n f m) w') : PairS W e n f m w' := by
  have hs := boxes_size W e n f m
  have h1 : Blk (boxes W e n f m) W.heap.size #[.int .i64 e, .int .i64 n] 35 := (Blk.new W _ _).alloc _
  have h2 : Blk (boxes W e n f m) (W.heap.size + 1) #[.int .i64 f, .int .i64 m] 35 := by
    have := Blk.new (W.alloc (.cells #[.int .i64 e, .int .i64 n] 35)) #[.int .i64 f, .int .i64 m] 35
    rwa [show (W.alloc (.cells #[.int .i64 e, .int .i64 n] 35)).heap.size = W.heap.size + 1 by simp] at this
  have k1 := h1.kp (S := fun _ => False) (Kp.of_below h) (fun h => h)
  have k2 := h2.kp (S := fun _ => False) (Kp.of_below h) (fun h => h)
  exact ⟨by rw [k1.cell]; rfl, by rw [k1.cell]; rfl, by rw [k2.cell]; rfl, by rw [k2.cell]; rfl⟩
theorem boxes_below {W w' : World} {e n f m : Int} (h : Below (boxes W e n f m).heap.size (boxes W e n f m) w') : Below W.heap.size W w' := by
  have b0 : Below W.heap.size W (boxes W e n f m) := ((Below.refl _ _).alloc (Nat.le_refl _) _).alloc (by simp) _
  exact bel_next b0 h

set_option maxHeartbeats 1000000 in
theorem gaps_any (e n : Int) (h : Fits e n) (f m : Int) (k : Fits f m) {W : World} :
    Calls Try.prog 8 #[.agg #[.int .i64 e, .int .i64 n], .agg #[.int .i64 f, .int .i64 m]] W fun r w' => r = .returned (.bool true) ∧ Below W.heap.size W w' := by
  have B0 : Below (boxes W e n f m).heap.size (boxes W e n f m) (boxes W e n f m) := Below.refl _ _
  obtain ⟨v, ok, g1, g2⟩ := gaps_both (quart e) (quart n) (quart f) (quart m)
  obtain ⟨l, l1, l2⟩ := laters_both (quart e) (quart n) (quart f) (quart m)
  have G1 := Lib.hid g1
  have G2 := Lib.hid g2
  have L1 := Lib.hid l1
  have L2 := Lib.hid l2
  clear g1 g2 l1 l2
  go_enter Try.func8, Try.ntmps8
  go_wp2_with fail
  change Code.wp _ _ _ _ (boxes W e n f m)
  obtain ⟨W0, hW0⟩ : ∃ W0, W0 = boxes W e n f m := ⟨_, rfl⟩
  rw [← hW0]
  have C0 : Below (boxes W e n f m).heap.size (boxes W e n f m) W0 := by rw [hW0]; exact B0
  have s0 := pairS C0
  clear B0 hW0
  go_region_held3 (fun w' => PairS W e n f m w') ((first | assumption | exact s1 | exact s2)) (first | (go_at_call_of 21 (Value.agg #[.int .i64 e, .int .i64 n]); refine (num_any e n _ h).mono ?_; rintro r w1 ⟨rfl, b1'⟩; have b1 := below_undrew b1'; have B1 := bel_next C0 b1; have s1 := pairS B1) | (go_at_call_of 21 (Value.agg #[.int .i64 f, .int .i64 m]); refine (num_any f m _ k).mono ?_; rintro r w2 ⟨rfl, b2⟩; have B2 := bel_next B1 b2; have s2 := pairS B2) | (go_at_call 26; refine (G1.out _).mono ?_; rintro r w3 ⟨rfl, rfl⟩))
  clear C0 s0 b1' b1 B1 s1 b2 s2
  go_wp2_with fail
  have s2 := pairS B2
  go_region_held3 (fun w' => PairS W e n f m w') ((first | assumption | exact s3 | exact s4)) (first | (go_at_call_of 21 (Value.agg #[.int .i64 e, .int .i64 n]); refine (num_any e n _ h).mono ?_; rintro r w3 ⟨rfl, b3'⟩; have b3 := below_undrew b3'; have B3 := bel_next B2 b3; have s3 := pairS B3) | (go_at_call_of 21 (Value.agg #[.int .i64 f, .int .i64 m]); refine (num_any f m _ k).mono ?_; rintro r w4 ⟨rfl, b4⟩; have B4 := bel_next B3 b4; have s4 := pairS B4) | (go_at_call 28; refine (G2.out _).mono ?_; rintro r w5 ⟨rfl, rfl⟩))
  clear B2 s2 b3' b3 B3 s3 b4 s4
  go_wp2_with fail
  have s4 := pairS B4
  go_region_held3 (fun w' => PairS W e n f m w') ((first | assumption | exact s5 | exact s6 | exact s7 | exact s8)) (first | (go_at_call_of 21 (Value.agg #[.int .i64 e, .int .i64 n]); have _t := B4; refine (num_any e n _ h).mono ?_; rintro r w5 ⟨rfl, b5'⟩; have b5 := below_undrew b5'; have B5 := bel_next B4 b5; clear _t B4; have s5 := pairS B5) | (go_at_call_of 21 (Value.agg #[.int .i64 f, .int .i64 m]); have _t := B5; refine (num_any f m _ k).mono ?_; rintro r w6 ⟨rfl, b6⟩; have B6 := bel_next B5 b6; clear _t B5; have s6 := pairS B6) | (go_at_call 27; refine (L1.out _).mono ?_; rintro r w7 ⟨rfl, rfl⟩) | (go_at_call_of 21 (Value.agg #[.int .i64 e, .int .i64 n]); have _t := B6; refine (num_any e n _ h).mono ?_; rintro r w7 ⟨rfl, b7⟩; have B7 := bel_next B6 b7; clear _t B6; have s7 := pairS B7) | (go_at_call_of 21 (Value.agg #[.int .i64 f, .int .i64 m]); have _t := B7; refine (num_any f m _ k).mono ?_; rintro r w8 ⟨rfl, b8⟩; have B8 := bel_next B7 b8; clear _t B7; have s8 := pairS B8) | (go_at_call 29; refine (L2.out _).mono ?_; rintro r w9 ⟨rfl, rfl⟩) | (go_at_call 20; refine (awake_any _).mono ?_; rintro r w9 ⟨rfl, rfl⟩))
  go_wp2_with fail
  go_ret
  exact ⟨rfl, boxes_below B8⟩

end Go.Proofs.Ytadplihjakiniaa

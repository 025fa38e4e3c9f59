/- Marks: whole, Good, Epoch, Number, and the document's whole and Parts. -/
import Derived.Test.YtmhcjkiaogimgaaRows
import Derived.Test.YtmhcjkiaogimgaaMem
import Derived.Test.YtmhcjkiaogimgaaIee
namespace Go.Proofs.Ytmhcjkiaogimgaa
open Go.RowKit

/-- A whole number in a mark's range. -/
def Whole (x : Nat) : Prop := ∃ n : Nat, n ≤ 1099511627776 ∧ Val x n

theorem trunc_run (args : Array Value) (w : World) : (callFunc 88 args).run Try.prog w = ((Extern.MathFloor.toIntegral "math.archTrunc" .zero args).run Try.prog w).andThen fun v w' => .ok (.value v) w' :=
  run_callFunc_extern Try.func88 (by kernel_rfl) (by kernel_rfl) (by kernel_rfl) (by kernel_rfl) args w

/-- The whole part of a word in range. -/
def truncB (x : Nat) : Nat := Ieee.double.write ((Ieee.double.read x).integral .zero)
theorem integral_run {x t : Nat} (h : InR x t) (w : World) : (Extern.MathFloor.toIntegral "math.archTrunc" .zero #[.float .f64 x]).run Try.prog w = .ok (.float .f64 (truncB x)) w := by
  obtain ⟨s, m, k, hr, _, _⟩ := h.rd
  have hd : FloatKind.f64.decode x = .number s m (-(k : Int)) := hr
  have hb : FloatKind.f64.encode (Ieee.Datum.integral .zero (FloatKind.f64.decode x)) = truncB x := rfl
  rw [← hb]
  delta Extern.MathFloor.toIntegral
  show Sem.run Try.prog (match FloatKind.f64.decode x with | .nan s t => _ | d => _) w = _
  rw [hd]
  rfl

theorem Trunc_in {x t : Nat} (h : InR x t) (w : World) :
    Calls Try.prog 87 #[.float .f64 x] w fun e w' => e = .returned (.float .f64 (truncB x)) ∧ w = w' := by
  have h1 := trunc_run #[.float .f64 x]
  have h2 := integral_run h
  go_enter Try.func87, Try.ntmps87
  go_wp2
  go_ret
  exact ⟨rfl, rfl⟩

/-- The two tests of a mark's range. -/
def b0 (x : Nat) : Bool := FloatKind.f64.format.order x 0 == some .gt || FloatKind.f64.format.order x 0 == some .eq
def b1 (x : Nat) : Bool := FloatKind.f64.format.order x 4787326403894837248 == some .lt || FloatKind.f64.format.order x 4787326403894837248 == some .eq
theorem inR_of {x : Nat} (h0 : b0 x = true) (h1 : b1 x = true) : ∃ t, InR x t := by
  unfold b0 at h0
  unfold b1 at h1
  simp only [Bool.or_eq_true, beq_iff_eq] at h0 h1
  exact range_inR h0 h1
theorem b0_val {x : Nat} {n : Int} (h : Val x n) (hn : 0 ≤ n) : b0 x = true := by
  have := val_order h val_zero
  unfold b0
  show (Ieee.double.order x 0 == _ || Ieee.double.order x 0 == _) = true
  rw [this]
  rcases Int.lt_trichotomy n 0 with h | h | h
  · omega
  · subst h; rw [cmp_eq]; rfl
  · rw [cmp_gt h]; rfl
theorem b1_val {x : Nat} {n : Int} (h : Val x n) (hn : n ≤ 1099511627776) : b1 x = true := by
  have := val_order h val_max
  unfold b1
  show (Ieee.double.order x _ == _ || Ieee.double.order x _ == _) = true
  rw [this]
  rcases Int.lt_trichotomy n 1099511627776 with h | h | h
  · rw [cmp_lt h]; rfl
  · subst h; rw [cmp_eq]; rfl
  · omega

set_option maxHeartbeats 400000 in
theorem mwhole_out {x : Nat} (h : b0 x = false ∨ (b0 x = true ∧ b1 x = false)) (w : World) :
    Calls Try.prog 85 #[.float .f64 x] w fun e w' => e = .returned (.bool false) ∧ w = w' := by
  rcases h with h | ⟨h, h'⟩
  · have h0 : (FloatKind.f64.format.order x 0 == some .gt || FloatKind.f64.format.order x 0 == some .eq) = false := h
    clear h
    go_enter Try.func85, Try.ntmps85
    go_wp2_with fail
    go_ret
    exact ⟨rfl, rfl⟩
  · have h0 : (FloatKind.f64.format.order x 0 == some .gt || FloatKind.f64.format.order x 0 == some .eq) = true := h
    have h1 : (FloatKind.f64.format.order x 4787326403894837248 == some .lt || FloatKind.f64.format.order x 4787326403894837248 == some .eq) = false := h'
    clear h h'
    go_enter Try.func85, Try.ntmps85
    go_wp2_with fail
    go_ret
    exact ⟨rfl, rfl⟩
set_option maxHeartbeats 400000 in
theorem mwhole_in {x t : Nat} (h0 : b0 x = true) (h1 : b1 x = true) (h : InR x t) (w : World) :
    Calls Try.prog 85 #[.float .f64 x] w fun e w' => e = .returned (.bool (Ieee.double.order (truncB x) x == some .eq)) ∧ w = w' := by
  have h0' : (FloatKind.f64.format.order x 0 == some .gt || FloatKind.f64.format.order x 0 == some .eq) = true := h0
  have h1' : (FloatKind.f64.format.order x 4787326403894837248 == some .lt || FloatKind.f64.format.order x 4787326403894837248 == some .eq) = true := h1
  clear h0 h1
  go_enter Try.func85, Try.ntmps85
  go_wp2_with fail
  refine (Trunc_in h w).mono ?_
  rintro e w' ⟨rfl, rfl⟩
  go_wp2_with fail
  go_ret
  exact ⟨rfl, rfl⟩

theorem mwhole_yes {x n : Nat} (h : Val x n) (hn : n ≤ 1099511627776) (w : World) :
    Calls Try.prog 85 #[.float .f64 x] w fun e w' => e = .returned (.bool true) ∧ w = w' := by
  have hi := val_inR h hn
  refine (mwhole_in (b0_val h (by omega)) (b1_val h (by omega)) hi w).mono fun e w' ⟨he, hw⟩ => ⟨?_, hw⟩
  rw [he, show Ieee.double.order (truncB x) x = some .eq from (hi.eq hi.trunc).2 h]
  rfl
theorem mwhole_no {x : Nat} (h : ¬ Whole x) (w : World) :
    Calls Try.prog 85 #[.float .f64 x] w fun e w' => e = .returned (.bool false) ∧ w = w' := by
  cases h0 : b0 x with
  | false => exact mwhole_out (.inl h0) w
  | true =>
    cases h1 : b1 x with
    | false => exact mwhole_out (.inr ⟨h0, h1⟩) w
    | true =>
      obtain ⟨t, hi⟩ := inR_of h0 h1
      refine (mwhole_in h0 h1 hi w).mono fun e w' ⟨he, hw⟩ => ⟨?_, hw⟩
      rw [he]
      refine bb (beq_eq_false_iff_ne.2 fun hq => h ⟨t, hi.le, ?_⟩)
      exact (hi.eq hi.trunc).1 hq

set_option maxHeartbeats 400000 in
theorem rwhole_out {x : Nat} (h : b0 x = false ∨ (b0 x = true ∧ b1 x = false)) (w : World) :
    Calls Try.prog 73 #[.float .f64 x] w fun e w' => e = .returned (.tuple #[.int .i64 0, .bool false]) ∧ w = w' := by
  rcases h with h | ⟨h, h'⟩
  · have h0 : (FloatKind.f64.format.order x 0 == some .gt || FloatKind.f64.format.order x 0 == some .eq) = false := h
    clear h
    go_enter Try.func73, Try.ntmps73
    go_wp2_with fail
    go_ret2
    exact ⟨rfl, rfl⟩
  · have h0 : (FloatKind.f64.format.order x 0 == some .gt || FloatKind.f64.format.order x 0 == some .eq) = true := h
    have h1 : (FloatKind.f64.format.order x 4787326403894837248 == some .lt || FloatKind.f64.format.order x 4787326403894837248 == some .eq) = false := h'
    clear h h'
    go_enter Try.func73, Try.ntmps73
    go_wp2_with fail
    go_ret2
    exact ⟨rfl, rfl⟩
theorem int_run {x t : Nat} (h : InR x t) (src dst : TypeId) (hs : (Try.prog.underlying src).isSome = true) (hd : Try.prog.underlying dst = some (.int .i64)) (w : World) : (convert src dst (.float .f64 x)).run Try.prog w = .ok (.int .i64 t) w := by
  refine run_convert_float_int w src dst .f64 .i64 x t hs hd ?_
  have hi := h.toInt
  have hle := h.le
  unfold floatToIntVal
  show (match (Ieee.double.read x).toInt .zero with | some n => _ | none => _) = _
  rw [hi]
  have h1 : IntKind.i64.min = -9223372036854775808 := by rfl
  have h2 : IntKind.i64.max = 9223372036854775807 := by rfl
  simp only [h1, h2]
  rw [if_pos (by omega)]
set_option maxHeartbeats 400000 in
theorem rwhole_in {x t : Nat} (h0 : b0 x = true) (h1 : b1 x = true) (h : InR x t) (w : World) :
    Calls Try.prog 73 #[.float .f64 x] w fun e w' => e = .returned (.tuple #[.int .i64 t, .bool (Ieee.double.order (FloatKind.f64.nearest t) x == some .eq)]) ∧ w = w' := by
  have h0' : (FloatKind.f64.format.order x 0 == some .gt || FloatKind.f64.format.order x 0 == some .eq) = true := h0
  have h1' : (FloatKind.f64.format.order x 4787326403894837248 == some .lt || FloatKind.f64.format.order x 4787326403894837248 == some .eq) = true := h1
  have hc := int_run h 41 3 (by kernel_rfl) Try.underlying3
  have hle := h.le
  clear h0 h1
  go_enter Try.func73, Try.ntmps73
  go_wp2_with fail
  go_ret2
  exact ⟨rfl, rfl⟩

theorem rwhole_yes {x n : Nat} (h : Val x n) (hn : n ≤ 1099511627776) (w : World) :
    Calls Try.prog 73 #[.float .f64 x] w fun e w' => e = .returned (.tuple #[.int .i64 n, .bool true]) ∧ w = w' := by
  have hi := val_inR h hn
  refine (rwhole_in (b0_val h (by omega)) (b1_val h (by omega)) hi w).mono fun e w' ⟨he, hw⟩ => ⟨?_, hw⟩
  rw [he, show Ieee.double.order (FloatKind.f64.nearest n) x = some .eq from (hi.eq (val_nearest _ (by omega))).2 h]
  rfl
/-- What a word that is no mark's part comes to: some number, and false. -/
def NoPart (w : World) (e : Ending) (w' : World) : Prop := ∃ v : Int, e = .returned (.tuple #[.int .i64 v, .bool false]) ∧ w = w'
theorem rwhole_no {x : Nat} (h : ¬ Whole x) (w : World) :
    Calls Try.prog 73 #[.float .f64 x] w (NoPart w) := by
  cases h0 : b0 x with
  | false => exact (rwhole_out (.inl h0) w).mono fun e w' h => ⟨0, h⟩
  | true =>
    cases h1 : b1 x with
    | false => exact (rwhole_out (.inr ⟨h0, h1⟩) w).mono fun e w' h => ⟨0, h⟩
    | true =>
      obtain ⟨t, hi⟩ := inR_of h0 h1
      refine (rwhole_in h0 h1 hi w).mono fun e w' ⟨he, hw⟩ => ⟨t, ?_, hw⟩
      rw [he, show (Ieee.double.order (FloatKind.f64.nearest t) x == some .eq) = false from beq_eq_false_iff_ne.2 fun hq => h ⟨t, hi.le, (hi.eq (val_nearest _ (by have := hi.le; omega))).1 hq⟩]

/-- A mark, by its parts. -/
structure MV (a b e n : Nat) : Prop where
  re : Val a e
  im : Val b n
  he : e ≤ 1099511627776
  hn : n ≤ 1099511627776
def Bad (a b : Nat) : Prop := ¬ (Whole a ∧ Whole b)
theorem MV.not_bad {a b e n : Nat} (h : MV a b e n) : ¬ Bad a b := fun hb => hb ⟨⟨e, h.he, h.re⟩, ⟨n, h.hn, h.im⟩⟩
theorem mark_or_bad (a b : Nat) : (∃ e n, MV a b e n) ∨ Bad a b := by
  by_cases h : Whole a ∧ Whole b
  · obtain ⟨⟨e, he, h1⟩, ⟨n, hn, h2⟩⟩ := h
    exact .inl ⟨e, n, h1, h2, he, hn⟩
  · exact .inr h

theorem good_yes {a b e n : Nat} (h : MV a b e n) (w : World) :
    Calls Try.prog 64 #[.complex .f64 a b] w fun r w' => r = .returned (.bool true) ∧ w = w' := by
  go_enter Try.func64, Try.ntmps64
  go_wp2_with fail
  refine (mwhole_yes h.re h.he w).mono ?_
  rintro r w' ⟨rfl, rfl⟩
  go_wp2_with fail
  refine (mwhole_yes h.im h.hn w).mono ?_
  rintro r w' ⟨rfl, rfl⟩
  go_wp2_with fail
  go_ret
  exact ⟨rfl, rfl⟩
theorem good_no {a b : Nat} (h : Bad a b) (w : World) :
    Calls Try.prog 64 #[.complex .f64 a b] w fun r w' => r = .returned (.bool false) ∧ w = w' := by
  by_cases ha : Whole a
  · have hb : ¬ Whole b := fun hb => h ⟨ha, hb⟩
    obtain ⟨n, hn, hv⟩ := ha
    go_enter Try.func64, Try.ntmps64
    go_wp2_with fail
    refine (mwhole_yes hv hn w).mono ?_
    rintro r w' ⟨rfl, rfl⟩
    go_wp2_with fail
    refine (mwhole_no hb w).mono ?_
    rintro r w' ⟨rfl, rfl⟩
    go_wp2_with fail
    go_ret
    exact ⟨rfl, rfl⟩
  · go_enter Try.func64, Try.ntmps64
    go_wp2_with fail
    refine (mwhole_no ha w).mono ?_
    rintro r w' ⟨rfl, rfl⟩
    go_wp2_with fail
    go_ret
    exact ⟨rfl, rfl⟩

theorem parts_yes {a b e n : Nat} (h : MV a b e n) (w : World) :
    Calls Try.prog 42 #[.complex .f64 a b] w fun r w' => r = .returned (.tuple #[.int .i64 e, .int .i64 n, .bool true]) ∧ w = w' := by
  go_enter Try.func42, Try.ntmps42
  go_wp2_with fail
  refine (rwhole_yes h.re h.he w).mono ?_
  rintro r w' ⟨rfl, rfl⟩
  go_wp2_with fail
  refine (rwhole_yes h.im h.hn w).mono ?_
  rintro r w' ⟨rfl, rfl⟩
  go_wp2_with fail
  go_ret3
  exact ⟨rfl, rfl⟩
theorem parts_no {a b : Nat} (h : Bad a b) (w : World) :
    Calls Try.prog 42 #[.complex .f64 a b] w fun r w' => r = .returned (.tuple #[.int .i64 0, .int .i64 0, .bool false]) ∧ w = w' := by
  by_cases ha : Whole a
  · have hb : ¬ Whole b := fun hb => h ⟨ha, hb⟩
    obtain ⟨n, hn, hv⟩ := ha
    go_enter Try.func42, Try.ntmps42
    go_wp2_with fail
    refine (rwhole_yes hv hn w).mono ?_
    rintro r w' ⟨rfl, rfl⟩
    go_wp2_with fail
    refine (rwhole_no hb w).mono ?_
    rintro r w' ⟨v, rfl, rfl⟩
    go_wp2_with fail
    go_ret3
    exact ⟨rfl, rfl⟩
  · by_cases hb : Whole b
    · obtain ⟨n, hn, hv⟩ := hb
      go_enter Try.func42, Try.ntmps42
      go_wp2_with fail
      refine (rwhole_no ha w).mono ?_
      rintro r w' ⟨v, rfl, rfl⟩
      go_wp2_with fail
      refine (rwhole_yes hv hn w).mono ?_
      rintro r w' ⟨rfl, rfl⟩
      go_wp2_with fail
      go_ret3
      exact ⟨rfl, rfl⟩
    · go_enter Try.func42, Try.ntmps42
      go_wp2_with fail
      refine (rwhole_no ha w).mono ?_
      rintro r w' ⟨v, rfl, rfl⟩
      go_wp2_with fail
      refine (rwhole_no hb w).mono ?_
      rintro r w' ⟨v2, rfl, rfl⟩
      go_wp2_with fail
      go_ret3
      exact ⟨rfl, rfl⟩

/-- The integer of a whole number's word. -/
theorem int_val {x n : Nat} (h : Val x n) (hn : n ≤ 1099511627776) (w : World) : (convert 41 3 (.float .f64 x)).run Try.prog w = .ok (.int .i64 n) w :=
  int_run (val_inR h hn) _ _ (by kernel_rfl) Try.underlying3 w

theorem epoch_yes {a b e n : Nat} (h : MV a b e n) (w : World) :
    Calls Try.prog 33 #[.complex .f64 a b] w fun r w' => r = .returned (.int .i64 e) ∧ w = w' := by
  have hc := int_val h.re h.he
  go_enter Try.func33, Try.ntmps33
  go_wp2_with fail
  refine (good_yes h w).mono ?_
  rintro r w' ⟨rfl, rfl⟩
  go_wp2_with fail
  go_ret
  exact ⟨rfl, rfl⟩
theorem epoch_no {a b : Nat} (h : Bad a b) (w : World) :
    Calls Try.prog 33 #[.complex .f64 a b] w fun r w' => r = .returned (.int .i64 0) ∧ w = w' := by
  go_enter Try.func33, Try.ntmps33
  go_wp2_with fail
  refine (good_no h w).mono ?_
  rintro r w' ⟨rfl, rfl⟩
  go_wp2_with fail
  go_ret
  exact ⟨rfl, rfl⟩
theorem number_yes {a b e n : Nat} (h : MV a b e n) (w : World) :
    Calls Try.prog 34 #[.complex .f64 a b] w fun r w' => r = .returned (.int .i64 n) ∧ w = w' := by
  have hc := int_val h.im h.hn
  go_enter Try.func34, Try.ntmps34
  go_wp2_with fail
  refine (good_yes h w).mono ?_
  rintro r w' ⟨rfl, rfl⟩
  go_wp2_with fail
  go_ret
  exact ⟨rfl, rfl⟩
theorem number_no {a b : Nat} (h : Bad a b) (w : World) :
    Calls Try.prog 34 #[.complex .f64 a b] w fun r w' => r = .returned (.int .i64 0) ∧ w = w' := by
  go_enter Try.func34, Try.ntmps34
  go_wp2_with fail
  refine (good_no h w).mono ?_
  rintro r w' ⟨rfl, rfl⟩
  go_wp2_with fail
  go_ret
  exact ⟨rfl, rfl⟩

end Go.Proofs.Ytmhcjkiaogimgaa

/- Marks: Gap and Later, the document's too; num; awake. -/
import Derived.Test.YtadplihjakiniaaMrkB
namespace Go.Proofs.Ytadplihjakiniaa
open Go.RowKit

theorem ord {x y : Nat} {a b : Int} (hx : Val x a) (hy : Val y b) : FloatKind.f64.format.order x y = some (compare a b) := val_order hx hy

/-- Gap of two marks. -/
def gapN (e n f m : Nat) : Int := if e = f ∧ n ≤ m then (m : Int) - n else 0
def gapB (e n f m : Nat) : Bool := decide (e = f ∧ n ≤ m)
def laterB (e n f m : Nat) : Bool := decide (f < e ∨ (e = f ∧ m < n))

set_option maxHeartbeats 400000 in
theorem gap_yes {a b c d e n f m : Nat} (h : MV a b e n) (k : MV c d f m) (w : World) :
    Calls Try.prog 26 #[.complex .f64 a b, .complex .f64 c d] w fun r w' => r = .returned (.tuple #[.int .i64 (gapN e n f m), .bool (gapB e n f m)]) ∧ w = w' := by
  by_cases hef : e = f
  · subst hef
    have o1 := ord h.re k.re
    rw [cmp_eq] at o1
    by_cases hnm : n ≤ m
    · have o2 : FloatKind.f64.format.order d b = some .gt ∨ FloatKind.f64.format.order d b = some .eq := by
        rw [ord k.im h.im]
        rcases Nat.lt_or_ge n m with hlt | hge
        · exact .inl (by rw [cmp_gt (by omega)])
        · obtain rfl : n = m := by omega
          exact .inr (by rw [cmp_eq])
      have e1 : gapN e n e m = (m : Int) - n := by unfold gapN; rw [if_pos ⟨rfl, hnm⟩]
      have e2 : gapB e n e m = true := by unfold gapB; simp [hnm]
      rw [e1, e2]
      clear e1 e2
      have hkn := k.hn
      have hhn := h.hn
      obtain ⟨x, y, hrun, vx, vy⟩ := sub_run k.re h.re k.im h.im (by omega) (by omega) 22
      have hv : Val y ((m - n : Nat) : Int) := by rw [Int.ofNat_sub hnm]; exact vy
      have hc := int_val hv (by omega)
      have hcast : ((m - n : Nat) : Int) = (m : Int) - n := Int.ofNat_sub hnm
      rw [hcast] at hc
      clear hv vx vy hcast
      rcases o2 with o2 | o2
      all_goals
        go_enter Try.func26, Try.ntmps26
        go_wp2_with fail
        refine (good_yes h w).mono ?_
        rintro r w' ⟨rfl, rfl⟩
        go_wp2_with fail
        refine (good_yes k w).mono ?_
        rintro r w' ⟨rfl, rfl⟩
        go_wp2_with fail
        go_ret2
        exact ⟨rfl, rfl⟩
    · have o2 := ord k.im h.im
      rw [cmp_lt (by omega)] at o2
      have e1 : gapN e n e m = 0 := by unfold gapN; rw [if_neg (by omega)]
      have e2 : gapB e n e m = false := by unfold gapB; simp; omega
      rw [e1, e2]
      clear e1 e2
      go_enter Try.func26, Try.ntmps26
      go_wp2_with fail
      refine (good_yes h w).mono ?_
      rintro r w' ⟨rfl, rfl⟩
      go_wp2_with fail
      refine (good_yes k w).mono ?_
      rintro r w' ⟨rfl, rfl⟩
      go_wp2_with fail
      go_ret2
      exact ⟨rfl, rfl⟩
  · have o1 : FloatKind.f64.format.order a c = some .lt ∨ FloatKind.f64.format.order a c = some .gt := by
      rw [ord h.re k.re]
      rcases Nat.lt_or_ge e f with hlt | hge
      · exact .inl (by rw [cmp_lt (by omega)])
      · exact .inr (by rw [cmp_gt (by omega)])
    have e1 : gapN e n f m = 0 := by unfold gapN; rw [if_neg (by omega)]
    have e2 : gapB e n f m = false := by unfold gapB; simp [hef]
    rw [e1, e2]
    clear e1 e2
    rcases o1 with o1 | o1
    all_goals
      go_enter Try.func26, Try.ntmps26
      go_wp2_with fail
      refine (good_yes h w).mono ?_
      rintro r w' ⟨rfl, rfl⟩
      go_wp2_with fail
      refine (good_yes k w).mono ?_
      rintro r w' ⟨rfl, rfl⟩
      go_wp2_with fail
      go_ret2
      exact ⟨rfl, rfl⟩
theorem gap_no {a b c d : Nat} (h : Bad a b ∨ Bad c d) (w : World) :
    Calls Try.prog 26 #[.complex .f64 a b, .complex .f64 c d] w fun r w' => r = .returned (.tuple #[.int .i64 0, .bool false]) ∧ w = w' := by
  rcases mark_or_bad a b with ⟨e, n, hm⟩ | hb
  · have hd : Bad c d := by
      rcases h with h | h
      · exact absurd h hm.not_bad
      · exact h
    go_enter Try.func26, Try.ntmps26
    go_wp2_with fail
    refine (good_yes hm w).mono ?_
    rintro r w' ⟨rfl, rfl⟩
    go_wp2_with fail
    refine (good_no hd w).mono ?_
    rintro r w' ⟨rfl, rfl⟩
    go_wp2_with fail
    go_ret2
    exact ⟨rfl, rfl⟩
  · go_enter Try.func26, Try.ntmps26
    go_wp2_with fail
    refine (good_no hb w).mono ?_
    rintro r w' ⟨rfl, rfl⟩
    go_wp2_with fail
    go_ret2
    exact ⟨rfl, rfl⟩

set_option maxHeartbeats 400000 in
theorem later_yes {a b c d e n f m : Nat} (h : MV a b e n) (k : MV c d f m) (w : World) :
    Calls Try.prog 27 #[.complex .f64 a b, .complex .f64 c d] w fun r w' => r = .returned (.bool (laterB e n f m)) ∧ w = w' := by
  have o1 := ord h.re k.re
  have o2 := ord h.im k.im
  rcases Int.lt_trichotomy (e : Int) f with h1 | h1 | h1
  · rw [cmp_lt h1] at o1
    have e1 : laterB e n f m = false := by unfold laterB; simp; omega
    rw [e1]
    clear e1 o2
    go_enter Try.func27, Try.ntmps27
    go_wp2_with fail
    refine (good_yes h w).mono ?_
    rintro r w' ⟨rfl, rfl⟩
    go_wp2_with fail
    refine (good_yes k w).mono ?_
    rintro r w' ⟨rfl, rfl⟩
    go_wp2_with fail
    go_ret
    exact ⟨rfl, rfl⟩
  · obtain rfl : e = f := by omega
    rw [cmp_eq] at o1
    rcases Int.lt_trichotomy (n : Int) m with h2 | h2 | h2
    · rw [cmp_lt h2] at o2
      have e1 : laterB e n e m = false := by unfold laterB; simp; omega
      rw [e1]
      clear e1
      go_enter Try.func27, Try.ntmps27
      go_wp2_with fail
      refine (good_yes h w).mono ?_
      rintro r w' ⟨rfl, rfl⟩
      go_wp2_with fail
      refine (good_yes k w).mono ?_
      rintro r w' ⟨rfl, rfl⟩
      go_wp2_with fail
      go_ret
      exact ⟨rfl, rfl⟩
    · obtain rfl : n = m := by omega
      rw [cmp_eq] at o2
      have e1 : laterB e n e n = false := by unfold laterB; simp
      rw [e1]
      clear e1
      go_enter Try.func27, Try.ntmps27
      go_wp2_with fail
      refine (good_yes h w).mono ?_
      rintro r w' ⟨rfl, rfl⟩
      go_wp2_with fail
      refine (good_yes k w).mono ?_
      rintro r w' ⟨rfl, rfl⟩
      go_wp2_with fail
      go_ret
      exact ⟨rfl, rfl⟩
    · rw [cmp_gt h2] at o2
      have e1 : laterB e n e m = true := by unfold laterB; simp; omega
      rw [e1]
      clear e1
      go_enter Try.func27, Try.ntmps27
      go_wp2_with fail
      refine (good_yes h w).mono ?_
      rintro r w' ⟨rfl, rfl⟩
      go_wp2_with fail
      refine (good_yes k w).mono ?_
      rintro r w' ⟨rfl, rfl⟩
      go_wp2_with fail
      go_ret
      exact ⟨rfl, rfl⟩
  · rw [cmp_gt h1] at o1
    have e1 : laterB e n f m = true := by unfold laterB; simp; omega
    rw [e1]
    clear e1 o2
    go_enter Try.func27, Try.ntmps27
    go_wp2_with fail
    refine (good_yes h w).mono ?_
    rintro r w' ⟨rfl, rfl⟩
    go_wp2_with fail
    refine (good_yes k w).mono ?_
    rintro r w' ⟨rfl, rfl⟩
    go_wp2_with fail
    go_ret
    exact ⟨rfl, rfl⟩
theorem later_no {a b c d : Nat} (h : Bad a b ∨ Bad c d) (w : World) :
    Calls Try.prog 27 #[.complex .f64 a b, .complex .f64 c d] w fun r w' => r = .returned (.bool false) ∧ w = w' := by
  rcases mark_or_bad a b with ⟨e, n, hm⟩ | hb
  · have hd : Bad c d := by
      rcases h with h | h
      · exact absurd h hm.not_bad
      · exact h
    go_enter Try.func27, Try.ntmps27
    go_wp2_with fail
    refine (good_yes hm w).mono ?_
    rintro r w' ⟨rfl, rfl⟩
    go_wp2_with fail
    refine (good_no hd w).mono ?_
    rintro r w' ⟨rfl, rfl⟩
    go_wp2_with fail
    go_ret
    exact ⟨rfl, rfl⟩
  · go_enter Try.func27, Try.ntmps27
    go_wp2_with fail
    refine (good_no hb w).mono ?_
    rintro r w' ⟨rfl, rfl⟩
    go_wp2_with fail
    go_ret
    exact ⟨rfl, rfl⟩

end Go.Proofs.Ytadplihjakiniaa

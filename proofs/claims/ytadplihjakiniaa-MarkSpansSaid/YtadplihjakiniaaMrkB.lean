/- Marks: At, Next, Restart, Gap, Later, and the document's. -/
import Derived.Test.YtadplihjakiniaaMrkA
namespace Go.Proofs.Ytadplihjakiniaa
open Go.RowKit

theorem add_run {a b c d : Nat} {p q r s : Int} (ha : Val a p) (hc : Val c r) (hb : Val b q) (hd : Val d s) (h1 : (p + r).natAbs < 9007199254740992) (h2 : (q + s).natAbs < 9007199254740992) (t : TypeId) :
    ∃ x y, (∀ w : World, (binOp .add t (.complex .f64 a b) (.complex .f64 c d)).run Try.prog w = .ok (.complex .f64 x y) w) ∧ Val x (p + r) ∧ Val y (q + s) := by
  obtain ⟨x, hx, vx⟩ := val_add ha hc h1
  obtain ⟨y, hy, vy⟩ := val_add hb hd h2
  refine ⟨x, y, fun w => run_complex_sum w .add (.inl rfl) t .f64 a b c d x y ?_, vx, vy⟩
  show ((Ieee.double.add a c).bind fun re => (Ieee.double.add b d).bind fun im => some (re, im)) = _
  rw [hx, hy]; rfl
theorem sub_run {a b c d : Nat} {p q r s : Int} (ha : Val a p) (hc : Val c r) (hb : Val b q) (hd : Val d s) (h1 : (p - r).natAbs < 9007199254740992) (h2 : (q - s).natAbs < 9007199254740992) (t : TypeId) :
    ∃ x y, (∀ w : World, (binOp .sub t (.complex .f64 a b) (.complex .f64 c d)).run Try.prog w = .ok (.complex .f64 x y) w) ∧ Val x (p - r) ∧ Val y (q - s) := by
  obtain ⟨x, hx, vx⟩ := val_sub ha hc h1
  obtain ⟨y, hy, vy⟩ := val_sub hb hd h2
  refine ⟨x, y, fun w => run_complex_sum w .sub (.inr rfl) t .f64 a b c d x y ?_, vx, vy⟩
  show ((Ieee.double.sub a c).bind fun re => (Ieee.double.sub b d).bind fun im => some (re, im)) = _
  rw [hx, hy]; rfl
/-- Whatever is added: some number, in a world that some orders were drawn of. -/
theorem arith_any (x y : Nat) (w : World) : ∃ r w', (Op.Complex.arith .add .f64 x y).run Try.prog w = .ok r w' ∧ Drawn w w' := by
  unfold Op.Complex.arith Op.floatArith
  cases h : FloatKind.f64.format.add x y with
  | some r => exact ⟨r, w, by simp [h], Drawn.refl _⟩
  | none => exact ⟨_, _, by simp [h, choose, Sem.run, Question.forced]; exact ⟨rfl, rfl⟩, ⟨1, rfl⟩⟩
theorem add_any (a b c d : Nat) (t : TypeId) (w : World) : ∃ x y w', (binOp .add t (.complex .f64 a b) (.complex .f64 c d)).run Try.prog w = .ok (.complex .f64 x y) w' ∧ Drawn w w' := by
  obtain ⟨x, w1, h1, d1⟩ := arith_any a c w
  obtain ⟨y, w2, h2, d2⟩ := arith_any b d w1
  obtain ⟨n, rfl⟩ := d1.ex
  exact ⟨x, y, w2, by simp [binOp, Op.complexOp, h1, h2], by obtain ⟨m, rfl⟩ := d2.ex; exact ⟨n + m, World.drewN_drewN ..⟩⟩

theorem mv_near {e n : Nat} (he : e ≤ 1099511627776) (hn : n ≤ 1099511627776) : MV (FloatKind.f64.nearest e) (FloatKind.f64.nearest n) e n :=
  ⟨val_nearest _ (by omega), val_nearest _ (by omega), he, hn⟩

set_option maxHeartbeats 400000 in
theorem at_yes {e n : Int} (he : 0 ≤ e) (he' : e ≤ 1099511627776) (hn : 0 ≤ n) (hn' : n ≤ 1099511627776) (w : World) :
    Calls Try.prog 14 #[.int .i64 e, .int .i64 n] w fun r w' => r = .returned (.tuple #[.complex .f64 (FloatKind.f64.nearest e) (FloatKind.f64.nearest n), .int .i64 0]) ∧ w = w' := by
  rcases Int.lt_trichotomy e n with h | rfl | h
  all_goals
    go_enter Try.func14, Try.ntmps14
    go_wp2_with fail
    go_ret2
    exact ⟨rfl, rfl⟩
set_option maxHeartbeats 400000 in
theorem at_no {e n : Int} (h : e < 0 ∨ n < 0 ∨ 1099511627776 < e ∨ 1099511627776 < n) (w : World) :
    Calls Try.prog 14 #[.int .i64 e, .int .i64 n] w fun r w' => r = .returned (.tuple #[.complex .f64 0 0, .int .i64 1]) ∧ w = w' := by
  by_cases h1 : e < 0
  · by_cases hne : n < e
    all_goals
      go_enter Try.func14, Try.ntmps14
      go_wp2_with fail
      go_ret2
      exact ⟨rfl, rfl⟩
  · by_cases h2 : n < 0
    · have hne : n < e := by omega
      go_enter Try.func14, Try.ntmps14
      go_wp2_with fail
      go_ret2
      exact ⟨rfl, rfl⟩
    · by_cases h3 : 1099511627776 < e
      · rcases Int.lt_trichotomy e n with hne | rfl | hne
        all_goals
          go_enter Try.func14, Try.ntmps14
          go_wp2_with fail
          go_ret2
          exact ⟨rfl, rfl⟩
      · have h4 : 1099511627776 < n := by omega
        have hne : ¬ n < e := by omega
        go_enter Try.func14, Try.ntmps14
        go_wp2_with fail
        go_ret2
        exact ⟨rfl, rfl⟩

set_option maxHeartbeats 400000 in
theorem rat_yes {e n : Int} (he : 0 ≤ e) (he' : e ≤ 1099511627776) (hn : 0 ≤ n) (hn' : n ≤ 1099511627776) (w : World) :
    Calls Try.prog 15 #[.int .i64 e, .int .i64 n] w fun r w' => r = .returned (.tuple #[.complex .f64 (FloatKind.f64.nearest e) (FloatKind.f64.nearest n), .int .i64 0]) ∧ w = w' := by
  go_enter Try.func15, Try.ntmps15
  go_wp2_with fail
  go_ret2
  exact ⟨rfl, rfl⟩
set_option maxHeartbeats 400000 in
theorem rat_no {e n : Int} (h : e < 0 ∨ n < 0 ∨ 1099511627776 < e ∨ 1099511627776 < n) (w : World) :
    Calls Try.prog 15 #[.int .i64 e, .int .i64 n] w fun r w' => r = .returned (.tuple #[.complex .f64 0 0, .int .i64 1]) ∧ w = w' := by
  by_cases h1 : e < 0
  · go_enter Try.func15, Try.ntmps15
    go_wp2_with fail
    go_ret2
    exact ⟨rfl, rfl⟩
  · by_cases h2 : 1099511627776 < e
    · go_enter Try.func15, Try.ntmps15
      go_wp2_with fail
      go_ret2
      exact ⟨rfl, rfl⟩
    · by_cases h3 : n < 0
      · go_enter Try.func15, Try.ntmps15
        go_wp2_with fail
        go_ret2
        exact ⟨rfl, rfl⟩
      · have h4 : 1099511627776 < n := by omega
        go_enter Try.func15, Try.ntmps15
        go_wp2_with fail
        go_ret2
        exact ⟨rfl, rfl⟩

/-- A mark, and OK. -/
def GotMark (e n : Nat) (w : World) (r : Ending) (w' : World) : Prop := ∃ a b, r = .returned (.tuple #[.complex .f64 a b, .int .i64 0]) ∧ MV a b e n ∧ w = w'
/-- No mark. -/
def NoMark (w : World) (r : Ending) (w' : World) : Prop := r = .returned (.tuple #[.complex .f64 0 0, .int .i64 1]) ∧ Drawn w w'

set_option maxHeartbeats 400000 in
theorem moved_ok {a b e n c d p q : Nat} (h : MV a b e n) (hc : Val c p) (hd : Val d q) (hp : e + p ≤ 1099511627776) (hq : n + q ≤ 1099511627776) (w : World) :
    Calls Try.prog 38 #[.complex .f64 a b, .complex .f64 c d] w (GotMark (e + p) (n + q) w) := by
  obtain ⟨x, y, hrun, vx, vy⟩ := add_run h.re hc h.im hd (by omega) (by omega) 22
  have hm : MV x y (e + p) (n + q) := ⟨by simpa using vx, by simpa using vy, hp, hq⟩
  go_enter Try.func38, Try.ntmps38
  go_wp2_with fail
  refine (good_yes h w).mono ?_
  rintro r w' ⟨rfl, rfl⟩
  go_wp2_with fail
  refine (good_yes hm w).mono ?_
  rintro r w' ⟨rfl, rfl⟩
  go_wp2_with fail
  go_ret2
  exact ⟨x, y, rfl, hm, rfl⟩
set_option maxHeartbeats 400000 in
theorem moved_far {a b e n c d p q : Nat} (h : MV a b e n) (hc : Val c p) (hd : Val d q) (hp : p ≤ 1) (hq : q ≤ 1) (hfar : 1099511627776 < e + p ∨ 1099511627776 < n + q) (w : World) :
    Calls Try.prog 38 #[.complex .f64 a b, .complex .f64 c d] w (NoMark w) := by
  have he := h.he
  have hn := h.hn
  obtain ⟨x, y, hrun, vx, vy⟩ := add_run h.re hc h.im hd (by omega) (by omega) 22
  have hm : Bad x y := by
    rintro ⟨⟨k, hk, vk⟩, ⟨j, hj, vj⟩⟩
    have := val_unique vk vx
    have := val_unique vj vy
    omega
  go_enter Try.func38, Try.ntmps38
  go_wp2_with fail
  refine (good_yes h w).mono ?_
  rintro r w' ⟨rfl, rfl⟩
  go_wp2_with fail
  refine (good_no hm w).mono ?_
  rintro r w' ⟨rfl, rfl⟩
  go_wp2_with fail
  go_ret2
  exact ⟨rfl, Drawn.refl _⟩
set_option maxHeartbeats 400000 in
theorem moved_bad {a b c d : Nat} (h : Bad a b) (w : World) :
    Calls Try.prog 38 #[.complex .f64 a b, .complex .f64 c d] w (NoMark w) := by
  obtain ⟨x, y, w1, hrun, hd⟩ := add_any a b c d 22 w
  go_enter Try.func38, Try.ntmps38
  go_wp2_with fail
  refine (good_no h w1).mono ?_
  rintro r w' ⟨rfl, rfl⟩
  go_wp2_with fail
  go_ret2
  exact ⟨rfl, hd⟩

theorem val_one : Val 4607182418800017408 1 := by
  have h : FloatKind.f64.nearest 1 = 4607182418800017408 := by decide
  rw [← h]; exact val_nearest _ (by omega)

theorem next_yes {a b e n : Nat} (h : MV a b e n) (hn : n < 1099511627776) (w : World) :
    Calls Try.prog 22 #[.complex .f64 a b] w (GotMark e (n + 1) w) := by
  go_enter Try.func22, Try.ntmps22
  go_wp2_with fail
  refine (moved_ok h (p := 0) (q := 1) val_zero val_one (by have := h.he; omega) (by omega) w).mono ?_
  rintro r w' ⟨x, y, rfl, hm, rfl⟩
  go_wp2_with fail
  go_ret2
  exact ⟨x, y, rfl, hm, rfl⟩
theorem next_far {a b e n : Nat} (h : MV a b e n) (hn : ¬ n < 1099511627776) (w : World) :
    Calls Try.prog 22 #[.complex .f64 a b] w (NoMark w) := by
  go_enter Try.func22, Try.ntmps22
  go_wp2_with fail
  refine (moved_far h (p := 0) (q := 1) val_zero val_one (by omega) (by omega) (.inr (by omega)) w).mono ?_
  rintro r w' ⟨rfl, hd⟩
  go_wp2_with fail
  go_ret2
  exact ⟨rfl, hd⟩
theorem next_no {a b : Nat} (h : Bad a b) (w : World) :
    Calls Try.prog 22 #[.complex .f64 a b] w (NoMark w) := by
  go_enter Try.func22, Try.ntmps22
  go_wp2_with fail
  refine (moved_bad h w).mono ?_
  rintro r w' ⟨rfl, hd⟩
  go_wp2_with fail
  go_ret2
  exact ⟨rfl, hd⟩

theorem restart_yes {a b e n : Nat} (h : MV a b e n) (he : e < 1099511627776) (w : World) :
    Calls Try.prog 23 #[.complex .f64 a b] w (GotMark (e + 1) 0 w) := by
  have h0 : MV a 0 e 0 := ⟨h.re, val_zero, h.he, by omega⟩
  go_enter Try.func23, Try.ntmps23
  go_wp2_with fail
  refine (good_yes h w).mono ?_
  rintro r w' ⟨rfl, rfl⟩
  go_wp2_with fail
  refine (moved_ok h0 (p := 1) (q := 0) val_one val_zero (by omega) (by omega) w).mono ?_
  rintro r w' ⟨x, y, rfl, hm, rfl⟩
  go_wp2_with fail
  go_ret2
  exact ⟨x, y, rfl, hm, rfl⟩
theorem restart_far {a b e n : Nat} (h : MV a b e n) (he : ¬ e < 1099511627776) (w : World) :
    Calls Try.prog 23 #[.complex .f64 a b] w (NoMark w) := by
  have h0 : MV a 0 e 0 := ⟨h.re, val_zero, h.he, by omega⟩
  go_enter Try.func23, Try.ntmps23
  go_wp2_with fail
  refine (good_yes h w).mono ?_
  rintro r w' ⟨rfl, rfl⟩
  go_wp2_with fail
  refine (moved_far h0 (p := 1) (q := 0) val_one val_zero (by omega) (by omega) (.inl (by omega)) w).mono ?_
  rintro r w' ⟨rfl, hd⟩
  go_wp2_with fail
  go_ret2
  exact ⟨rfl, hd⟩
theorem restart_no {a b : Nat} (h : Bad a b) (w : World) :
    Calls Try.prog 23 #[.complex .f64 a b] w (NoMark w) := by
  go_enter Try.func23, Try.ntmps23
  go_wp2_with fail
  refine (good_no h w).mono ?_
  rintro r w' ⟨rfl, rfl⟩
  go_wp2_with fail
  go_ret2
  exact ⟨rfl, Drawn.refl _⟩

theorem rnext_yes {a b e n : Nat} (h : MV a b e n) (hn : n < 1099511627776) (w : World) :
    Calls Try.prog 24 #[.complex .f64 a b] w (GotMark e (n + 1) w) := by
  have hh := h.he
  go_enter Try.func24, Try.ntmps24
  go_wp2_with fail
  refine (parts_yes h w).mono ?_
  rintro r w' ⟨rfl, rfl⟩
  go_wp2_with fail
  refine (rat_yes (by omega) (by omega) (by omega) (by omega) w).mono ?_
  rintro r w' ⟨rfl, rfl⟩
  go_wp2_with fail
  go_ret2
  exact ⟨_, _, rfl, by have := mv_near (e := e) (n := n + 1) (by omega) (by omega); simpa using this, rfl⟩
theorem rnext_far {a b e n : Nat} (h : MV a b e n) (hn : ¬ n < 1099511627776) (w : World) :
    Calls Try.prog 24 #[.complex .f64 a b] w (NoMark w) := by
  have hh := h.he
  have hh2 := h.hn
  go_enter Try.func24, Try.ntmps24
  go_wp2_with fail
  refine (parts_yes h w).mono ?_
  rintro r w' ⟨rfl, rfl⟩
  go_wp2_with fail
  refine (rat_no (by omega) w).mono ?_
  rintro r w' ⟨rfl, rfl⟩
  go_wp2_with fail
  go_ret2
  exact ⟨rfl, Drawn.refl _⟩
theorem rnext_no {a b : Nat} (h : Bad a b) (w : World) :
    Calls Try.prog 24 #[.complex .f64 a b] w (NoMark w) := by
  go_enter Try.func24, Try.ntmps24
  go_wp2_with fail
  refine (parts_no h w).mono ?_
  rintro r w' ⟨rfl, rfl⟩
  go_wp2_with fail
  go_ret2
  exact ⟨rfl, Drawn.refl _⟩
theorem rrestart_yes {a b e n : Nat} (h : MV a b e n) (he : e < 1099511627776) (w : World) :
    Calls Try.prog 25 #[.complex .f64 a b] w (GotMark (e + 1) 0 w) := by
  have hh := h.hn
  go_enter Try.func25, Try.ntmps25
  go_wp2_with fail
  refine (parts_yes h w).mono ?_
  rintro r w' ⟨rfl, rfl⟩
  go_wp2_with fail
  refine (rat_yes (by omega) (by omega) (by omega) (by omega) w).mono ?_
  rintro r w' ⟨rfl, rfl⟩
  go_wp2_with fail
  go_ret2
  exact ⟨_, _, rfl, by have := mv_near (e := e + 1) (n := 0) (by omega) (by omega); simpa using this, rfl⟩
theorem rrestart_far {a b e n : Nat} (h : MV a b e n) (he : ¬ e < 1099511627776) (w : World) :
    Calls Try.prog 25 #[.complex .f64 a b] w (NoMark w) := by
  have hh := h.he
  go_enter Try.func25, Try.ntmps25
  go_wp2_with fail
  refine (parts_yes h w).mono ?_
  rintro r w' ⟨rfl, rfl⟩
  go_wp2_with fail
  refine (rat_no (by omega) w).mono ?_
  rintro r w' ⟨rfl, rfl⟩
  go_wp2_with fail
  go_ret2
  exact ⟨rfl, Drawn.refl _⟩
theorem rrestart_no {a b : Nat} (h : Bad a b) (w : World) :
    Calls Try.prog 25 #[.complex .f64 a b] w (NoMark w) := by
  go_enter Try.func25, Try.ntmps25
  go_wp2_with fail
  refine (parts_no h w).mono ?_
  rintro r w' ⟨rfl, rfl⟩
  go_wp2_with fail
  go_ret2
  exact ⟨rfl, Drawn.refl _⟩

end Go.Proofs.Ytadplihjakiniaa

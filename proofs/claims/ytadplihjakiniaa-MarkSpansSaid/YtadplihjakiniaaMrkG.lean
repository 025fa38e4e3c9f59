/- How far marks lie apart: the plain law, and the walk of Span. -/
import Derived.Test.YtadplihjakiniaaMrkF
namespace Go.Proofs.Ytadplihjakiniaa
open Go.RowKit

theorem min_run {x y p q : Nat} (hx : Val x p) (hy : Val y q) (ts : Array TypeId) (t : TypeId) :
    ∃ z, (∀ w, (Builtin.min_ ts t #[.float .f64 x, .float .f64 y]).run Try.prog w = .ok (.float .f64 z) w) ∧ Val z (min p q : Nat) := by
  have ho := ord hx hy
  rcases Nat.lt_trichotomy p q with h | h | h
  · rw [cmp_lt (by omega)] at ho
    exact ⟨x, fun w => by simp [Builtin.min_, Builtin.min2, ho], by rw [Nat.min_eq_left (by omega)]; exact hx⟩
  · subst h
    rw [cmp_eq] at ho
    refine ⟨_, fun w => by simp [Builtin.min_, Builtin.min2, ho]; rfl, ?_⟩
    rw [Nat.min_self]
    split
    · exact hx
    · exact hy
  · rw [cmp_gt (by omega)] at ho
    exact ⟨y, fun w => by simp [Builtin.min_, Builtin.min2, ho], by rw [Nat.min_eq_right (by omega)]; exact hy⟩
theorem max_run {x y p q : Nat} (hx : Val x p) (hy : Val y q) (ts : Array TypeId) (t : TypeId) :
    ∃ z, (∀ w, (Builtin.max_ ts t #[.float .f64 x, .float .f64 y]).run Try.prog w = .ok (.float .f64 z) w) ∧ Val z (max p q : Nat) := by
  have ho := ord hx hy
  rcases Nat.lt_trichotomy p q with h | h | h
  · rw [cmp_lt (by omega)] at ho
    exact ⟨y, fun w => by simp [Builtin.max_, Builtin.max2, ho], by rw [Nat.max_eq_right (by omega)]; exact hy⟩
  · subst h
    rw [cmp_eq] at ho
    refine ⟨_, fun w => by simp [Builtin.max_, Builtin.max2, ho]; rfl, ?_⟩
    rw [Nat.max_self]
    split
    · exact hy
    · exact hx
  · rw [cmp_gt (by omega)] at ho
    exact ⟨x, fun w => by simp [Builtin.max_, Builtin.max2, ho], by rw [Nat.max_eq_left (by omega)]; exact hx⟩

/-- The least and the greatest of a list of numbers. -/
structure Ends (E : List Nat) (l h : Nat) : Prop where
  lo : l ∈ E
  hi : h ∈ E
  all : ∀ e ∈ E, l ≤ e ∧ e ≤ h
theorem ends_first (e : Nat) : Ends ([] ++ [e]) e e := ⟨by simp, by simp, fun f hf => by simp at hf; omega⟩
theorem ends_next {E : List Nat} {l h : Nat} (k : Ends E l h) (e : Nat) : Ends (E ++ [e]) (min l e) (max h e) := by
  refine ⟨?_, ?_, fun f hf => ?_⟩
  · rcases Nat.le_total l e with hh | hh
    · rw [Nat.min_eq_left hh]; exact List.mem_append_left _ k.lo
    · rw [Nat.min_eq_right hh]; exact List.mem_append_right _ (by simp)
  · rcases Nat.le_total h e with hh | hh
    · rw [Nat.max_eq_right hh]; exact List.mem_append_right _ (by simp)
    · rw [Nat.max_eq_left hh]; exact List.mem_append_left _ k.hi
  · rcases List.mem_append.1 hf with hf | hf
    · have := k.all f hf; omega
    · simp at hf; omega
/-- How far a list's numbers lie apart. -/
structure IsSpan (E : List Nat) (s : Int) : Prop where
  all : ∀ e ∈ E, ∀ f ∈ E, (e : Int) - f ≤ s
  is : s = 0 ∨ ∃ e ∈ E, ∃ f ∈ E, s = (e : Int) - f
theorem span_nil : IsSpan [] 0 := ⟨fun e he => (by simp at he), .inl rfl⟩
theorem span_ends {E : List Nat} {l h : Nat} (k : Ends E l h) : IsSpan E ((h : Int) - l) :=
  ⟨fun e he f hf => by have := k.all e he; have := k.all f hf; omega, .inr ⟨h, k.hi, l, k.lo, rfl⟩⟩
theorem span_nonneg {E : List Nat} {s : Int} (h : IsSpan E s) : 0 ≤ s := by
  rcases h.is with h0 | ⟨e, he, _⟩
  · omega
  · have := h.all e he e he; omega
theorem span_le {E F : List Nat} {s t : Int} (h : IsSpan E s) (k : IsSpan F t) (hs : ∀ x, x ∈ E → x ∈ F) : s ≤ t := by
  rcases h.is with h0 | ⟨e, he, f, hf, rfl⟩
  · have := span_nonneg k; omega
  · exact k.all e (hs e he) f (hs f hf)
theorem span_same {E F : List Nat} {s t : Int} (h : IsSpan E s) (k : IsSpan F t) (hs : ∀ x, x ∈ E ↔ x ∈ F) : s = t := by
  have := span_le h k (fun x => (hs x).1)
  have := span_le k h (fun x => (hs x).2)
  omega

/-- What low and high hold. -/
def Lim (ms : List (Nat × Nat)) : Option (Nat × Nat × Nat × Nat) → Nat → Nat → Nat → Nat → Prop
  | none, a, b, c, d => ms = [] ∧ a = 0 ∧ b = 0 ∧ c = 0 ∧ d = 0
  | some (le, ln, he, hn), a, b, c, d => Ends (ms.map Prod.fst) le he ∧ Ends (ms.map Prod.snd) ln hn ∧ MV a b le ln ∧ MV c d he hn

def SpanPost (zs : List (Nat × Nat)) (w : World) (r : Ending) (w' : World) : Prop :=
  ∃ a b, ∃ e n : Int, r = .returned (.complex .f64 a b) ∧ Val a e ∧ Val b n ∧ IsSpan ((marks zs).map Prod.fst) e ∧ IsSpan ((marks zs).map Prod.snd) n ∧ w = w'

theorem lim_end {ms : List (Nat × Nat)} {o : Option (Nat × Nat × Nat × Nat)} {a b c d : Nat} (h : Lim ms o a b c d) (t : TypeId) :
    ∃ x y, ∃ e n : Int, (∀ w, (binOp .sub t (.complex .f64 c d) (.complex .f64 a b)).run Try.prog w = .ok (.complex .f64 x y) w) ∧ Val x e ∧ Val y n ∧ IsSpan (ms.map Prod.fst) e ∧ IsSpan (ms.map Prod.snd) n := by
  match o, h with
  | none, ⟨h0, h1, h2, h3, h4⟩ =>
    subst h0; subst h1; subst h2; subst h3; subst h4
    obtain ⟨x, y, hr, hx, hy⟩ := sub_run (p := 0) (q := 0) (r := 0) (s := 0) val_zero val_zero val_zero val_zero (by omega) (by omega) t
    exact ⟨x, y, 0, 0, hr, hx, hy, span_nil, span_nil⟩
  | some (le, ln, he, hn), ⟨h1, h2, h3, h4⟩ =>
    have e1 := h3.he; have e2 := h3.hn; have e3 := h4.he; have e4 := h4.hn
    obtain ⟨x, y, hr, hx, hy⟩ := sub_run h4.re h3.re h4.im h3.im (by omega) (by omega) t
    exact ⟨x, y, _, _, hr, hx, hy, span_ends h1, span_ends h2⟩

set_option maxHeartbeats 1000000 in
theorem span_any (A : Option Addr) (cap : Nat) (zs : List (Nat × Nat)) (hz : zs.length ≤ 8796093022207) (w : World) (h : Cs w A zs) :
    Calls Try.prog 34 #[.slice A zs.length cap] w (SpanPost zs w) := by
  go_enter Try.func34, Try.ntmps34
  go_wp2_with fail
  go_loopw [3, 4, 5, 10] (fun v3 v4 v5 v10 wr => ∃ i : Nat, i ≤ zs.length ∧ v10 = .int .i64 i ∧ wr = w ∧ ∃ o a b c d, v3 = .complex .f64 a b ∧ v4 = .complex .f64 c d ∧ v5 = .bool o.isSome ∧ Lim (marks (zs.take i)) o a b c d) (fun _ _ _ v _ => zs.length - (intOf v).toNat)
  case atStart => exact ⟨0, Nat.zero_le _, rfl, rfl, none, 0, 0, 0, 0, rfl, rfl, rfl, rfl, rfl, rfl, rfl, rfl⟩
  case round =>
    obtain ⟨i, hi, rfl, rfl, o, a, b, c, d, rfl, rfl, rfl, hl⟩ := hrel
    by_cases hlt : i < zs.length
    · obtain ⟨g, f, rfl, _, h1⟩ := h.at_ i hlt
      have hsn := take_snoc (0, 0) zs i hlt
      generalize zs.getD i (0, 0) = z at *
      have HS := Lib.hid hsn
      clear hsn
      cases hk : mk z with
      | none =>
        have hbad := mk_none hk
        have HL := Lib.hid hl
        clear hl
        go_wp2_with fail
        refine (good_no hbad _).mono ?_
        rintro r w' ⟨rfl, rfl⟩
        go_wp2_with fail
        go_roundw
        case rel => exact ⟨i + 1, by omega, by go_num, trivial, o, a, b, c, d, rfl, rfl, rfl, by rw [HS.out, marks_none hk]; exact HL.out⟩
        case measure => simp [intOf]; omega
      | some p =>
        have hmv := mk_some hk
        match o, hl with
        | none, hl =>
          have HL := Lib.hid hl.1
          clear hl
          go_wp2_with fail
          refine (good_yes hmv _).mono ?_
          rintro r w' ⟨rfl, rfl⟩
          go_wp2_with fail
          go_roundw
          case rel => exact ⟨i + 1, by omega, by go_num, trivial, some (p.1, p.2, p.1, p.2), z.1, z.2, z.1, z.2, rfl, rfl, rfl, by rw [HS.out, marks_some hk, HL.out]; exact ⟨ends_first p.1, ends_first p.2, hmv, hmv⟩⟩
          case measure => simp [intOf]; omega
        | some (le, ln, he, hn), ⟨k1, k2, k3, k4⟩ =>
          obtain ⟨x1, r1, v1⟩ := min_run k3.re hmv.re #[43, 43] 43
          obtain ⟨x2, r2, v2⟩ := min_run k3.im hmv.im #[43, 43] 43
          obtain ⟨x3, r3, v3⟩ := max_run k4.re hmv.re #[43, 43] 43
          obtain ⟨x4, r4, v4⟩ := max_run k4.im hmv.im #[43, 43] 43
          have e1 := ends_next k1 p.1
          have e2 := ends_next k2 p.2
          have m1 : MV x1 x2 (min le p.1) (min ln p.2) := ⟨v1, v2, by have := k3.he; omega, by have := k3.hn; omega⟩
          have m2 : MV x3 x4 (max he p.1) (max hn p.2) := ⟨v3, v4, by have := k4.he; have := hmv.he; omega, by have := k4.hn; have := hmv.hn; omega⟩
          clear k1 k2 k3 k4 v1 v2 v3 v4
          go_wp2_with fail
          refine (good_yes hmv _).mono ?_
          rintro r w' ⟨rfl, rfl⟩
          go_wp2_with fail
          go_roundw
          case rel => exact ⟨i + 1, by omega, by go_num, trivial, some (min le p.1, min ln p.2, max he p.1, max hn p.2), x1, x2, x3, x4, rfl, rfl, rfl, by rw [HS.out, marks_some hk]; exact ⟨by rw [List.map_append]; exact e1, by rw [List.map_append]; exact e2, m1, m2⟩⟩
          case measure => simp [intOf]; omega
    · obtain rfl : i = zs.length := by omega
      rw [List.take_length] at hl
      obtain ⟨x, y, e, n, hr, hx, hy, s1, s2⟩ := lim_end hl 22
      clear hl
      have S1 := Lib.hid s1
      have S2 := Lib.hid s2
      clear s1 s2
      go_wp2_with fail
      go_ret
      exact ⟨x, y, e, n, rfl, hx, hy, S1.out, S2.out, rfl⟩

end Go.Proofs.Ytadplihjakiniaa

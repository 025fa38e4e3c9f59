/- The marks among numbers; the latest one. Plain laws, and the walk of Last. -/
import Derived.Test.YtadplihjakiniaaMrkE
import Derived.Test.YtadplihjakiniaaMrkL2
namespace Go.Proofs.Ytadplihjakiniaa
open Go.RowKit

/-- Complex numbers in memory. -/
structure Cs (w : World) (a : Option Addr) (zs : List (Nat × Nat)) : Prop where
  at_ : ∀ j, j < zs.length → ∃ b o, a = some ⟨b, o, none⟩ ∧ b < w.heap.size ∧ w.cell? ⟨b, o + j, none⟩ = some (.complex .f64 (zs.getD j (0, 0)).1 (zs.getD j (0, 0)).2)
theorem Cs.of {w : World} {a : Option Addr} {zs : List (Nat × Nat)} (h : RdV w a (cvals zs)) : Cs w a zs :=
  ⟨fun j hj => by
    obtain ⟨x, hx, hlt, hc⟩ := h.at_ j _ (cvals_get zs j hj)
    obtain ⟨x0, hx0, _, hc0⟩ := h.at_ 0 _ (cvals_get zs 0 (by omega))
    have h0 := World.cell?_spot hc0
    obtain rfl : x = x0 := by rw [hx] at hx0; injection hx0
    obtain ⟨b, o, s⟩ := x
    have hs : s = none := by
      unfold Addr.add at h0
      simpa using h0
    subst hs
    rw [Addr.add_mid] at hc
    exact ⟨b, o, hx, hlt, hc⟩⟩
theorem Cs.below {w w' : World} {a : Option Addr} {zs : List (Nat × Nat)} (h : Cs w a zs) (hb : Below w.heap.size w w') : Cs w' a zs :=
  ⟨fun j hj => by
    obtain ⟨b, o, hx, hlt, h1⟩ := h.at_ j hj
    exact ⟨b, o, hx, Nat.lt_of_lt_of_le hlt hb.size, cell_keep hb h1⟩⟩

open Classical in
/-- The mark that a number is. -/
noncomputable def mk (z : Nat × Nat) : Option (Nat × Nat) := if h : ∃ p : Nat × Nat, MV z.1 z.2 p.1 p.2 then some h.choose else none
theorem mk_some {z p : Nat × Nat} (h : mk z = some p) : MV z.1 z.2 p.1 p.2 := by
  unfold mk at h
  split at h
  · next hh => injection h with h; subst h; exact hh.choose_spec
  · cases h
theorem mk_none {z : Nat × Nat} (h : mk z = none) : Bad z.1 z.2 := by
  unfold mk at h
  split at h
  · cases h
  · next hh =>
    rcases mark_or_bad z.1 z.2 with ⟨e, n, hm⟩ | hb
    · exact absurd ⟨(e, n), hm⟩ hh
    · exact hb
theorem mv_unique {a b e n f m : Nat} (h : MV a b e n) (k : MV a b f m) : e = f ∧ n = m := by
  have h1 := val_unique h.re k.re
  have h2 := val_unique h.im k.im
  omega
theorem mk_mv {a b e n : Nat} (h : MV a b e n) : mk (a, b) = some (e, n) := by
  cases hk : mk (a, b) with
  | none => exact absurd (mk_none hk) h.not_bad
  | some p =>
    obtain ⟨h1, h2⟩ := mv_unique h (mk_some hk)
    rw [h1, h2]
theorem mk_bad {a b : Nat} (h : Bad a b) : mk (a, b) = none := by
  cases hk : mk (a, b) with
  | none => rfl
  | some p => exact absurd h (mk_some hk).not_bad

noncomputable def marks (zs : List (Nat × Nat)) : List (Nat × Nat) := zs.filterMap mk
theorem take_snoc {α : Type} (d : α) (l : List α) (i : Nat) (h : i < l.length) : l.take (i + 1) = l.take i ++ [l.getD i d] := by
  rw [List.take_succ_eq_append_getElem h]
  simp only [List.getD_eq_getElem?_getD, List.getElem?_eq_getElem h, Option.getD_some]
theorem marks_some {l : List (Nat × Nat)} {z p : Nat × Nat} (h : mk z = some p) : marks (l ++ [z]) = marks l ++ [p] := by simp [marks, h]
theorem marks_none {l : List (Nat × Nat)} {z : Nat × Nat} (h : mk z = none) : marks (l ++ [z]) = marks l := by simp [marks, h]

/-- The latest of marks. -/
def IsLast (ms : List (Nat × Nat)) : Option (Nat × Nat) → Prop
  | none => ms = []
  | some l => l ∈ ms ∧ ∀ m ∈ ms, laterB m.1 m.2 l.1 l.2 = false
theorem laterB_iff (e n f m : Nat) : laterB e n f m = true ↔ f < e ∨ (e = f ∧ m < n) := by unfold laterB; exact decide_eq_true_iff
theorem laterB_not (e n f m : Nat) : laterB e n f m = false ↔ ¬ (f < e ∨ (e = f ∧ m < n)) := by unfold laterB; exact decide_eq_false_iff_not
theorem isLast_same {ms ms' : List (Nat × Nat)} {o o' : Option (Nat × Nat)} (h : IsLast ms o) (h' : IsLast ms' o') (hs : ∀ x, x ∈ ms ↔ x ∈ ms') : o = o' := by
  cases o with
  | none =>
    cases o' with
    | none => rfl
    | some l => have := (hs l).2 h'.1; rw [show ms = [] from h] at this; cases this
  | some l =>
    cases o' with
    | none => have := (hs l).1 h.1; rw [show ms' = [] from h'] at this; cases this
    | some l' =>
      have h1 := h.2 l' ((hs l').2 h'.1)
      have h2 := h'.2 l ((hs l).1 h.1)
      rw [laterB_not] at h1 h2
      obtain ⟨a, b⟩ := l
      obtain ⟨c, d⟩ := l'
      simp only at h1 h2
      rw [show a = c by omega, show b = d by omega]
theorem isLast_first (p : Nat × Nat) : IsLast ([] ++ [p]) (some p) := ⟨by simp, fun m hm => by simp at hm; subst hm; rw [laterB_not]; omega⟩
theorem isLast_keep {ms : List (Nat × Nat)} {l p : Nat × Nat} (h : IsLast ms (some l)) (hp : laterB p.1 p.2 l.1 l.2 = false) : IsLast (ms ++ [p]) (some l) :=
  ⟨List.mem_append_left _ h.1, fun m hm => by
    rcases List.mem_append.1 hm with hm | hm
    · exact h.2 m hm
    · simp at hm; subst hm; exact hp⟩
theorem isLast_new {ms : List (Nat × Nat)} {l p : Nat × Nat} (h : IsLast ms (some l)) (hp : laterB p.1 p.2 l.1 l.2 = true) : IsLast (ms ++ [p]) (some p) :=
  ⟨List.mem_append_right _ (by simp), fun m hm => by
    rcases List.mem_append.1 hm with hm | hm
    · have := h.2 m hm
      rw [laterB_not] at this ⊢
      rw [laterB_iff] at hp
      omega
    · simp at hm; subst hm; rw [laterB_not]; omega⟩

/-- What a variable of a mark holds. -/
def St (o : Option (Nat × Nat)) (a b : Nat) : Prop :=
  match o with
  | none => a = 0 ∧ b = 0
  | some p => MV a b p.1 p.2
theorem st_same {o : Option (Nat × Nat)} {a b c d : Nat} (h : St o a b) (k : St o c d) : FloatKind.f64.format.order a c = some .eq ∧ FloatKind.f64.format.order b d = some .eq := by
  cases o with
  | none => obtain ⟨rfl, rfl⟩ := h; obtain ⟨rfl, rfl⟩ := k; exact ⟨ord_eq val_zero val_zero, ord_eq val_zero val_zero⟩
  | some p => exact mv_ord h k

def LastPost (zs : List (Nat × Nat)) (w : World) (r : Ending) (w' : World) : Prop :=
  ∃ o a b, r = .returned (.tuple #[.complex .f64 a b, .bool o.isSome]) ∧ IsLast (marks zs) o ∧ St o a b ∧ w = w'

set_option maxHeartbeats 1000000 in
theorem last_any (A : Option Addr) (cap : Nat) (zs : List (Nat × Nat)) (hz : zs.length ≤ 8796093022207) (w : World) (h : Cs w A zs) :
    Calls Try.prog 31 #[.slice A zs.length cap] w (LastPost zs w) := by
  go_enter Try.func31, Try.ntmps31
  go_wp2_with fail
  go_loopw [4, 5, 10] (fun v4 v5 v10 wr => ∃ i : Nat, i ≤ zs.length ∧ v10 = .int .i64 i ∧ wr = w ∧ ∃ o a b, v4 = .complex .f64 a b ∧ v5 = .bool o.isSome ∧ IsLast (marks (zs.take i)) o ∧ St o a b) (fun _ _ v _ => zs.length - (intOf v).toNat)
  case atStart => exact ⟨0, Nat.zero_le _, rfl, rfl, none, 0, 0, rfl, rfl, rfl, rfl, rfl⟩
  case round =>
    obtain ⟨i, hi, rfl, rfl, o, a, b, rfl, rfl, hl, hst⟩ := hrel
    by_cases hlt : i < zs.length
    · obtain ⟨g, f, rfl, _, h1⟩ := h.at_ i hlt
      have hsn := take_snoc (0, 0) zs i hlt
      generalize zs.getD i (0, 0) = z at *
      have HS := Lib.hid hsn
      clear hsn
      cases hk : mk z with
      | none =>
        have hbad := mk_none hk
        have HL := Lib.hid hl
        clear hl
        go_wp2_with fail
        refine (good_no hbad _).mono ?_
        rintro r w' ⟨rfl, rfl⟩
        go_wp2_with fail
        go_roundw
        case rel => exact ⟨i + 1, by omega, by go_num, trivial, o, a, b, rfl, rfl, by rw [HS.out, marks_none hk]; exact HL.out, hst⟩
        case measure => simp [intOf]; omega
      | some p =>
        have hmv := mk_some hk
        cases o with
        | none =>
          have HL := Lib.hid hl
          clear hl
          go_wp2_with fail
          refine (good_yes hmv _).mono ?_
          rintro r w' ⟨rfl, rfl⟩
          go_wp2_with fail
          go_roundw
          case rel => exact ⟨i + 1, by omega, by go_num, trivial, some p, z.1, z.2, rfl, rfl, by rw [HS.out, marks_some hk, show marks (List.take i zs) = [] from HL.out]; exact isLast_first p, hmv⟩
          case measure => simp [intOf]; omega
        | some l =>
          have HL := Lib.hid hl
          clear hl
          cases hlb : laterB p.1 p.2 l.1 l.2 with
          | true =>
            go_wp2_with fail
            refine (good_yes hmv _).mono ?_
            rintro r w' ⟨rfl, rfl⟩
            go_wp2_with fail
            refine (later_yes hmv hst _).mono ?_
            rw [hlb]
            rintro r w' ⟨rfl, rfl⟩
            go_wp2_with fail
            go_roundw
            case rel => exact ⟨i + 1, by omega, by go_num, trivial, some p, z.1, z.2, rfl, rfl, by rw [HS.out, marks_some hk]; exact isLast_new HL.out hlb, hmv⟩
            case measure => simp [intOf]; omega
          | false =>
            go_wp2_with fail
            refine (good_yes hmv _).mono ?_
            rintro r w' ⟨rfl, rfl⟩
            go_wp2_with fail
            refine (later_yes hmv hst _).mono ?_
            rw [hlb]
            rintro r w' ⟨rfl, rfl⟩
            go_wp2_with fail
            go_roundw
            case rel => exact ⟨i + 1, by omega, by go_num, trivial, some l, a, b, rfl, rfl, by rw [HS.out, marks_some hk]; exact isLast_keep HL.out hlb, hst⟩
            case measure => simp [intOf]; omega
    · obtain rfl : i = zs.length := by omega
      rw [List.take_length] at hl
      have HL := Lib.hid hl
      clear hl
      go_wp2_with fail
      go_ret2
      exact ⟨o, a, b, rfl, HL.out, hst, rfl⟩

end Go.Proofs.Ytadplihjakiniaa

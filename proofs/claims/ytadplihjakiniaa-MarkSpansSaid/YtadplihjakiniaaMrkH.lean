/- The document's Last. -/
import Derived.Test.YtadplihjakiniaaMrkG
import Derived.Deep.QuietTactic
import Derived.BigQuiet
namespace Go.Proofs.Ytadplihjakiniaa
open Go.RowKit

theorem mem_marks {zs : List (Nat × Nat)} {p : Nat × Nat} : p ∈ marks zs ↔ ∃ j, j < zs.length ∧ mk (zs.getD j (0, 0)) = some p := by
  unfold marks
  rw [List.mem_filterMap]
  constructor
  · rintro ⟨z, hz, hk⟩
    obtain ⟨j, hj, rfl⟩ := List.mem_iff_getElem.1 hz
    exact ⟨j, hj, by simpa [List.getD_eq_getElem?_getD, List.getElem?_eq_getElem hj] using hk⟩
  · rintro ⟨j, hj, hk⟩
    exact ⟨zs[j], List.getElem_mem hj, by simpa [List.getD_eq_getElem?_getD, List.getElem?_eq_getElem hj] using hk⟩
theorem isLast_ex (ms : List (Nat × Nat)) : ∃ o, IsLast ms o := by
  suffices h : ∀ (l : List (Nat × Nat)), ∃ o, IsLast l.reverse o by
    have := h ms.reverse
    rwa [List.reverse_reverse] at this
  intro l
  induction l with
  | nil => exact ⟨none, rfl⟩
  | cons p t ih =>
    rw [List.reverse_cons]
    obtain ⟨o, ho⟩ := ih
    cases o with
    | none => rw [show t.reverse = [] from ho]; exact ⟨_, isLast_first p⟩
    | some l =>
      cases hb : laterB p.1 p.2 l.1 l.2 with
      | true => exact ⟨_, isLast_new ho hb⟩
      | false => exact ⟨_, isLast_keep ho hb⟩

/-- No one of the first i numbers is the latest mark. -/
def NoTop (zs : List (Nat × Nat)) (i : Nat) : Prop := ∀ j, j < i → ∀ p, mk (zs.getD j (0, 0)) = some p → ¬ IsLast (marks zs) (some p)
theorem noTop_all {zs : List (Nat × Nat)} (h : NoTop zs zs.length) : IsLast (marks zs) none := by
  obtain ⟨o, ho⟩ := isLast_ex (marks zs)
  cases o with
  | none => exact ho
  | some l =>
    obtain ⟨j, hj, hk⟩ := mem_marks.1 ho.1
    exact absurd ho (h j hj l hk)
theorem noTop_none {zs : List (Nat × Nat)} {i : Nat} (h : NoTop zs i) (hk : mk (zs.getD i (0, 0)) = none) : NoTop zs (i + 1) := by
  intro j hj p hp
  by_cases hji : j < i
  · exact h j hji p hp
  · obtain rfl : j = i := by omega
    rw [hk] at hp; cases hp
theorem noTop_next {zs : List (Nat × Nat)} {i : Nat} {p : Nat × Nat} (h : NoTop zs i) (hk : mk (zs.getD i (0, 0)) = some p) (hn : ¬ IsLast (marks zs) (some p)) : NoTop zs (i + 1) := by
  intro j hj q hq
  by_cases hji : j < i
  · exact h j hji q hq
  · obtain rfl : j = i := by omega
    rw [hk] at hq; injection hq with hq; subst hq; exact hn
/-- None of these is later. -/
def NoneLater (p : Nat × Nat) (ms : List (Nat × Nat)) : Prop := ∀ m ∈ ms, laterB m.1 m.2 p.1 p.2 = false
theorem noneLater_snoc {p q : Nat × Nat} {ms : List (Nat × Nat)} {t : Bool} (h : t = true ↔ NoneLater p ms) : ((t && !laterB q.1 q.2 p.1 p.2) = true) ↔ NoneLater p (ms ++ [q]) := by
  unfold NoneLater at *
  rw [Bool.and_eq_true, h]
  constructor
  · rintro ⟨h1, h2⟩ m hm
    rcases List.mem_append.1 hm with hm | hm
    · exact h1 m hm
    · simp at hm; subst hm; simpa using h2
  · intro h1
    exact ⟨fun m hm => h1 m (List.mem_append_left _ hm), by simpa using h1 q (List.mem_append_right _ (by simp))⟩

def DLastPost (zs : List (Nat × Nat)) (w : World) (r : Ending) (w' : World) : Prop :=
  ∃ o a b, r = .returned (.tuple #[.complex .f64 a b, .bool o.isSome]) ∧ IsLast (marks zs) o ∧ St o a b ∧ Drawn w w'
theorem Cs.drawn {w w' : World} {a : Option Addr} {zs : List (Nat × Nat)} (h : Cs w a zs) (hd : Drawn w w') : Cs w' a zs := h.below (hd.below _)

set_option maxHeartbeats 1000000 in
theorem rlast_any (A : Option Addr) (cap : Nat) (zs : List (Nat × Nat)) (hz : zs.length ≤ 8796093022207) (w : World) (h : Cs w A zs) :
    Calls Try.prog 33 #[.slice A zs.length cap] w (DLastPost zs w) := by
  go_enter Try.func33, Try.ntmps33
  go_wp2_with fail
  go_loopw [4] (fun v4 wr => ∃ i : Nat, i ≤ zs.length ∧ v4 = .int .i64 i ∧ Drawn w wr ∧ Hid (NoTop zs i)) (fun v _ => zs.length - (intOf v).toNat)
  case atStart => exact ⟨0, Nat.zero_le _, rfl, Drawn.refl _, Lib.hid (fun j hj => by omega)⟩
  case round =>
    obtain ⟨i, hi, rfl, hd, hn⟩ := hrel
    obtain ⟨wo, rfl⟩ : ∃ wo : World, wo = wr := ⟨_, rfl⟩
    by_cases hlt : i < zs.length
    · obtain ⟨g, f, rfl, hg, h1⟩ := (h.drawn hd).at_ i hlt
      obtain ⟨z, hzi⟩ : ∃ z, z = zs.getD i (0, 0) := ⟨_, rfl⟩
      rw [← hzi] at h1
      have HZ := Lib.hid hzi
      clear hzi
      cases hk : mk z with
      | none =>
        have hbad := mk_none hk
        go_wp2_with fail
        refine (parts_no hbad _).mono ?_
        rintro r w' ⟨rfl, rfl⟩
        go_wp2_with fail
        go_loopw [8, 9] (fun v8 v9 wr => ∃ j : Nat, j ≤ zs.length ∧ v9 = .int .i64 j ∧ v8 = .bool false ∧ Drawn w wr) (fun _ v _ => zs.length - (intOf v).toNat)
        case atStart => exact ⟨0, Nat.zero_le _, rfl, rfl, hd⟩
        case round =>
          obtain ⟨j, hj, rfl, rfl, hd2⟩ := hrel
          by_cases hjt : j < zs.length
          · go_wp2_with fail
            go_quiet (fail)
            go_wp2_with fail
            go_roundw
            case rel => exact ⟨j + 1, by omega, by go_num, rfl, hd2.drewN _⟩
            case measure => simp [intOf]; omega
          · go_wp2_with fail
            go_roundw
            case rel => exact ⟨i + 1, by omega, by go_num, hd2, Lib.hid (noTop_none hn.out (by rw [← HZ.out]; exact hk))⟩
            case measure => simp [intOf]; omega
      | some p =>
        have hmv := mk_some hk
        go_wp2_with fail
        refine (parts_yes hmv _).mono ?_
        rintro r w' ⟨rfl, rfl⟩
        go_wp2_with fail
        go_loopw [8, 9] (fun v8 v9 wr => ∃ j : Nat, j ≤ zs.length ∧ v9 = .int .i64 j ∧ Drawn w wr ∧ ∃ t, v8 = .bool t ∧ Hid (t = true ↔ NoneLater p (marks (zs.take j)))) (fun _ v _ => zs.length - (intOf v).toNat)
        case atStart => exact ⟨0, Nat.zero_le _, rfl, hd, true, rfl, Lib.hid ⟨fun _ m hm => by simp [marks] at hm, fun _ => rfl⟩⟩
        case round =>
          obtain ⟨j, hj, rfl, hd2, t, rfl, ht⟩ := hrel
          by_cases hjt : j < zs.length
          · obtain ⟨g2, f2, he, hg2, h2⟩ := (h.drawn hd2).at_ j hjt
            obtain ⟨rfl, rfl⟩ : g2 = g ∧ f2 = f := by injection he with he; injection he with h1 h2; exact ⟨h1.symm, h2.symm⟩
            obtain ⟨g3, f3, he3, hg3, h3⟩ := (h.drawn hd2).at_ i hlt
            obtain ⟨rfl, rfl⟩ : g3 = g2 ∧ f3 = f2 := by injection he3 with he; injection he with h1 h2; exact ⟨h1.symm, h2.symm⟩
            clear he he3
            rw [← HZ.out] at h3
            have hsn := take_snoc (0, 0) zs j hjt
            obtain ⟨y, hy⟩ : ∃ y, y = zs.getD j (0, 0) := ⟨_, rfl⟩
            rw [← hy] at h2 hsn
            have HS := Lib.hid hsn
            clear hy hsn
            have hb : ∃ b, (∀ w, Calls Try.prog 29 #[.complex .f64 y.1 y.2, .complex .f64 z.1 z.2] w fun e w' => e = .returned (.bool b) ∧ w' = w) ∧ (((t && !b) = true) ↔ NoneLater p (marks (zs.take (j + 1)))) := by
              rw [HS.out]
              cases hq : mk y with
              | none => exact ⟨false, fun w => (rlater_no (.inl (mk_none hq)) w).mono fun _ _ h => ⟨h.1, h.2.symm⟩, by rw [marks_none hq]; simpa using ht.out⟩
              | some q => exact ⟨_, fun w => (rlater_yes (mk_some hq) hmv w).mono fun _ _ h => ⟨h.1, h.2.symm⟩, by rw [marks_some hq]; exact noneLater_snoc ht.out⟩
            obtain ⟨b, hL, hb⟩ := hb
            have HL := Lib.hid hL
            have HB := Lib.hid hb
            clear hL hb HS ht
            cases t with
            | false =>
              go_wp2_with fail
              go_quiet (fail)
              go_wp2_with fail
              go_roundw
              case rel => exact ⟨j + 1, by omega, by go_num, hd2.drewN _, false, rfl, HB⟩
              case measure => simp [intOf]; omega
            | true =>
              go_wp2_with fail
              go_quiet (first | (go_at_call 29; exact Calls.quiet_of_same (HL.out _)))
              go_wp2_with fail
              go_roundw
              case rel => exact ⟨j + 1, by omega, by go_num, hd2.drewN _, !b, rfl, by simpa using HB⟩
              case measure => simp [intOf]; omega
          · obtain rfl : j = zs.length := by omega
            rw [List.take_length] at ht
            cases t with
            | false =>
              go_wp2_with fail
              go_roundw
              case rel => exact ⟨i + 1, by omega, by go_num, hd2, Lib.hid (noTop_next hn.out (by rw [← HZ.out]; exact hk) (fun hl => by have := ht.out.2 hl.2; cases this))⟩
              case measure => simp [intOf]; omega
            | true =>
              go_wp2_with fail
              go_ret2
              exact ⟨some p, _, _, rfl, ⟨mem_marks.2 ⟨i, hlt, by rw [← HZ.out]; exact hk⟩, ht.out.1 trivial⟩, mv_near hmv.he hmv.hn, hd2⟩
    · obtain rfl : i = zs.length := by omega
      go_wp2_with fail
      go_ret2
      exact ⟨none, 0, 0, rfl, noTop_all hn.out, ⟨rfl, rfl⟩, hd⟩

end Go.Proofs.Ytadplihjakiniaa

/- The document's Span. -/
import Derived.Test.YtadplihjakiniaaMrkH
namespace Go.Proofs.Ytadplihjakiniaa
open Go.RowKit

/-- What es and ns hold: no pair seen lies further apart; it is 0 or a pair's. -/
structure Part (sel : Nat × Nat → Nat) (D : Nat × Nat → Nat × Nat → Prop) (all : List (Nat × Nat)) (s : Int) : Prop where
  up : ∀ e f, D e f → (sel e : Int) - sel f ≤ s
  is : s = 0 ∨ ∃ e ∈ all, ∃ f ∈ all, s = (sel e : Int) - sel f
  nn : 0 ≤ s
  le : s ≤ 1099511627776
def DOut (zs : List (Nat × Nat)) (i : Nat) (e f : Nat × Nat) : Prop := e ∈ marks (zs.take i) ∧ f ∈ marks zs
def DIn (zs : List (Nat × Nat)) (i : Nat) (p : Nat × Nat) (j : Nat) (e f : Nat × Nat) : Prop := DOut zs i e f ∨ (e = p ∧ f ∈ marks (zs.take j))
theorem Part.mono {sel : Nat × Nat → Nat} {D D' : Nat × Nat → Nat × Nat → Prop} {all : List (Nat × Nat)} {s : Int} (h : Part sel D all s) (hd : ∀ e f, D' e f → D e f) : Part sel D' all s :=
  ⟨fun e f he => h.up e f (hd e f he), h.is, h.nn, h.le⟩
theorem part_start (sel : Nat × Nat → Nat) (zs : List (Nat × Nat)) : Part sel (DOut zs 0) (marks zs) 0 := ⟨fun e f h => by simp [DOut, marks] at h, .inl rfl, by omega, by omega⟩
theorem part_more {sel : Nat × Nat → Nat} {zs : List (Nat × Nat)} {i j : Nat} {p q : Nat × Nat} {s : Int} (h : Part sel (DIn zs i p j) (marks zs) s) (hp : p ∈ marks zs) (hq : q ∈ marks zs) (hj : marks (zs.take (j + 1)) = marks (zs.take j) ++ [q]) (hb : sel p ≤ 1099511627776) :
    Part sel (DIn zs i p (j + 1)) (marks zs) (if s < (sel p : Int) - sel q then (sel p : Int) - sel q else s) := by
  have h0 := h.nn
  have h1 := h.le
  refine ⟨fun e f hd => ?_, ?_, by split <;> omega, by split <;> omega⟩
  · rcases hd with hd | ⟨rfl, hf⟩
    · have := h.up e f (.inl hd); split <;> omega
    · rw [hj] at hf
      rcases List.mem_append.1 hf with hf | hf
      · have := h.up e f (.inr ⟨rfl, hf⟩); split <;> omega
      · simp at hf; subst hf; split <;> omega
  · split
    · exact .inr ⟨p, hp, q, hq, rfl⟩
    · exact h.is
theorem part_end {sel : Nat × Nat → Nat} {zs : List (Nat × Nat)} {s : Int} (h : Part sel (DOut zs zs.length) (marks zs) s) : IsSpan ((marks zs).map sel) s := by
  refine ⟨fun e he f hf => ?_, ?_⟩
  · obtain ⟨x, hx, rfl⟩ := List.mem_map.1 he
    obtain ⟨y, hy, rfl⟩ := List.mem_map.1 hf
    exact h.up x y ⟨by rwa [List.take_length], hy⟩
  · rcases h.is with h0 | ⟨e, he, f, hf, rfl⟩
    · exact .inl h0
    · exact .inr ⟨_, List.mem_map.2 ⟨e, he, rfl⟩, _, List.mem_map.2 ⟨f, hf, rfl⟩, rfl⟩
theorem part_none {sel : Nat × Nat → Nat} {zs : List (Nat × Nat)} {i : Nat} {z : Nat × Nat} {s : Int} (h : Part sel (DOut zs i) (marks zs) s) (hs : zs.take (i + 1) = zs.take i ++ [z]) (hk : mk z = none) : Part sel (DOut zs (i + 1)) (marks zs) s :=
  h.mono fun e f hd => by unfold DOut at *; rwa [hs, marks_none hk] at hd
theorem part_next {sel : Nat × Nat → Nat} {zs : List (Nat × Nat)} {i : Nat} {z p : Nat × Nat} {s : Int} (h : Part sel (DIn zs i p zs.length) (marks zs) s) (hs : zs.take (i + 1) = zs.take i ++ [z]) (hk : mk z = some p) : Part sel (DOut zs (i + 1)) (marks zs) s :=
  h.mono fun e f hd => by
    obtain ⟨h1, h2⟩ := hd
    rw [hs, marks_some hk] at h1
    rcases List.mem_append.1 h1 with h1 | h1
    · exact .inl ⟨h1, h2⟩
    · simp at h1; exact .inr ⟨h1, by rwa [List.take_length]⟩
theorem part_in {sel : Nat × Nat → Nat} {zs : List (Nat × Nat)} {i : Nat} {p : Nat × Nat} {s : Int} (h : Part sel (DOut zs i) (marks zs) s) : Part sel (DIn zs i p 0) (marks zs) s :=
  h.mono fun e f hd => by
    rcases hd with hd | ⟨_, hf⟩
    · exact hd
    · simp [marks] at hf
theorem part_skip {sel : Nat × Nat → Nat} {zs : List (Nat × Nat)} {i j : Nat} {p y : Nat × Nat} {s : Int} (h : Part sel (DIn zs i p j) (marks zs) s) (hs : zs.take (j + 1) = zs.take j ++ [y]) (hk : mk y = none) : Part sel (DIn zs i p (j + 1)) (marks zs) s :=
  h.mono fun e f hd => by unfold DIn at *; rwa [hs, marks_none hk] at hd
/-- Both parts. -/
structure Two (D : Nat × Nat → Nat × Nat → Prop) (all : List (Nat × Nat)) (s t : Int) : Prop where
  one : Part Prod.fst D all s
  two : Part Prod.snd D all t

set_option maxHeartbeats 2000000 in
theorem rspan_any (A : Option Addr) (cap : Nat) (zs : List (Nat × Nat)) (hz : zs.length ≤ 8796093022207) (w : World) (h : Cs w A zs) :
    Calls Try.prog 35 #[.slice A zs.length cap] w (SpanPost zs w) := by
  go_enter Try.func35, Try.ntmps35
  go_wp2_with fail
  go_loopw [3, 4, 5] (fun v3 v4 v5 wr => ∃ i : Nat, i ≤ zs.length ∧ v5 = .int .i64 i ∧ wr = w ∧ ∃ s t : Int, v3 = .int .i64 s ∧ v4 = .int .i64 t ∧ Two (DOut zs i) (marks zs) s t) (fun _ _ v _ => zs.length - (intOf v).toNat)
  case atStart => exact ⟨0, Nat.zero_le _, rfl, rfl, 0, 0, rfl, rfl, part_start _ _, part_start _ _⟩
  case round =>
    obtain ⟨i, hi, rfl, rfl, s, t, rfl, rfl, ht⟩ := hrel
    obtain ⟨wo, hwo⟩ : ∃ wo : World, wo = wr := ⟨_, rfl⟩
    subst hwo
    by_cases hlt : i < zs.length
    · obtain ⟨g, f, rfl, hg, h1⟩ := h.at_ i hlt
      have hsn := take_snoc (0, 0) zs i hlt
      have hmem := fun p hp => mem_marks (zs := zs) (p := p) |>.2 ⟨i, hlt, hp⟩
      generalize zs.getD i (0, 0) = z at *
      have HM := Lib.hid hmem
      have HS := Lib.hid hsn
      clear hsn hmem
      cases hk : mk z with
      | none =>
        have hbad := mk_none hk
        go_wp2_with fail
        refine (parts_no hbad _).mono ?_
        rintro r w' ⟨rfl, rfl⟩
        go_wp2_with fail
        go_loopw [3, 4, 9] (fun v3 v4 v9 wr => ∃ j : Nat, j ≤ zs.length ∧ v9 = .int .i64 j ∧ wr = wo ∧ v3 = .int .i64 s ∧ v4 = .int .i64 t) (fun _ _ v _ => zs.length - (intOf v).toNat)
        case atStart => exact ⟨0, Nat.zero_le _, rfl, rfl, rfl, rfl⟩
        case round =>
          obtain ⟨j, hj, rfl, rfl, rfl, rfl⟩ := hrel
          by_cases hjt : j < zs.length
          · obtain ⟨g2, f2, he, hg2, h2⟩ := h.at_ j hjt
            obtain ⟨rfl, rfl⟩ : g2 = g ∧ f2 = f := by injection he with he; injection he with h1 h2; exact ⟨h1.symm, h2.symm⟩
            clear he
            generalize zs.getD j (0, 0) = y at *
            cases hq : mk y with
            | none =>
              go_wp2_with fail
              refine (parts_no (mk_none hq) _).mono ?_
              rintro r w' ⟨rfl, rfl⟩
              go_wp2_with fail
              go_roundw
              case rel => exact ⟨j + 1, by omega, by go_num, trivial, rfl, rfl⟩
              case measure => simp [intOf]; omega
            | some q =>
              go_wp2_with fail
              refine (parts_yes (mk_some hq) _).mono ?_
              rintro r w' ⟨rfl, rfl⟩
              go_wp2_with fail
              go_roundw
              case rel => exact ⟨j + 1, by omega, by go_num, trivial, rfl, rfl⟩
              case measure => simp [intOf]; omega
          · go_wp2_with fail
            go_roundw
            case rel => exact ⟨i + 1, by omega, by go_num, trivial, s, t, rfl, rfl, part_none ht.one HS.out hk, part_none ht.two HS.out hk⟩
            case measure => simp [intOf]; omega
      | some p =>
        have hmv := mk_some hk
        have hpm := HM.out p hk
        have HP := Lib.hid hpm
        have p1 := hmv.he
        have p2 := hmv.hn
        clear hpm HM
        go_wp2_with fail
        refine (parts_yes hmv _).mono ?_
        rintro r w' ⟨rfl, rfl⟩
        go_wp2_with fail
        go_loopw [3, 4, 9] (fun v3 v4 v9 wr => ∃ j : Nat, j ≤ zs.length ∧ v9 = .int .i64 j ∧ wr = wo ∧ ∃ s t : Int, v3 = .int .i64 s ∧ v4 = .int .i64 t ∧ Two (DIn zs i p j) (marks zs) s t) (fun _ _ v _ => zs.length - (intOf v).toNat)
        case atStart => exact ⟨0, Nat.zero_le _, rfl, rfl, s, t, rfl, rfl, part_in ht.one, part_in ht.two⟩
        case round =>
          clear ht
          obtain ⟨j, hj, rfl, rfl, s, t, rfl, rfl, ht⟩ := hrel
          by_cases hjt : j < zs.length
          · obtain ⟨g2, f2, he, hg2, h2⟩ := h.at_ j hjt
            obtain ⟨rfl, rfl⟩ : g2 = g ∧ f2 = f := by injection he with he; injection he with h1 h2; exact ⟨h1.symm, h2.symm⟩
            clear he
            have hsn := take_snoc (0, 0) zs j hjt
            have hmem := fun p hp => mem_marks (zs := zs) (p := p) |>.2 ⟨j, hjt, hp⟩
            generalize zs.getD j (0, 0) = y at *
            have HM := Lib.hid hmem
            have HT := Lib.hid hsn
            clear hsn hmem
            cases hq : mk y with
            | none =>
              go_wp2_with fail
              refine (parts_no (mk_none hq) _).mono ?_
              rintro r w' ⟨rfl, rfl⟩
              go_wp2_with fail
              go_roundw
              case rel => exact ⟨j + 1, by omega, by go_num, trivial, s, t, rfl, rfl, part_skip ht.one HT.out hq, part_skip ht.two HT.out hq⟩
              case measure => simp [intOf]; omega
            | some q =>
              have kmv := mk_some hq
              have q1 := kmv.he
              have q2 := kmv.hn
              have s0 := ht.one.nn
              have s1 := ht.one.le
              have t0 := ht.two.nn
              have t1 := ht.two.le
              have hj2 : marks (zs.take (j + 1)) = marks (zs.take j) ++ [q] := by rw [HT.out, marks_some hq]
              have n1 := part_more ht.one HP.out (HM.out q hq) hj2 p1
              have n2 := part_more ht.two HP.out (HM.out q hq) hj2 p2
              clear ht hj2
              by_cases c1 : s < (p.1 : Int) - q.1
              · rw [if_pos c1] at n1
                by_cases c2 : t < (p.2 : Int) - q.2
                · rw [if_pos c2] at n2
                  go_wp2_with fail
                  refine (parts_yes kmv _).mono ?_
                  rintro r w' ⟨rfl, rfl⟩
                  go_wp2_with fail
                  go_roundw
                  case rel => exact ⟨j + 1, by omega, by go_num, trivial, _, _, rfl, rfl, n1, n2⟩
                  case measure => simp [intOf]; omega
                · rw [if_neg c2] at n2
                  go_wp2_with fail
                  refine (parts_yes kmv _).mono ?_
                  rintro r w' ⟨rfl, rfl⟩
                  go_wp2_with fail
                  go_roundw
                  case rel => exact ⟨j + 1, by omega, by go_num, trivial, _, _, rfl, rfl, n1, n2⟩
                  case measure => simp [intOf]; omega
              · rw [if_neg c1] at n1
                by_cases c2 : t < (p.2 : Int) - q.2
                · rw [if_pos c2] at n2
                  go_wp2_with fail
                  refine (parts_yes kmv _).mono ?_
                  rintro r w' ⟨rfl, rfl⟩
                  go_wp2_with fail
                  go_roundw
                  case rel => exact ⟨j + 1, by omega, by go_num, trivial, _, _, rfl, rfl, n1, n2⟩
                  case measure => simp [intOf]; omega
                · rw [if_neg c2] at n2
                  go_wp2_with fail
                  refine (parts_yes kmv _).mono ?_
                  rintro r w' ⟨rfl, rfl⟩
                  go_wp2_with fail
                  go_roundw
                  case rel => exact ⟨j + 1, by omega, by go_num, trivial, _, _, rfl, rfl, n1, n2⟩
                  case measure => simp [intOf]; omega
          · obtain rfl : j = zs.length := by omega
            go_wp2_with fail
            go_roundw
            case rel => exact ⟨i + 1, by omega, by go_num, trivial, s, t, rfl, rfl, part_next ht.one HS.out hk, part_next ht.two HS.out hk⟩
            case measure => simp [intOf]; omega
    · obtain rfl : i = zs.length := by omega
      have b1 := ht.one.le; have b2 := ht.one.nn; have b3 := ht.two.le; have b4 := ht.two.nn
      go_wp2_with fail
      go_ret
      exact ⟨_, _, s, t, rfl, val_nearest s (by omega), val_nearest t (by omega), part_end ht.one, part_end ht.two, rfl⟩

end Go.Proofs.Ytadplihjakiniaa

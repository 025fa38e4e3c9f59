/- Which entries, ops and notes are plain: the document's checks. -/
import Derived.Test.YtmhcjkiaogimgaaWirD
namespace Go.Proofs.Ytmhcjkiaogimgaa
open Go.RowKit

set_option maxHeartbeats 4000000 in
theorem rplainOp_any (o : OpD) (w : World) : Calls Try.prog 70 #[.agg o.cells.toArray] w (Tells o.ok w) := by
  obtain ⟨k, d, s, t, n, m, g⟩ := o
  show Calls Try.prog _ #[.agg #[.int .i64 k, .int .i64 d, .string s, .int .i64 t, .string n, .int .i64 m, .string g]] w _
  rcases (show k < 1 ∨ (1 ≤ k ∧ (11 < k ∨ (k ≤ 11 ∧ (okN d = false ∨ (okN d = true ∧ (okN t = false ∨ (okN t = true ∧ (okN m = false ∨ (okN m = true ∧ (96 < s.size ∨ (s.size ≤ 96 ∧ (96 < n.size ∨ (n.size ≤ 96 ∧ (96 < g.size ∨ g.size ≤ 96)))))))))))))) from by
    by_cases a1 : k < 1
    · exact .inl a1
    refine .inr ⟨by omega, ?_⟩
    by_cases a2 : 11 < k
    · exact .inl a2
    refine .inr ⟨by omega, ?_⟩
    cases okN d
    · exact .inl rfl
    refine .inr ⟨rfl, ?_⟩
    cases okN t
    · exact .inl rfl
    refine .inr ⟨rfl, ?_⟩
    cases okN m
    · exact .inl rfl
    refine .inr ⟨rfl, ?_⟩
    omega) with h1 | ⟨h1, h2 | ⟨h2, h3 | ⟨h3, h4 | ⟨h4, h5 | ⟨h5, h6 | ⟨h6, h7 | ⟨h7, h8 | h8⟩⟩⟩⟩⟩⟩⟩
  all_goals
    obtain ⟨b, hb⟩ : ∃ b, Hid (OpD.ok ⟨k, d, s, t, n, m, g⟩ = b) := ⟨_, rfl⟩
    rw [hb.out]
    go_enter Try.func70, Try.ntmps70
    go_wp2_with (go_at_call 69; refine (bad_any _ _).mono ?_; rintro e w' ⟨rfl, rfl⟩)
    go_ret
    refine ⟨bb ?_, bel_al (Below.refl _ _) _⟩
    rw [← hb.out]
    simp [OpD.ok, okIn, okT, *] <;> omega

set_option maxHeartbeats 4000000 in
theorem rplainEntry_any (x : EntryD) (w : World) : Calls Try.prog 71 #[.agg x.cells.toArray] w (Tells x.ok w) := by
  obtain ⟨⟨kd, ks⟩, neg, ⟨id, kind, mode, target⟩⟩ := x
  show Calls Try.prog _ #[.agg #[.int .i64 kd, .string ks, .bool neg, .int .i64 id, .int .i64 kind, .int .i64 mode, .string target]] w _
  have HB : Hid (∀ w1, Below (w.heap.size + 1) (w.alloc (.cells #[.int .i64 kd, .string ks, .bool neg, .int .i64 id, .int .i64 kind, .int .i64 mode, .string target] 47)) w1 → Below w.heap.size w w1) := fun w1 h =>
    bel_next (bel_al (Below.refl _ _) _) (by simpa using h)
  cases h0 : KeyD.ok ⟨kd, ks⟩ with
  | false =>
    have hok : Hid (EntryD.ok ⟨⟨kd, ks⟩, neg, ⟨id, kind, mode, target⟩⟩ = false) := by show _ = _; simp [EntryD.ok, h0]
    go_enter Try.func71, Try.ntmps71
    go_wp2_with fail
    refine (rplainKey_any ⟨kd, ks⟩ _).mono ?_
    rintro e w1 ⟨rfl, b1⟩
    rw [h0]
    have B1 := HB.out _ (by simpa using b1)
    go_wp2_with fail
    go_ret
    rw [hok.out]
    exact ⟨rfl, B1⟩
  | true =>
    cases neg with
    | true =>
      have hq : ∀ W : World, (binOp .eql 45 (.agg #[.int .i64 id, .int .i64 kind, .int .i64 mode, .string target]) (.agg #[.int .i64 0, .int .i64 0, .int .i64 0, .string ⟨#[]⟩])).run Try.prog W = .ok (.bool (decide ((⟨id, kind, mode, target⟩ : NodeD) = NodeD.zero))) W := fun W => eql_run rfl rfl (eq_node 9998 W ⟨id, kind, mode, target⟩ NodeD.zero)
      have hok : Hid (EntryD.ok ⟨⟨kd, ks⟩, true, ⟨id, kind, mode, target⟩⟩ = decide ((⟨id, kind, mode, target⟩ : NodeD) = NodeD.zero)) := by show _ = _; simp [EntryD.ok, h0]
      generalize decide ((⟨id, kind, mode, target⟩ : NodeD) = NodeD.zero) = b at *
      go_enter Try.func71, Try.ntmps71
      go_wp2_with fail
      refine (rplainKey_any ⟨kd, ks⟩ _).mono ?_
      rintro e w1 ⟨rfl, b1⟩
      rw [h0]
      obtain ⟨c0, c1, c2, c3, c4, c5, c6⟩ := entry_kept (x := ⟨⟨kd, ks⟩, true, ⟨id, kind, mode, target⟩⟩) (Blk.new w _ _) b1
      have B1 := HB.out _ (by simpa using b1)
      go_wp2_with fail
      go_ret
      rw [hok.out]
      exact ⟨rfl, B1⟩
    | false =>
      rcases (show okN id = false ∨ (okN id = true ∧ (okN mode = false ∨ (okN mode = true ∧ (kind < 1 ∨ (1 ≤ kind ∧ (3 < kind ∨ (kind ≤ 3 ∧ (96 < target.size ∨ target.size ≤ 96)))))))) from by
        cases okN id
        · exact .inl rfl
        refine .inr ⟨rfl, ?_⟩
        cases okN mode
        · exact .inl rfl
        refine .inr ⟨rfl, ?_⟩
        omega) with h1 | ⟨h1, h2 | ⟨h2, h3 | ⟨h3, h4 | ⟨h4, h5 | h5⟩⟩⟩⟩
      all_goals
        obtain ⟨b, hb⟩ : ∃ b, Hid (EntryD.ok ⟨⟨kd, ks⟩, false, ⟨id, kind, mode, target⟩⟩ = b) := ⟨_, rfl⟩
        rw [hb.out]
        go_enter Try.func71, Try.ntmps71
        go_wp2_with fail
        refine (rplainKey_any ⟨kd, ks⟩ _).mono ?_
        rintro e w1 ⟨rfl, b1⟩
        rw [h0]
        obtain ⟨c0, c1, c2, c3, c4, c5, c6⟩ := entry_kept (x := ⟨⟨kd, ks⟩, false, ⟨id, kind, mode, target⟩⟩) (Blk.new w _ _) b1
        have B1 := HB.out _ (by simpa using b1)
        clear b1
        go_wp2_with (go_at_call 69; refine (bad_any _ _).mono ?_; rintro e w' ⟨rfl, rfl⟩)
        go_ret
        refine ⟨bb ?_, bel_al B1 _⟩
        rw [← hb.out]
        simp [EntryD.ok, okIn, okT, *] <;> omega

end Go.Proofs.Ytmhcjkiaogimgaa

/- An argument M, opened, with the bounds that stand for it. -/
import Derived.Test.YtmhcjkiaogimgaaArgM
namespace Go.Proofs.Ytmhcjkiaogimgaa
open Go.ChangeShapes Go.WideShapes Go.ChangeAt Go.RowKit Go.Deep

theorem wf_abs {q : Int} (h : (Lit.int .i64 q).wf = true) : q.natAbs ≤ 9223372036854775808 := by
  rw [Lit.wf, Bool.and_eq_true, decide_eq_true_eq, decide_eq_true_eq] at h
  have e1 : IntKind.i64.min = -9223372036854775808 := by decide
  have e2 : IntKind.i64.max = 9223372036854775807 := by decide
  omega
section
variable {H : Type} {enc : TypeId × Value → H} {w : World} {base : Nat} {spare : Nat → Bool} {held : Bool}
theorem m_of2 {fuel : Nat} {cs : List Value} {x : DataW H × List MemPlace} (h : DataW.trod enc Try.prog w base spare held fuel 27 cs = some x) :
    ∃ (m : MD) (s : Sls), Has cs 0 (m.cells s) ∧ ((Lit.int .i64 m.epoch).wf = true ∧ (Lit.int .i64 m.number).wf = true) ∧ RowsAt w s.ea 7 (m.entries.map EntryD.cells) ∧ RowsAt w s.ka 2 (m.keys.map KeyD.cells) ∧
      (m.entries = [] ∨ ∃ parts es sp, x.1 = .agg parts ∧ parts[9]? = some (.slice es sp) ∧ es.length = m.entries.length) ∧ (m.keys = [] ∨ ∃ parts es sp, x.1 = .agg parts ∧ parts[10]? = some (.slice es sp) ∧ es.length = m.keys.length) := by
  obtain ⟨a, ha, _⟩ := f_int Try.underlying27 h 0 rfl rfl (k := .i64) (by kernel_rfl)
  obtain ⟨b, hb, _⟩ := f_int Try.underlying27 h 1 rfl rfl (k := .i64) (by kernel_rfl)
  obtain ⟨c, hc, _⟩ := f_int Try.underlying27 h 2 rfl rfl (k := .i64) (by kernel_rfl)
  obtain ⟨d, hd, _⟩ := f_int Try.underlying27 h 3 rfl rfl (k := .i64) (by kernel_rfl)
  obtain ⟨e, he, hwe⟩ := f_int Try.underlying27 h 4 rfl rfl (k := .i64) (by kernel_rfl)
  obtain ⟨f, hf, hwf⟩ := f_int Try.underlying27 h 5 rfl rfl (k := .i64) (by kernel_rfl)
  obtain ⟨g, hg, _⟩ := f_int Try.underlying27 h 6 rfl rfl (k := .i64) (by kernel_rfl)
  obtain ⟨i, hi, _⟩ := f_int Try.underlying27 h 7 rfl rfl (k := .i64) (by kernel_rfl)
  obtain ⟨_, _, h1⟩ := trod_field Try.underlying27 h 8 rfl (ty := 23) (o := 8) (c := 7) rfl rfl (by kernel_rfl)
  obtain ⟨o, ho⟩ := op_of h1
  obtain ⟨_, y9, p9, h2, hx9, hp9⟩ := trod_part Try.underlying27 h 9 rfl (ty := 24) (o := 15) (c := 1) rfl rfl (by kernel_rfl)
  obtain ⟨_, y10, p10, h3, hx10, hp10⟩ := trod_part Try.underlying27 h 10 rfl (ty := 25) (o := 16) (c := 1) rfl rfl (by kernel_rfl)
  obtain ⟨ea, es, ec, hes, hra, hsa⟩ := rows_of EntryD.cells (k := 7) (fun _ => rfl) (by omega) Try.underlying24 (by unfold Program.cellsOf; kernel_rfl) (fun hh => entry_of hh) h2
  obtain ⟨ka, ks, kc, hks, hrk, hsk⟩ := rows_of KeyD.cells (k := 2) (fun _ => rfl) (by omega) Try.underlying25 (by unfold Program.cellsOf; kernel_rfl) (fun hh => key_of hh) h3
  refine ⟨⟨a, b, c, d, e, f, g, i, o, es, ks⟩, ⟨ea, ec, ka, kc⟩, has_cons ha (has_cons hb (has_cons hc (has_cons hd (has_cons he (has_cons hf (has_cons hg (has_cons hi (has_app (n := 7) ho.up rfl (has_cons (get_sub (i := 0) (get_one hes)) (has_cons (get_sub (i := 0) (get_one hks)) has_nil)))))))))), ⟨hwe, hwf⟩, hra, hrk, ?_, ?_⟩
  · rcases hsa with h0 | ⟨l, sp, hy, hl⟩
    · exact Or.inl h0
    · exact Or.inr ⟨p9, l, sp, hx9, by rw [hp9, hy], hl⟩
  · rcases hsk with h0 | ⟨l, sp, hy, hl⟩
    · exact Or.inl h0
    · exact Or.inr ⟨p10, l, sp, hx10, by rw [hp10, hy], hl⟩
end

set_option maxRecDepth 100000 in
theorem arg_m2 {H : Type} {enc : TypeId × Value → H} {W : World} {base b0 : Nat} {r : Reach} {spare : Nat → Bool} {held : Bool} {v : Value} {d : DataW H} {ps : List MemPlace} {ts : List TypeId} {ds : List (DataW H)} {j : Nat}
    (hsz : (DataW.weightsEach Try.prog ts ds).all (· ≤ reachBytes) = true) (ht : ts[j]? = some 27) (hd : ds[j]? = some d)
    (hv : Value.okWide Try.prog W r b0 27 v) (h : DataW.Trod enc Try.prog W base spare held 27 v d ps) : ∃ (m : MD) (s : Sls) (xs : Array Value), MArg W xs m s ∧ (m.entries.length * 72 ≤ 140737488351232 ∧ m.keys.length * 24 ≤ 140737488351232 ∧ m.epoch.natAbs ≤ 9223372036854775808 ∧ m.number.natAbs ≤ 9223372036854775808) ∧ v = .agg xs := by
  obtain ⟨cs, rfl, hszc⟩ := okWide_struct Try.underlying27 hv
  rw [cells_m] at hszc
  obtain ⟨fuel, hf⟩ := h
  obtain ⟨m, s, hn, hw, h1, h2, h3, h4⟩ := m_of2 hf
  have e : Value.cells (.agg cs) = cs := by simp [Value.cells]
  rw [e] at hn
  have he : cs.toList = m.cells s := hn.eq (by rw [Array.length_toList, hszc, m_len])
  have b1 : m.entries.length * 72 ≤ 140737488351232 := by
    rcases h3 with h0 | ⟨parts, es, sp, hx, hp, hl⟩
    · rw [h0]; exact Nat.zero_le _
    · rw [show d = .agg parts from hx] at hd
      have := sized_part hsz ht hd Try.underlying27 (i := 9) (t2 := 24) rfl hp Try.underlying24 (B := 72) (by unfold Program.bytesOf; kernel_rfl)
      rw [hl] at this
      exact Nat.le_trans this (by decide)
  have b2 : m.keys.length * 24 ≤ 140737488351232 := by
    rcases h4 with h0 | ⟨parts, es, sp, hx, hp, hl⟩
    · rw [h0]; exact Nat.zero_le _
    · rw [show d = .agg parts from hx] at hd
      have := sized_part hsz ht hd Try.underlying27 (i := 10) (t2 := 25) rfl hp Try.underlying25 (B := 24) (by unfold Program.bytesOf; kernel_rfl)
      rw [hl] at this
      exact Nat.le_trans this (by decide)
  exact ⟨m, s, cs, ⟨by rw [← he], h1, h2, by omega, by omega⟩, ⟨b1, b2, wf_abs hw.1, wf_abs hw.2⟩, rfl⟩

end Go.Proofs.Ytmhcjkiaogimgaa

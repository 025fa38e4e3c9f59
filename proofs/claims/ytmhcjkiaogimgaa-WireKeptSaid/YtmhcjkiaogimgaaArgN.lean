/- Arguments that are structs of structs: keys, entries, ops, notes, opened. -/
import Derived.Test.YtmhcjkiaogimgaaRows
import Derived.Test.YtmhcjkiaogimgaaArg
import Derived.Test.YtmhcjkiaogimgaaWirA
import Derived.Deep.Slices
import Derived.Deep.Fields
import Derived.ChangeSame
namespace Go.Proofs.Ytmhcjkiaogimgaa
open Go.ChangeShapes Go.WideShapes Go.ChangeAt Go.RowKit Go.Deep

section
variable {H : Type} {enc : TypeId × Value → H} {w : World} {base : Nat} {spare : Nat → Bool} {held : Bool}
/-- One field of a struct that is walked over. -/
theorem trod_field {P : Program} {t : TypeId} {fs : Array Field} {fuel : Nat} {cs : List Value} {x : DataW H × List MemPlace} (he : P.underlying t = some (.struct fs)) (h : DataW.trod enc P w base spare held fuel t cs = some x)
    (j : Nat) {f : Field} (hj : fs[j]? = some f) {ty : TypeId} {o c : Nat} (hty : f.type = ty) (ho : f.offset = o) (hc : P.cellsOf ty = c) : ∃ n y, DataW.trod enc P w base spare held n ty ((cs.drop o).take c) = some y := by
  obtain ⟨ys, n', hn', hy, hlen, hyl, hf⟩ := DataW.trod_struct he h
  have h1 := hf j f hj
  have hjl : j < ys.length := by
    have := (Array.getElem?_eq_some_iff.1 hj).1
    omega
  subst hty; subst ho; subst hc
  exact ⟨n', ys[j], h1.trans (List.getElem?_eq_getElem hjl)⟩
theorem get_sub {l : List Value} {o c i : Nat} {v : Value} (h : ((l.drop o).take c)[i]? = some v) : l[o + i]? = some v := by
  rw [List.getElem?_take] at h
  split at h
  · rwa [List.getElem?_drop] at h
  · cases h
theorem get_one {l : List Value} {v : Value} (h : l = [v]) : l[0]? = some v := by rw [h]; rfl
theorem f_int {P : Program} {k : IntKind} {t : TypeId} {fs : Array Field} {fuel : Nat} {cs : List Value} {x : DataW H × List MemPlace} (he : P.underlying t = some (.struct fs)) (h : DataW.trod enc P w base spare held fuel t cs = some x)
    (j : Nat) {f : Field} (hj : fs[j]? = some f) {o : Nat} (ho : f.offset = o) (hi : P.underlying f.type = some (.int k)) : ∃ q, cs[o]? = some (.int k q) ∧ (Lit.int k q).wf = true := by
  obtain ⟨n, y, hy⟩ := trod_field he h j hj rfl ho rfl
  obtain ⟨q, hq, _, hw⟩ := DataW.trod_int hi hy
  exact ⟨q, get_sub (i := 0) (get_one hq), hw⟩
theorem f_bool {P : Program} {t : TypeId} {fs : Array Field} {fuel : Nat} {cs : List Value} {x : DataW H × List MemPlace} (he : P.underlying t = some (.struct fs)) (h : DataW.trod enc P w base spare held fuel t cs = some x)
    (j : Nat) {f : Field} (hj : fs[j]? = some f) {o : Nat} (ho : f.offset = o) (hi : P.underlying f.type = some .bool) : ∃ q, cs[o]? = some (.bool q) := by
  obtain ⟨n, y, hy⟩ := trod_field he h j hj rfl ho rfl
  obtain ⟨q, hq, _⟩ := DataW.trod_bool hi hy
  exact ⟨q, get_sub (i := 0) (get_one hq)⟩
theorem f_str {P : Program} {t : TypeId} {fs : Array Field} {fuel : Nat} {cs : List Value} {x : DataW H × List MemPlace} (he : P.underlying t = some (.struct fs)) (h : DataW.trod enc P w base spare held fuel t cs = some x)
    (j : Nat) {f : Field} (hj : fs[j]? = some f) {o : Nat} (ho : f.offset = o) (hi : P.underlying f.type = some .string) : ∃ q, cs[o]? = some (.string q) ∧ q.size ≤ maxLen := by
  obtain ⟨n, y, hy⟩ := trod_field he h j hj rfl ho rfl
  obtain ⟨q, hq, _, hw⟩ := DataW.trod_string hi hy
  exact ⟨q, get_sub (i := 0) (get_one hq), hw⟩
/-- These cells stand in the list, from o on. -/
def Has (l : List Value) (o : Nat) (vs : List Value) : Prop := ∀ i v, vs[i]? = some v → l[o + i]? = some v
theorem Has.up {l : List Value} {o c o2 : Nat} {vs : List Value} (h : Has ((l.drop o).take c) o2 vs) : Has l (o + o2) vs := fun i v hv => by
  have := get_sub (h i v hv)
  rwa [← Nat.add_assoc] at this
theorem Has.eq {l vs : List Value} (h : Has l 0 vs) (hl : l.length = vs.length) : l = vs := by
  apply List.ext_getElem?
  intro i
  rcases Nat.lt_or_ge i vs.length with hi | hi
  · have := h i vs[i] (List.getElem?_eq_getElem hi)
    rw [Nat.zero_add] at this
    rw [this, List.getElem?_eq_getElem hi]
  · rw [List.getElem?_eq_none (by omega), List.getElem?_eq_none (by omega)]
theorem has_nil {l : List Value} {o : Nat} : Has l o [] := fun i v h => by cases h
theorem has_cons {l : List Value} {o : Nat} {v : Value} {vs : List Value} (h1 : l[o]? = some v) (h2 : Has l (o + 1) vs) : Has l o (v :: vs) := fun i u hi => by
  cases i with
  | zero => simp at hi; rw [← hi]; exact h1
  | succ i => have := h2 i u (by simpa using hi); rwa [Nat.add_assoc, Nat.add_comm 1 i] at this
theorem has_app {l : List Value} {o n : Nat} {vs us : List Value} (h1 : Has l o vs) (hn : vs.length = n) (h2 : Has l (o + n) us) : Has l o (vs ++ us) := fun i u hi => by
  rcases Nat.lt_or_ge i vs.length with h | h
  · exact h1 i u (by rwa [List.getElem?_append_left h] at hi)
  · rw [List.getElem?_append_right h] at hi
    have := h2 (i - vs.length) u hi
    rwa [show o + n + (i - vs.length) = o + i by omega] at this

theorem key_of {fuel : Nat} {cs : List Value} {x : DataW H × List MemPlace} (h : DataW.trod enc Try.prog w base spare held fuel 43 cs = some x) : ∃ k : KeyD, Has cs 0 k.cells := by
  obtain ⟨a, ha, _⟩ := f_int Try.underlying43 h 0 rfl rfl (k := .i64) (by kernel_rfl)
  obtain ⟨b, hb, _⟩ := f_str Try.underlying43 h 1 rfl rfl (by kernel_rfl)
  exact ⟨⟨a, b⟩, has_cons ha (has_cons hb has_nil)⟩
theorem node_of {fuel : Nat} {cs : List Value} {x : DataW H × List MemPlace} (h : DataW.trod enc Try.prog w base spare held fuel 45 cs = some x) : ∃ k : NodeD, Has cs 0 k.cells := by
  obtain ⟨a, ha, _⟩ := f_int Try.underlying45 h 0 rfl rfl (k := .i64) (by kernel_rfl)
  obtain ⟨b, hb, _⟩ := f_int Try.underlying45 h 1 rfl rfl (k := .i64) (by kernel_rfl)
  obtain ⟨c, hc, _⟩ := f_int Try.underlying45 h 2 rfl rfl (k := .i64) (by kernel_rfl)
  obtain ⟨d, hd, _⟩ := f_str Try.underlying45 h 3 rfl rfl (by kernel_rfl)
  exact ⟨⟨a, b, c, d⟩, has_cons ha (has_cons hb (has_cons hc (has_cons hd has_nil)))⟩
theorem entry_of {fuel : Nat} {cs : List Value} {x : DataW H × List MemPlace} (h : DataW.trod enc Try.prog w base spare held fuel 47 cs = some x) : ∃ k : EntryD, Has cs 0 k.cells := by
  obtain ⟨_, _, h1⟩ := trod_field Try.underlying47 h 0 rfl (ty := 43) (o := 0) (c := 2) rfl rfl (by kernel_rfl)
  obtain ⟨k, hk⟩ := key_of h1
  obtain ⟨b, hb⟩ := f_bool Try.underlying47 h 1 rfl (o := 2) rfl (by kernel_rfl)
  obtain ⟨_, _, h2⟩ := trod_field Try.underlying47 h 2 rfl (ty := 45) (o := 3) (c := 4) rfl rfl (by kernel_rfl)
  obtain ⟨n, hn⟩ := node_of h2
  exact ⟨⟨k, b, n⟩, has_app (n := 2) hk.up rfl (has_cons hb hn.up)⟩
theorem seen_of {fuel : Nat} {cs : List Value} {x : DataW H × List MemPlace} (h : DataW.trod enc Try.prog w base spare held fuel 49 cs = some x) : ∃ k : SeenD, Has cs 0 [.int .i64 k.life, .int .i64 k.seq, .int .i64 k.err] := by
  obtain ⟨a, ha, _⟩ := f_int Try.underlying49 h 0 rfl rfl (k := .i64) (by kernel_rfl)
  obtain ⟨b, hb, _⟩ := f_int Try.underlying49 h 1 rfl rfl (k := .i64) (by kernel_rfl)
  obtain ⟨c, hc, _⟩ := f_int Try.underlying49 h 2 rfl rfl (k := .i64) (by kernel_rfl)
  exact ⟨⟨a, b, c⟩, has_cons ha (has_cons hb (has_cons hc has_nil))⟩
theorem op_of {fuel : Nat} {cs : List Value} {x : DataW H × List MemPlace} (h : DataW.trod enc Try.prog w base spare held fuel 23 cs = some x) : ∃ k : OpD, Has cs 0 k.cells := by
  obtain ⟨a, ha, _⟩ := f_int Try.underlying23 h 0 rfl rfl (k := .i64) (by kernel_rfl)
  obtain ⟨b, hb, _⟩ := f_int Try.underlying23 h 1 rfl rfl (k := .i64) (by kernel_rfl)
  obtain ⟨c, hc, _⟩ := f_str Try.underlying23 h 2 rfl rfl (by kernel_rfl)
  obtain ⟨d, hd, _⟩ := f_int Try.underlying23 h 3 rfl rfl (k := .i64) (by kernel_rfl)
  obtain ⟨e, he, _⟩ := f_str Try.underlying23 h 4 rfl rfl (by kernel_rfl)
  obtain ⟨f, hf, _⟩ := f_int Try.underlying23 h 5 rfl rfl (k := .i64) (by kernel_rfl)
  obtain ⟨g, hg, _⟩ := f_str Try.underlying23 h 6 rfl rfl (by kernel_rfl)
  exact ⟨⟨a, b, c, d, e, f, g⟩, has_cons ha (has_cons hb (has_cons hc (has_cons hd (has_cons he (has_cons hf (has_cons hg has_nil))))))⟩
theorem note_of {fuel : Nat} {cs : List Value} {x : DataW H × List MemPlace} (h : DataW.trod enc Try.prog w base spare held fuel 51 cs = some x) : ∃ k : NoteD, Has cs 0 k.cells := by
  obtain ⟨a, ha, _⟩ := f_int Try.underlying51 h 0 rfl rfl (k := .i64) (by kernel_rfl)
  obtain ⟨b, hb, _⟩ := f_int Try.underlying51 h 1 rfl rfl (k := .i64) (by kernel_rfl)
  obtain ⟨c, hc, _⟩ := f_int Try.underlying51 h 2 rfl rfl (k := .i64) (by kernel_rfl)
  obtain ⟨d, hd, _⟩ := f_int Try.underlying51 h 3 rfl rfl (k := .i64) (by kernel_rfl)
  obtain ⟨e, he, _⟩ := f_int Try.underlying51 h 4 rfl rfl (k := .i64) (by kernel_rfl)
  obtain ⟨_, _, h1⟩ := trod_field Try.underlying51 h 5 rfl (ty := 47) (o := 5) (c := 7) rfl rfl (by kernel_rfl)
  obtain ⟨_, _, h2⟩ := trod_field Try.underlying51 h 6 rfl (ty := 49) (o := 12) (c := 3) rfl rfl (by kernel_rfl)
  obtain ⟨_, _, h3⟩ := trod_field Try.underlying51 h 7 rfl (ty := 23) (o := 15) (c := 7) rfl rfl (by kernel_rfl)
  obtain ⟨f, hf⟩ := entry_of h1
  obtain ⟨g, hg⟩ := seen_of h2
  obtain ⟨i, hi⟩ := op_of h3
  exact ⟨⟨a, b, c, d, e, f, g, i⟩, has_cons ha (has_cons hb (has_cons hc (has_cons hd (has_cons he (has_app (n := 7) hf.up rfl (has_app (n := 3) hg.up rfl hi.up))))))⟩
end

theorem note_len (n : NoteD) : n.cells.length = 22 := rfl
theorem cells_note : Try.prog.cellsOf 51 = 22 := by unfold Program.cellsOf; kernel_rfl
set_option maxRecDepth 100000 in
theorem arg_note {H : Type} {enc : TypeId × Value → H} {W : World} {base b0 : Nat} {r : Reach} {spare : Nat → Bool} {held : Bool} {v : Value} {d : DataW H} {ps : List MemPlace}
    (hv : Value.okWide Try.prog W r b0 51 v) (h : DataW.Trod enc Try.prog W base spare held 51 v d ps) : ∃ n : NoteD, v = .agg n.cells.toArray := by
  obtain ⟨cs, rfl, hsz⟩ := okWide_struct Try.underlying51 hv
  rw [cells_note] at hsz
  obtain ⟨fuel, hf⟩ := h
  obtain ⟨n, hn⟩ := note_of hf
  refine ⟨n, ?_⟩
  have e : Value.cells (.agg cs) = cs := by simp [Value.cells]
  rw [e] at hn
  have : cs.toList = n.cells := hn.eq (by rw [Array.length_toList, hsz, note_len])
  rw [← this]

end Go.Proofs.Ytmhcjkiaogimgaa

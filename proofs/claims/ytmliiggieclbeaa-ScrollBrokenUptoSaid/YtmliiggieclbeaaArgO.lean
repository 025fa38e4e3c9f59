/- An argument that is a struct of five ints, by value. -/
import Derived.Test.YtmliiggieclbeaaRows
import Derived.Test.YtmliiggieclbeaaArg
import Derived.Deep.Slices
import Derived.Deep.Fields
import Derived.ChangeSame
namespace Go.Proofs.Ytmliiggieclbeaa
open Go.ChangeShapes Go.WideShapes Go.ChangeAt Go.RowKit Go.Deep

section
variable {H : Type} {enc : TypeId × Value → H} {w : World} {base : Nat} {spare : Nat → Bool} {held : Bool}
/-- One field of a struct that is walked over. -/
theorem trod_field {P : Program} {t : TypeId} {fs : Array Field} {fuel : Nat} {cs : List Value} {x : DataW H × List MemPlace} (he : P.underlying t = some (.struct fs)) (h : DataW.trod enc P w base spare held fuel t cs = some x)
    (j : Nat) {f : Field} (hj : fs[j]? = some f) {ty : TypeId} {o c : Nat} (hty : f.type = ty) (ho : f.offset = o) (hc : P.cellsOf ty = c) : ∃ n y, DataW.trod enc P w base spare held n ty ((cs.drop o).take c) = some y := by
  obtain ⟨ys, n', hn', hy, hlen, hyl, hf⟩ := DataW.trod_struct he h
  have h1 := hf j f hj
  have hjl : j < ys.length := by
    have := (Array.getElem?_eq_some_iff.1 hj).1
    omega
  subst hty; subst ho; subst hc
  exact ⟨n', ys[j], h1.trans (List.getElem?_eq_getElem hjl)⟩
theorem get_sub {l : List Value} {o c i : Nat} {v : Value} (h : ((l.drop o).take c)[i]? = some v) : l[o + i]? = some v := by
  rw [List.getElem?_take] at h
  split at h
  · rwa [List.getElem?_drop] at h
  · cases h
theorem get_one {l : List Value} {v : Value} (h : l = [v]) : l[0]? = some v := by rw [h]; rfl
theorem f_int {P : Program} {k : IntKind} {t : TypeId} {fs : Array Field} {fuel : Nat} {cs : List Value} {x : DataW H × List MemPlace} (he : P.underlying t = some (.struct fs)) (h : DataW.trod enc P w base spare held fuel t cs = some x)
    (j : Nat) {f : Field} (hj : fs[j]? = some f) {o : Nat} (ho : f.offset = o) (hi : P.underlying f.type = some (.int k)) : ∃ q, cs[o]? = some (.int k q) ∧ (Lit.int k q).wf = true := by
  obtain ⟨n, y, hy⟩ := trod_field he h j hj rfl ho rfl
  obtain ⟨q, hq, _, hw⟩ := DataW.trod_int hi hy
  exact ⟨q, get_sub (i := 0) (get_one hq), hw⟩
theorem arg_op5 {r : Reach} {b0 : Nat} {v : Value} {d : DataW H} {ps : List MemPlace} (hv : Value.okWide Try.prog w r b0 34 v) (h : DataW.Trod enc Try.prog w base spare held 34 v d ps) :
    ∃ a b c e f : Int, v = .agg #[.int .i64 a, .int .i64 b, .int .i64 c, .int .i64 e, .int .i64 f] := by
  obtain ⟨cs, rfl, hsz⟩ := okWide_struct Try.underlying34 hv
  have h5 : cs.size = 5 := hsz.trans (by kernel_rfl)
  obtain ⟨fuel, hf⟩ := h
  have hf' : DataW.trod enc Try.prog w base spare held fuel 34 cs.toList = some (d, ps) := by simpa [Value.cells] using hf
  obtain ⟨a, ha, _⟩ := f_int Try.underlying34 hf' 0 rfl rfl (k := .i64) (by kernel_rfl)
  obtain ⟨b, hb, _⟩ := f_int Try.underlying34 hf' 1 rfl rfl (k := .i64) (by kernel_rfl)
  obtain ⟨c, hc, _⟩ := f_int Try.underlying34 hf' 2 rfl rfl (k := .i64) (by kernel_rfl)
  obtain ⟨e, he, _⟩ := f_int Try.underlying34 hf' 3 rfl rfl (k := .i64) (by kernel_rfl)
  obtain ⟨f, hff, _⟩ := f_int Try.underlying34 hf' 4 rfl rfl (k := .i64) (by kernel_rfl)
  refine ⟨a, b, c, e, f, ?_⟩
  congr 1
  apply Array.ext_getElem?
  intro i
  rw [← Array.getElem?_toList]
  rcases (show i = 0 ∨ i = 1 ∨ i = 2 ∨ i = 3 ∨ i = 4 ∨ 5 ≤ i by omega) with rfl | rfl | rfl | rfl | rfl | h
  · exact ha
  · exact hb
  · exact hc
  · exact he
  · exact hff
  · rw [Array.getElem?_toList, Array.getElem?_eq_none (by omega), Array.getElem?_eq_none (by simpa using h)]
end

end Go.Proofs.Ytmliiggieclbeaa

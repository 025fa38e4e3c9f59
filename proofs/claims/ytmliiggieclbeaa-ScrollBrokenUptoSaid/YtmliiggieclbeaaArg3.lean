/- An argument that is a slice of structs of some ints, opened. -/
import Derived.Test.YtmliiggieclbeaaArg
import Derived.Deep.Slices
import Derived.Deep.Fields
import Derived.ChangeSame
namespace Go.Proofs.Ytmliiggieclbeaa
open Go.ChangeShapes Go.WideShapes Go.ChangeAt Go.RowKit Go.Deep

section
variable {H : Type} {enc : TypeId × Value → H} {P : Program} {w : World} {base : Nat} {spare : Nat → Bool} {held : Bool}
theorem open_slice_fields {t e : TypeId} {fs : Array Field} {fuel : Nat} {cs : List Value} {x : DataW H × List MemPlace} (ht : P.underlying t = some (.slice e)) (he : P.underlying e = some (.struct fs))
    (hone : oneCellFields P fs = true) (hC : P.cellsOf e = fs.size) (h : DataW.trod enc P w base spare held fuel t cs = some x) :
    (cs = [.slice none 0 0] ∧ x = (.nil, [])) ∨
    ∃ (a : Addr) (len cap m : Nat) (D : Nat → DataW H) (Pl : Nat → List MemPlace), cs = [.slice (some a) len cap] ∧ base ≤ a.block ∧ len ≤ cap ∧ cap ≤ maxLen ∧ m = (if spare a.block then cap else len) ∧
      x = (.slice ((List.range len).map D) ((List.range (m - len)).map fun j => D (len + j)), MemPlace.row a (m * fs.size) ++ (List.range m).flatMap Pl) ∧
      ∀ i, i < m → ∃ (ys : List (DataW H × List MemPlace)) (n : Nat), D i = .agg (ys.map (·.1)) ∧ Pl i = ys.flatMap (·.2) ∧ ys.length = fs.size ∧
        ∀ (j : Nat) (f : Field), fs[j]? = some f → ∃ (v : Value) (y : DataW H × List MemPlace), w.cell? (a.add (i * fs.size + j)) = some v ∧ ys[j]? = some y ∧ DataW.trod enc P w base spare held n f.type [v] = some y := by
  rcases open_slice ht h with h0 | ⟨a, len, cap, m, n, D, Pl, hcs, hb, hl, hm, hmm, hx, hi⟩
  · exact .inl h0
  · refine .inr ⟨a, len, cap, m, D, Pl, hcs, hb, hl, hm, hmm, by rw [hC] at hx; exact hx, fun i him => ?_⟩
    obtain ⟨cs', hc, ht'⟩ := hi i him
    rw [hC] at hc
    obtain ⟨ys, n', hn', hy, hlen, hyl, hf⟩ := DataW.trod_struct he ht'
    obtain ⟨_, hcl, hat⟩ := World.cells?_some hc
    simp only [Prod.mk.injEq] at hy
    refine ⟨ys, n', hy.1, hy.2, hyl, fun j f hj => ?_⟩
    obtain ⟨ho, hk⟩ := hone_of hone j f hj
    have hjl : j < fs.size := (Array.getElem?_eq_some_iff.1 hj).1
    have hcell := hat j hjl
    have hv : cs'[j]? = some (cs'[j]'(by omega)) := List.getElem?_eq_getElem (by omega)
    have h1 := hf j f hj
    rw [ho, hk] at h1
    have hone' : (cs'.drop j).take 1 = [cs'[j]'(by omega)] := by
      rw [List.drop_eq_getElem_cons (by omega)]
      rfl
    rw [hone'] at h1
    have hys : ys[j]? = some (ys[j]'(by omega)) := List.getElem?_eq_getElem (by omega)
    refine ⟨_, _, ?_, hys, h1.trans hys⟩
    rw [← Go.Deep.add_add, hcell, hv]
end

/-- A slice of structs of k ints, the part up to its length. -/
structure ArgRows (k : Nat) (w : World) (a : Option Addr) (len : Nat) (f : Nat → Nat → Int) : Prop where
  at_ : ∀ i, i < len → ∃ b o, a = some ⟨b, o, none⟩ ∧ b < w.heap.size ∧ ∀ j, j < k → w.cell? ⟨b, o + (i * k + j), none⟩ = some (.int .i64 (f i j))
  wf : ∀ i j, i < len → j < k → (Lit.int .i64 (f i j)).wf = true
theorem ArgRows.below {k : Nat} {w w' : World} {a : Option Addr} {len : Nat} {f : Nat → Nat → Int} (h : ArgRows k w a len f) (hb : Below w.heap.size w w') : ArgRows k w' a len f :=
  ⟨fun i hi => by
    obtain ⟨b, o, h1, h2, h3⟩ := h.at_ i hi
    exact ⟨b, o, h1, Nat.lt_of_lt_of_le h2 hb.size, fun j hj => (hb.cell h2).trans (h3 j hj)⟩, h.wf⟩

theorem arg_rows {H : Type} {enc : TypeId × Value → H} {P : Program} {W : World} {base : Nat} {spare : Nat → Bool} {held : Bool} {t e : TypeId} {fs : Array Field} {a : Option Addr} {len cap : Nat} {d : DataW H} {ps : List MemPlace} {ts : List TypeId} {ds : List (DataW H)} {j : Nat} {k B : Nat}
    (hsz : (DataW.weightsEach P ts ds).all (· ≤ reachBytes) = true) (ht : ts[j]? = some t) (hd : ds[j]? = some d) (hu : P.underlying t = some (.slice e)) (he : P.underlying e = some (.struct fs))
    (hone : oneCellFields P fs = true) (hC : P.cellsOf e = fs.size) (hfs : fs.toList.map (fun f => P.underlying f.type) = List.replicate k (some (.int .i64))) (hB : P.bytesOf e = B) (hk0 : 0 < k)
    (h : DataW.Trod enc P W base spare held t (.slice a len cap) d ps) : ∃ f, ArgRows k W a len f ∧ len * B ≤ 140737488351232 := by
  have hk : fs.size = k := by
    have := congrArg List.length hfs
    simpa using this
  obtain ⟨fuel, hf⟩ := h
  rcases open_slice_fields hu he hone hC hf with ⟨hcs, _⟩ | ⟨x, l, c, m, D, Pl, hcs, _, hl, hm, hmm, hx, hcell⟩
  · simp [Value.cells] at hcs
    obtain ⟨rfl, rfl, rfl⟩ := hcs
    exact ⟨fun _ _ => 0, ⟨fun i hi => by omega, fun i j hi => by omega⟩, by simp⟩
  · simp [Value.cells] at hcs
    obtain ⟨rfl, rfl, rfl⟩ := hcs
    obtain ⟨hx, _⟩ := Prod.mk.inj hx
    subst hx
    have z := sized_slice hsz ht hd hu
    rw [hB] at z
    have hlm : len ≤ m := by rw [hmm]; split <;> omega
    simp only [List.length_map, List.length_range] at z
    have each : ∀ i, i < len → ∀ j, j < k → ∃ q : Int, W.cell? (x.add (i * k + j)) = some (.int .i64 q) ∧ (Lit.int .i64 q).wf = true := by
      intro i hi j hj
      obtain ⟨ys, n, _, _, _, hh⟩ := hcell i (by omega)
      have hj' : j < fs.size := by omega
      obtain ⟨v, y, hc, _, ht⟩ := hh j fs[j] (by rw [Array.getElem?_eq_getElem hj'])
      have hty : P.underlying fs[j].type = some (.int .i64) := by
        have := congrArg (fun l => l[j]?) hfs
        simp [hj', hj] at this
        exact this
      obtain ⟨q, hq, _, wq⟩ := DataW.trod_int hty ht
      simp at hq
      rw [hk] at hc
      exact ⟨q, by rw [hc, hq], wq⟩
    refine ⟨fun i j => match W.cell? (x.add (i * k + j)) with | some v => intOf v | none => 0, ⟨fun i hi => ?_, fun i j hi hj => ?_⟩, Nat.le_trans (Nat.mul_le_mul_right _ (by omega)) z⟩
    · obtain ⟨q, hq, _⟩ := each i hi 0 hk0
      have hb := World.block_lt_of_cell? W _ hq
      rw [add_at] at hb
      obtain ⟨q0, hq0, _⟩ := each 0 (by omega) 0 hk0
      have hs := World.cell?_spot hq0
      obtain ⟨b, o, s⟩ := x
      have hs' : s = none := by
        unfold Addr.add at hs
        simpa using hs
      subst hs'
      refine ⟨b, o, rfl, hb, fun j hj => ?_⟩
      obtain ⟨q', hq', _⟩ := each i hi j hj
      simp only [Addr.add_mid] at hq' ⊢
      rw [hq']; rfl
    · obtain ⟨q, hq, wq⟩ := each i hi j hj
      simp only [hq]
      exact wq

end Go.Proofs.Ytmliiggieclbeaa

/- An argument that is a slice of structs of two ints, opened. -/
import Derived.Test.YtadplihjakiniaaArg
import Derived.Test.YtadplihjakiniaaMrkE
import Derived.Deep.SlicePairs
namespace Go.Proofs.Ytadplihjakiniaa
open Go.ChangeShapes Go.WideShapes Go.ChangeAt Go.RowKit

theorem arg_pairs {H : Type} {enc : TypeId × Value → H} {P : Program} {W : World} {base : Nat} {spare : Nat → Bool} {held : Bool} {t e : TypeId} {f0 f1 : Field} {a : Option Addr} {len cap : Nat} {d : DataW H} {ps : List MemPlace} {ts : List TypeId} {ds : List (DataW H)} {j : Nat}
    (hsz : (DataW.weightsEach P ts ds).all (· ≤ reachBytes) = true) (ht : ts[j]? = some t) (hd : ds[j]? = some d) (hu : P.underlying t = some (.slice e)) (he : P.underlying e = some (.struct #[f0, f1])) (ce : P.cellsOf e = 2)
    (o0 : f0.offset = 0) (o1 : f1.offset = 1) (c0 : P.cellsOf f0.type = 1) (c1 : P.cellsOf f1.type = 1) (k0 : P.underlying f0.type = some (.int .i64)) (k1 : P.underlying f1.type = some (.int .i64)) (hB : P.bytesOf e = 16)
    (h : DataW.Trod enc P W base spare held t (.slice a len cap) d ps) : ∃ l, ArgPairs W a len l ∧ len * 16 ≤ 140737488351232 := by
  obtain ⟨fuel, hf⟩ := h
  rcases Deep.open_slice_pairs hu he ce o0 o1 c0 c1 hf with ⟨hcs, _⟩ | ⟨x, l, c, m, n, V0, V1, D0, D1, P0, P1, hcs, _, hl, hm, hmm, hx, hcell⟩
  · simp [Value.cells] at hcs
    obtain ⟨rfl, rfl, rfl⟩ := hcs
    exact ⟨[], ⟨rfl, fun j hj => by omega, fun j hj => by omega⟩, by simp⟩
  · simp [Value.cells] at hcs
    obtain ⟨rfl, rfl, rfl⟩ := hcs
    obtain ⟨hx, _⟩ := Prod.mk.inj hx
    subst hx
    have z := sized_slice hsz ht hd hu
    rw [hB] at z
    have hlm : len ≤ m := by rw [hmm]; split <;> omega
    simp only [List.length_map, List.length_range] at z
    have each : ∀ i, i < len → ∃ p q : Int, V0 i = .int .i64 p ∧ V1 i = .int .i64 q ∧ Fits p q := by
      intro i hi
      obtain ⟨_, _, g0, g1⟩ := hcell i (by omega)
      obtain ⟨p, hp, _, wp⟩ := DataW.trod_int k0 g0
      obtain ⟨q, hq, _, wq⟩ := DataW.trod_int k1 g1
      simp at hp hq
      exact ⟨p, q, hp, hq, wp, wq⟩
    have hget : ∀ i, i < len → ((List.range len).map fun i => (intOf (V0 i), intOf (V1 i))).getD i (0, 0) = (intOf (V0 i), intOf (V1 i)) := fun i hi => by
      simp [List.getD_eq_getElem?_getD, hi]
    refine ⟨(List.range len).map fun i => (intOf (V0 i), intOf (V1 i)), ⟨by simp, fun i hi => ?_, fun i hi => ?_⟩, Nat.le_trans (Nat.mul_le_mul_right _ (by omega)) z⟩
    · rw [hget i hi]
      obtain ⟨e0, e1, _, _⟩ := hcell i (by omega)
      obtain ⟨p, q, hp, hq, _⟩ := each i hi
      rw [hp] at e0
      rw [hq] at e1
      have e00 := (hcell 0 (by omega)).1
      have hs := World.cell?_spot e00
      obtain ⟨b, o, s⟩ := x
      have hs' : s = none := by
        unfold Addr.add at hs
        simpa using hs
      subst hs'
      rw [Addr.add_mid] at e0 e1
      have hb := World.block_lt_of_cell? W _ e0
      exact ⟨b, o, rfl, hb, by rw [e0, hp]; rfl, by rw [Nat.add_assoc, e1, hq]; rfl⟩
    · rw [hget i hi]
      obtain ⟨p, q, hp, hq, hw⟩ := each i hi
      rw [hp, hq]
      exact hw

end Go.Proofs.Ytadplihjakiniaa

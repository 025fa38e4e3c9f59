/- How arguments are opened: whole numbers, slices of them. -/
import Derived.Test.YtmliiggieclbeaaMem
import Derived.ProofKit
import Derived.OpenShut
import Derived.ShutString
import Derived.ChangeOld
import Derived.SizedLaws
import Derived.Lib.SmallJoins
namespace Go.Proofs.Ytmliiggieclbeaa
open Go.ChangeShapes Go.WideShapes Go.ChangeAt Go.RowKit

theorem arg_ints {H : Type} {enc : TypeId × Value → H} {P : Program} {W : World} {base : Nat} {spare : Nat → Bool} {held : Bool} {t e : TypeId} {k : IntKind} {a : Option Addr} {len cap : Nat} {d : DataW H} {ps : List MemPlace} {ts : List TypeId} {ds : List (DataW H)} {j : Nat}
    (hsz : (DataW.weightsEach P ts ds).all (· ≤ reachBytes) = true) (ht : ts[j]? = some t) (hd : ds[j]? = some d) (hu : P.underlying t = some (.slice e)) (he : P.underlying e = some (.int k)) (hc : P.cellsOf e = 1) {B : Nat} (hB : P.bytesOf e = B)
    (h : DataW.Trod enc P W base spare held t (.slice a len cap) d ps) : ∃ zs, ArgInts k W a len zs ∧ len * B ≤ 140737488351232 := by
  obtain ⟨fuel, hf⟩ := h
  rcases open_ints hu he hc hf with ⟨hcs, _⟩ | ⟨x, l, c, zs, hcs, _, hl, hm, hz, hx, hcell, hwz⟩
  · simp [Value.cells] at hcs
    obtain ⟨rfl, rfl, rfl⟩ := hcs
    exact ⟨[], ⟨rfl, Rd.nil _ _ _, fun x hx => by cases hx⟩, by simp⟩
  · simp [Value.cells] at hcs
    obtain ⟨rfl, rfl, rfl⟩ := hcs
    obtain ⟨hx, _⟩ := Prod.mk.inj hx
    subst hx
    have z := sized_slice hsz ht hd hu
    rw [hB] at z
    have hl2 : len ≤ zs.length := by
      rw [hz]
      split
      · exact hl
      · exact Nat.le_refl _
    have h1 : (lits (H := H) k (zs.take len)).length + (lits (H := H) k (zs.drop len)).length = zs.length := by
      simp [lits]
      omega
    rw [h1] at z
    refine ⟨zs.take len, ⟨by rw [List.length_take]; omega, ⟨fun j hj => ?_⟩, fun x hx => hwz x (List.mem_of_mem_take hx)⟩, Nat.le_trans (Nat.mul_le_mul_right _ hl2) z⟩
    rw [List.length_take] at hj
    have hcj := hcell j (by omega)
    refine ⟨_, rfl, ?_, ?_⟩
    · have := World.block_lt_of_cell? W _ hcj
      rwa [add_at] at this
    · rw [hcj]
      simp [List.getD_eq_getElem?_getD, show j < len by omega]

/-- A struct of two ints, by value. -/
theorem arg_pair {H : Type} {enc : TypeId × Value → H} {P : Program} {W : World} {base b0 : Nat} {r : Reach} {spare : Nat → Bool} {held : Bool} {t : TypeId} {f0 f1 : Field} {v : Value} {d : DataW H} {ps : List MemPlace}
    (hs : P.underlying t = some (.struct #[f0, f1])) (hone : Deep.oneCellFields P #[f0, f1] = true) (hC : P.cellsOf t = 2) (h0 : P.underlying f0.type = some (.int .i64)) (h1 : P.underlying f1.type = some (.int .i64))
    (hv : Value.okWide P W r b0 t v) (h : DataW.Trod enc P W base spare held t v d ps) : ∃ a b : Int, v = .agg #[.int .i64 a, .int .i64 b] ∧ (Lit.int .i64 a).wf = true ∧ (Lit.int .i64 b).wf = true := by
  obtain ⟨c0, c1, y0, y1, m, rfl, _, _, e0, e1⟩ := Joins.open_agg2 hs hone hC hv h
  obtain ⟨a, ha, _, wa⟩ := DataW.trod_int h0 e0
  obtain ⟨b, hb, _, wb⟩ := DataW.trod_int h1 e1
  simp at ha hb
  subst ha; subst hb
  exact ⟨a, b, rfl, wa, wb⟩

end Go.Proofs.Ytmliiggieclbeaa

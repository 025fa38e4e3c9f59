/- The opener of a slice of bytes, with its room. -/
import Derived.Test.YtmhcjkiaogimgaaArg
import Derived.Test.YtmhcjkiaogimgaaLwA
import Derived.Test.YtmhcjkiaogimgaaDrA
namespace Go.Proofs.Ytmhcjkiaogimgaa
open Go.ChangeShapes Go.WideShapes Go.ChangeAt Go.RowKit

theorem arg_bytes {H : Type} {enc : TypeId × Value → H} {P : Program} {W : World} {base : Nat} {spare : Nat → Bool} {held : Bool} {t e : TypeId} {a : Option Addr} {len cap : Nat} {d : DataW H} {ps : List MemPlace} {ts : List TypeId} {ds : List (DataW H)} {j : Nat}
    (hsz : (DataW.weightsEach P ts ds).all (· ≤ reachBytes) = true) (ht : ts[j]? = some t) (hd : ds[j]? = some d) (hu : P.underlying t = some (.slice e)) (he : P.underlying e = some (.int .u8)) (hc : P.cellsOf e = 1) (hB : P.bytesOf e = 1)
    (h : DataW.Trod enc P W base spare held t (.slice a len cap) d ps) : ∃ zs, ArgInts .u8 W a len zs ∧ DS W a cap zs ∧ len ≤ 140737488351232 := by
  obtain ⟨zs, w, y⟩ := arg_ints hsz ht hd hu he hc hB h
  refine ⟨zs, w, ⟨w.rd, isB_wf w.wf, by rw [w.length]; omega, ?_, ?_⟩, by omega⟩
  · rw [w.length]
    obtain ⟨fuel, hf⟩ := h
    rcases open_ints hu he hc hf with ⟨hcs, _⟩ | ⟨x, l, c, zs, hcs, _, hl, hm, hz, hx, hcell, hwz⟩
    · simp [Value.cells] at hcs
      omega
    · simp [Value.cells] at hcs
      obtain ⟨rfl, rfl, rfl⟩ := hcs
      exact hl
  · obtain ⟨fuel, hf⟩ := h
    rcases open_ints hu he hc hf with ⟨hcs, _⟩ | ⟨x, l, c, zs, hcs, _, hl, hm, hz, hx, hcell, hwz⟩
    · simp [Value.cells] at hcs
      omega
    · simp [Value.cells] at hcs
      obtain ⟨rfl, rfl, rfl⟩ := hcs
      exact hm

end Go.Proofs.Ytmhcjkiaogimgaa

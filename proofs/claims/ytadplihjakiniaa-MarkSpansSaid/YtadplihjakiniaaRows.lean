/-
  No cell of these rows narrows 'for every input' (looked for: loops, veiled, ifaces, maps, wideKeys, modest, calm, conditions, laid).
  DERIVED. THE GIVEN ROWS OF THIS SEAT. 11 by the template 'for every input the law returns true; each argument reads behind the call as it read before'; 0 by the template 'total and deterministic' (their statements: YtadplihjakiniaaTotals.lean).
  GIVEN WITH THE SEED: the statements are not yours to turn. If you find one false, say at which input.
  Laid BY PROGRAM, IN A SANDBOX (cutbox-rows.mjs): the forced cells as the released guide's own fill.sh prints them over the translation a814095ff5a5fdd5… (all of the seat's roots in one cut). By AI agents, Wed Nov 11 2026. No macro, syntax, notation, axiom, sorry.
-/
import Derived.Test.YtadplihjakiniaaChecked
import GoSem.Claim
import GoSem.ClaimJoined
import GoSem.ClaimMapViews
import Derived.JoinedTies
import Derived.KernelRfl
namespace Go.Proofs.Ytadplihjakiniaa
/- THE CELL 'sum', in the pinned program and in every row, IS THE sha256 OF THE DUMP (.gsa) THAT YtadplihjakiniaaProg.lean LOADS. Nothing in Lean hashes anything: it is a label: what it is worth is what the hold of that sum in a sandbox is worth. -/
noncomputable def Try.pinned : Pinned := { name := "ytadplihjakiniaa", sum := "a814095ff5a5fdd585976bd173dd4960b6f3295f150a121a1ac0fa5cd69c57f3", checked := Try.checked }
namespace Rows
def none {H : Type} : Left H := { results := [], args := [] }

/-- 'vistalaw01.MarkAts': WHATEVER THE INPUT: true; the input reads as it did. -/
def markAtsSpec : ChangeSpec := { name := "markAts", fn := fun _ => fun
  | [d1, d2] => { results := [.lit (.bool true)], args := [d1, d2] }
  | _ => none }
def markAtsRow : OpenClaim := { program := "ytadplihjakiniaa", sum := "a814095ff5a5fdd585976bd173dd4960b6f3295f150a121a1ac0fa5cd69c57f3", func := "vista/vistalaw01.MarkAts", spec := "markAts", inPlace := ["math.archTrunc", "math.Float64bits", "math.Float64frombits"], apart := false }
def MarkAtsSaid : Prop := markAtsRow.holds Try.pinned (OpenSpec.ofChange markAtsSpec)

/-- ITS FALSE NEIGHBOUR: 'it returns false'. Refute it at one input. -/
def markAtsWrong : ChangeSpec := { name := "markAts", fn := fun _ => fun
  | [d1, d2] => { results := [.lit (.bool false)], args := [d1, d2] }
  | _ => none }
def MarkAtsWrongFalsely : Prop := markAtsRow.holds Try.pinned (OpenSpec.ofChange markAtsWrong)

/-- 'vistalaw01.MarkParts': WHATEVER THE INPUT: true; the input reads as it did. -/
def markPartsSpec : ChangeSpec := { name := "markParts", fn := fun _ => fun
  | [d] => { results := [.lit (.bool true)], args := [d] }
  | _ => none }
def markPartsRow : OpenClaim := { program := "ytadplihjakiniaa", sum := "a814095ff5a5fdd585976bd173dd4960b6f3295f150a121a1ac0fa5cd69c57f3", func := "vista/vistalaw01.MarkParts", spec := "markParts", inPlace := ["math.archTrunc", "math.Float64bits", "math.Float64frombits"], apart := false }
def MarkPartsSaid : Prop := markPartsRow.holds Try.pinned (OpenSpec.ofChange markPartsSpec)

/-- ITS FALSE NEIGHBOUR: 'it returns false'. Refute it at one input. -/
def markPartsWrong : ChangeSpec := { name := "markParts", fn := fun _ => fun
  | [d] => { results := [.lit (.bool false)], args := [d] }
  | _ => none }
def MarkPartsWrongFalsely : Prop := markPartsRow.holds Try.pinned (OpenSpec.ofChange markPartsWrong)

/-- 'vistalaw01.MarkNexts': WHATEVER THE INPUT: true; the input reads as it did. -/
def markNextsSpec : ChangeSpec := { name := "markNexts", fn := fun _ => fun
  | [d] => { results := [.lit (.bool true)], args := [d] }
  | _ => none }
def markNextsRow : OpenClaim := { program := "ytadplihjakiniaa", sum := "a814095ff5a5fdd585976bd173dd4960b6f3295f150a121a1ac0fa5cd69c57f3", func := "vista/vistalaw01.MarkNexts", spec := "markNexts", inPlace := ["math.archTrunc", "math.Float64bits", "math.Float64frombits"], apart := false }
def MarkNextsSaid : Prop := markNextsRow.holds Try.pinned (OpenSpec.ofChange markNextsSpec)

/-- ITS FALSE NEIGHBOUR: 'it returns false'. Refute it at one input. -/
def markNextsWrong : ChangeSpec := { name := "markNexts", fn := fun _ => fun
  | [d] => { results := [.lit (.bool false)], args := [d] }
  | _ => none }
def MarkNextsWrongFalsely : Prop := markNextsRow.holds Try.pinned (OpenSpec.ofChange markNextsWrong)

/-- 'vistalaw01.MarkAdds': WHATEVER THE INPUT: true; the input reads as it did. -/
def markAddsSpec : ChangeSpec := { name := "markAdds", fn := fun _ => fun
  | [d1, d2, d3] => { results := [.lit (.bool true)], args := [d1, d2, d3] }
  | _ => none }
def markAddsRow : OpenClaim := { program := "ytadplihjakiniaa", sum := "a814095ff5a5fdd585976bd173dd4960b6f3295f150a121a1ac0fa5cd69c57f3", func := "vista/vistalaw01.MarkAdds", spec := "markAdds", inPlace := ["math.archTrunc", "math.Float64bits", "math.Float64frombits"], apart := false }
def MarkAddsSaid : Prop := markAddsRow.holds Try.pinned (OpenSpec.ofChange markAddsSpec)

/-- ITS FALSE NEIGHBOUR: 'it returns false'. Refute it at one input. -/
def markAddsWrong : ChangeSpec := { name := "markAdds", fn := fun _ => fun
  | [d1, d2, d3] => { results := [.lit (.bool false)], args := [d1, d2, d3] }
  | _ => none }
def MarkAddsWrongFalsely : Prop := markAddsRow.holds Try.pinned (OpenSpec.ofChange markAddsWrong)

/-- 'vistalaw01.MarkOdd': WHATEVER THE INPUT: true; the input reads as it did. -/
def markOddSpec : ChangeSpec := { name := "markOdd", fn := fun _ => fun
  | [d] => { results := [.lit (.bool true)], args := [d] }
  | _ => none }
def markOddRow : OpenClaim := { program := "ytadplihjakiniaa", sum := "a814095ff5a5fdd585976bd173dd4960b6f3295f150a121a1ac0fa5cd69c57f3", func := "vista/vistalaw01.MarkOdd", spec := "markOdd", inPlace := ["math.archTrunc", "math.Float64bits", "math.Float64frombits"], apart := false }
def MarkOddSaid : Prop := markOddRow.holds Try.pinned (OpenSpec.ofChange markOddSpec)

/-- ITS FALSE NEIGHBOUR: 'it returns false'. Refute it at one input. -/
def markOddWrong : ChangeSpec := { name := "markOdd", fn := fun _ => fun
  | [d] => { results := [.lit (.bool false)], args := [d] }
  | _ => none }
def MarkOddWrongFalsely : Prop := markOddRow.holds Try.pinned (OpenSpec.ofChange markOddWrong)

/-- 'vistalaw01.MarkGaps': WHATEVER THE INPUT: true; the input reads as it did. -/
def markGapsSpec : ChangeSpec := { name := "markGaps", fn := fun _ => fun
  | [d1, d2] => { results := [.lit (.bool true)], args := [d1, d2] }
  | _ => none }
def markGapsRow : OpenClaim := { program := "ytadplihjakiniaa", sum := "a814095ff5a5fdd585976bd173dd4960b6f3295f150a121a1ac0fa5cd69c57f3", func := "vista/vistalaw01.MarkGaps", spec := "markGaps", inPlace := ["math.archTrunc", "math.Float64bits", "math.Float64frombits"], apart := false }
def MarkGapsSaid : Prop := markGapsRow.holds Try.pinned (OpenSpec.ofChange markGapsSpec)

/-- ITS FALSE NEIGHBOUR: 'it returns false'. Refute it at one input. -/
def markGapsWrong : ChangeSpec := { name := "markGaps", fn := fun _ => fun
  | [d1, d2] => { results := [.lit (.bool false)], args := [d1, d2] }
  | _ => none }
def MarkGapsWrongFalsely : Prop := markGapsRow.holds Try.pinned (OpenSpec.ofChange markGapsWrong)

/-- 'vistalaw01.MarkCounts': WHATEVER THE INPUT: true; the input reads as it did. -/
def markCountsSpec : ChangeSpec := { name := "markCounts", fn := fun _ => fun
  | [d1, d2, d3] => { results := [.lit (.bool true)], args := [d1, d2, d3] }
  | _ => none }
def markCountsRow : OpenClaim := { program := "ytadplihjakiniaa", sum := "a814095ff5a5fdd585976bd173dd4960b6f3295f150a121a1ac0fa5cd69c57f3", func := "vista/vistalaw01.MarkCounts", spec := "markCounts", inPlace := ["math.archTrunc", "math.Float64bits", "math.Float64frombits"], apart := false }
def MarkCountsSaid : Prop := markCountsRow.holds Try.pinned (OpenSpec.ofChange markCountsSpec)

/-- ITS FALSE NEIGHBOUR: 'it returns false'. Refute it at one input. -/
def markCountsWrong : ChangeSpec := { name := "markCounts", fn := fun _ => fun
  | [d1, d2, d3] => { results := [.lit (.bool false)], args := [d1, d2, d3] }
  | _ => none }
def MarkCountsWrongFalsely : Prop := markCountsRow.holds Try.pinned (OpenSpec.ofChange markCountsWrong)

/-- 'vistalaw01.MarkOrders': WHATEVER THE INPUT: true; the input reads as it did. -/
def markOrdersSpec : ChangeSpec := { name := "markOrders", fn := fun _ => fun
  | [d1, d2, d3] => { results := [.lit (.bool true)], args := [d1, d2, d3] }
  | _ => none }
def markOrdersRow : OpenClaim := { program := "ytadplihjakiniaa", sum := "a814095ff5a5fdd585976bd173dd4960b6f3295f150a121a1ac0fa5cd69c57f3", func := "vista/vistalaw01.MarkOrders", spec := "markOrders", inPlace := ["math.archTrunc", "math.Float64bits", "math.Float64frombits"], apart := false }
def MarkOrdersSaid : Prop := markOrdersRow.holds Try.pinned (OpenSpec.ofChange markOrdersSpec)

/-- ITS FALSE NEIGHBOUR: 'it returns false'. Refute it at one input. -/
def markOrdersWrong : ChangeSpec := { name := "markOrders", fn := fun _ => fun
  | [d1, d2, d3] => { results := [.lit (.bool false)], args := [d1, d2, d3] }
  | _ => none }
def MarkOrdersWrongFalsely : Prop := markOrdersRow.holds Try.pinned (OpenSpec.ofChange markOrdersWrong)

/-- 'vistalaw01.MarkLasts': WHATEVER THE INPUT: true; the input reads as it did. -/
def markLastsSpec : ChangeSpec := { name := "markLasts", fn := fun _ => fun
  | [d] => { results := [.lit (.bool true)], args := [d] }
  | _ => none }
def markLastsRow : OpenClaim := { program := "ytadplihjakiniaa", sum := "a814095ff5a5fdd585976bd173dd4960b6f3295f150a121a1ac0fa5cd69c57f3", func := "vista/vistalaw01.MarkLasts", spec := "markLasts", inPlace := ["math.archTrunc", "math.Float64bits", "math.Float64frombits"], apart := false }
def MarkLastsSaid : Prop := markLastsRow.holds Try.pinned (OpenSpec.ofChange markLastsSpec)

/-- ITS FALSE NEIGHBOUR: 'it returns false'. Refute it at one input. -/
def markLastsWrong : ChangeSpec := { name := "markLasts", fn := fun _ => fun
  | [d] => { results := [.lit (.bool false)], args := [d] }
  | _ => none }
def MarkLastsWrongFalsely : Prop := markLastsRow.holds Try.pinned (OpenSpec.ofChange markLastsWrong)

/-- 'vistalaw01.MarkTurned': WHATEVER THE INPUT: true; the input reads as it did. -/
def markTurnedSpec : ChangeSpec := { name := "markTurned", fn := fun _ => fun
  | [d] => { results := [.lit (.bool true)], args := [d] }
  | _ => none }
def markTurnedRow : OpenClaim := { program := "ytadplihjakiniaa", sum := "a814095ff5a5fdd585976bd173dd4960b6f3295f150a121a1ac0fa5cd69c57f3", func := "vista/vistalaw01.MarkTurned", spec := "markTurned", inPlace := ["math.archTrunc", "math.Float64bits", "math.Float64frombits"], apart := false }
def MarkTurnedSaid : Prop := markTurnedRow.holds Try.pinned (OpenSpec.ofChange markTurnedSpec)

/-- ITS FALSE NEIGHBOUR: 'it returns false'. Refute it at one input. -/
def markTurnedWrong : ChangeSpec := { name := "markTurned", fn := fun _ => fun
  | [d] => { results := [.lit (.bool false)], args := [d] }
  | _ => none }
def MarkTurnedWrongFalsely : Prop := markTurnedRow.holds Try.pinned (OpenSpec.ofChange markTurnedWrong)

/-- 'vistalaw01.MarkSpans': WHATEVER THE INPUT: true; the input reads as it did. -/
def markSpansSpec : ChangeSpec := { name := "markSpans", fn := fun _ => fun
  | [d1, d2] => { results := [.lit (.bool true)], args := [d1, d2] }
  | _ => none }
def markSpansRow : OpenClaim := { program := "ytadplihjakiniaa", sum := "a814095ff5a5fdd585976bd173dd4960b6f3295f150a121a1ac0fa5cd69c57f3", func := "vista/vistalaw01.MarkSpans", spec := "markSpans", inPlace := ["math.archTrunc", "math.Float64bits", "math.Float64frombits"], apart := false }
def MarkSpansSaid : Prop := markSpansRow.holds Try.pinned (OpenSpec.ofChange markSpansSpec)

/-- ITS FALSE NEIGHBOUR: 'it returns false'. Refute it at one input. -/
def markSpansWrong : ChangeSpec := { name := "markSpans", fn := fun _ => fun
  | [d1, d2] => { results := [.lit (.bool false)], args := [d1, d2] }
  | _ => none }
def MarkSpansWrongFalsely : Prop := markSpansRow.holds Try.pinned (OpenSpec.ofChange markSpansWrong)

/- THE SECOND FORM. 'bulk': how many values and letters a reading holds, each counted each time it is reached (what is shared counts as often as it is met; a slice's spare places count too). A statement '..UptoSaid' is the law's where the arguments, and the package variables that the reading takes, are together of bulk at most 1048576: NARROWER than '..Said'. Prove '..Said' where nothing that the law and all that it calls make is longer than what came in: it says more and counts as full. Else prove '..UptoSaid'. A law counts once. -/
mutual
def uptoBulk {H : Type} : DataW H → Nat
  | .lit (.string bytes) => bytes.length + 1
  | .lit _ => 1
  | .nil => 1
  | .ptr d => uptoBulk d + 1
  | .slice elems spare => uptoBulkAll elems + uptoBulkAll spare + 1
  | .agg parts => uptoBulkAll parts + 1
  | .iface _ d => uptoBulk d + 1
  | .map entries => uptoBulkEntries entries + 1
  | .held _ => 1
def uptoBulkAll {H : Type} : List (DataW H) → Nat
  | [] => 0
  | d :: r => uptoBulk d + uptoBulkAll r
def uptoBulkEntries {H : Type} : List (Lit × DataW H) → Nat
  | [] => 0
  | x :: r => uptoBulkEntry x + uptoBulkEntries r
def uptoBulkEntry {H : Type} : Lit × DataW H → Nat
  | (.string bytes, d) => bytes.length + uptoBulk d + 1
  | (_, d) => uptoBulk d + 1
 end
def uptoSmall : (H : Type) → List (DataW H) → Bool := fun _ ds => decide (uptoBulkAll ds ≤ 1048576)
def OpenSpec.upto (s : _root_.Go.ChangeSpec) : _root_.Go.OpenSpec := { _root_.Go.OpenSpec.ofChange s with cond := some uptoSmall }

/-- 'vistalaw01.MarkAts', WHERE WHAT IT READS IS OF BULK AT MOST 1048576: true; the input reads as it did. -/
def markAtsUptoRow : OpenClaim := { program := "ytadplihjakiniaa", sum := "a814095ff5a5fdd585976bd173dd4960b6f3295f150a121a1ac0fa5cd69c57f3", func := "vista/vistalaw01.MarkAts", spec := "markAts", inPlace := ["math.archTrunc", "math.Float64bits", "math.Float64frombits"], apart := false, narrowed := true }
def MarkAtsUptoSaid : Prop := markAtsUptoRow.holds Try.pinned (OpenSpec.upto markAtsSpec)

/-- 'vistalaw01.MarkParts', WHERE WHAT IT READS IS OF BULK AT MOST 1048576: true; the input reads as it did. -/
def markPartsUptoRow : OpenClaim := { program := "ytadplihjakiniaa", sum := "a814095ff5a5fdd585976bd173dd4960b6f3295f150a121a1ac0fa5cd69c57f3", func := "vista/vistalaw01.MarkParts", spec := "markParts", inPlace := ["math.archTrunc", "math.Float64bits", "math.Float64frombits"], apart := false, narrowed := true }
def MarkPartsUptoSaid : Prop := markPartsUptoRow.holds Try.pinned (OpenSpec.upto markPartsSpec)

/-- 'vistalaw01.MarkNexts', WHERE WHAT IT READS IS OF BULK AT MOST 1048576: true; the input reads as it did. -/
def markNextsUptoRow : OpenClaim := { program := "ytadplihjakiniaa", sum := "a814095ff5a5fdd585976bd173dd4960b6f3295f150a121a1ac0fa5cd69c57f3", func := "vista/vistalaw01.MarkNexts", spec := "markNexts", inPlace := ["math.archTrunc", "math.Float64bits", "math.Float64frombits"], apart := false, narrowed := true }
def MarkNextsUptoSaid : Prop := markNextsUptoRow.holds Try.pinned (OpenSpec.upto markNextsSpec)

/-- 'vistalaw01.MarkAdds', WHERE WHAT IT READS IS OF BULK AT MOST 1048576: true; the input reads as it did. -/
def markAddsUptoRow : OpenClaim := { program := "ytadplihjakiniaa", sum := "a814095ff5a5fdd585976bd173dd4960b6f3295f150a121a1ac0fa5cd69c57f3", func := "vista/vistalaw01.MarkAdds", spec := "markAdds", inPlace := ["math.archTrunc", "math.Float64bits", "math.Float64frombits"], apart := false, narrowed := true }
def MarkAddsUptoSaid : Prop := markAddsUptoRow.holds Try.pinned (OpenSpec.upto markAddsSpec)

/-- 'vistalaw01.MarkOdd', WHERE WHAT IT READS IS OF BULK AT MOST 1048576: true; the input reads as it did. -/
def markOddUptoRow : OpenClaim := { program := "ytadplihjakiniaa", sum := "a814095ff5a5fdd585976bd173dd4960b6f3295f150a121a1ac0fa5cd69c57f3", func := "vista/vistalaw01.MarkOdd", spec := "markOdd", inPlace := ["math.archTrunc", "math.Float64bits", "math.Float64frombits"], apart := false, narrowed := true }
def MarkOddUptoSaid : Prop := markOddUptoRow.holds Try.pinned (OpenSpec.upto markOddSpec)

/-- 'vistalaw01.MarkGaps', WHERE WHAT IT READS IS OF BULK AT MOST 1048576: true; the input reads as it did. -/
def markGapsUptoRow : OpenClaim := { program := "ytadplihjakiniaa", sum := "a814095ff5a5fdd585976bd173dd4960b6f3295f150a121a1ac0fa5cd69c57f3", func := "vista/vistalaw01.MarkGaps", spec := "markGaps", inPlace := ["math.archTrunc", "math.Float64bits", "math.Float64frombits"], apart := false, narrowed := true }
def MarkGapsUptoSaid : Prop := markGapsUptoRow.holds Try.pinned (OpenSpec.upto markGapsSpec)

/-- 'vistalaw01.MarkCounts', WHERE WHAT IT READS IS OF BULK AT MOST 1048576: true; the input reads as it did. -/
def markCountsUptoRow : OpenClaim := { program := "ytadplihjakiniaa", sum := "a814095ff5a5fdd585976bd173dd4960b6f3295f150a121a1ac0fa5cd69c57f3", func := "vista/vistalaw01.MarkCounts", spec := "markCounts", inPlace := ["math.archTrunc", "math.Float64bits", "math.Float64frombits"], apart := false, narrowed := true }
def MarkCountsUptoSaid : Prop := markCountsUptoRow.holds Try.pinned (OpenSpec.upto markCountsSpec)

/-- 'vistalaw01.MarkOrders', WHERE WHAT IT READS IS OF BULK AT MOST 1048576: true; the input reads as it did. -/
def markOrdersUptoRow : OpenClaim := { program := "ytadplihjakiniaa", sum := "a814095ff5a5fdd585976bd173dd4960b6f3295f150a121a1ac0fa5cd69c57f3", func := "vista/vistalaw01.MarkOrders", spec := "markOrders", inPlace := ["math.archTrunc", "math.Float64bits", "math.Float64frombits"], apart := false, narrowed := true }
def MarkOrdersUptoSaid : Prop := markOrdersUptoRow.holds Try.pinned (OpenSpec.upto markOrdersSpec)

/-- 'vistalaw01.MarkLasts', WHERE WHAT IT READS IS OF BULK AT MOST 1048576: true; the input reads as it did. -/
def markLastsUptoRow : OpenClaim := { program := "ytadplihjakiniaa", sum := "a814095ff5a5fdd585976bd173dd4960b6f3295f150a121a1ac0fa5cd69c57f3", func := "vista/vistalaw01.MarkLasts", spec := "markLasts", inPlace := ["math.archTrunc", "math.Float64bits", "math.Float64frombits"], apart := false, narrowed := true }
def MarkLastsUptoSaid : Prop := markLastsUptoRow.holds Try.pinned (OpenSpec.upto markLastsSpec)

/-- 'vistalaw01.MarkTurned', WHERE WHAT IT READS IS OF BULK AT MOST 1048576: true; the input reads as it did. -/
def markTurnedUptoRow : OpenClaim := { program := "ytadplihjakiniaa", sum := "a814095ff5a5fdd585976bd173dd4960b6f3295f150a121a1ac0fa5cd69c57f3", func := "vista/vistalaw01.MarkTurned", spec := "markTurned", inPlace := ["math.archTrunc", "math.Float64bits", "math.Float64frombits"], apart := false, narrowed := true }
def MarkTurnedUptoSaid : Prop := markTurnedUptoRow.holds Try.pinned (OpenSpec.upto markTurnedSpec)

/-- 'vistalaw01.MarkSpans', WHERE WHAT IT READS IS OF BULK AT MOST 1048576: true; the input reads as it did. -/
def markSpansUptoRow : OpenClaim := { program := "ytadplihjakiniaa", sum := "a814095ff5a5fdd585976bd173dd4960b6f3295f150a121a1ac0fa5cd69c57f3", func := "vista/vistalaw01.MarkSpans", spec := "markSpans", inPlace := ["math.archTrunc", "math.Float64bits", "math.Float64frombits"], apart := false, narrowed := true }
def MarkSpansUptoSaid : Prop := markSpansUptoRow.holds Try.pinned (OpenSpec.upto markSpansSpec)

end Rows
end Go.Proofs.Ytadplihjakiniaa

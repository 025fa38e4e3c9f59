/-
  No cell of these rows narrows 'for every input' (looked for: loops, veiled, ifaces, maps, wideKeys, modest, calm, conditions, laid).
  DERIVED. THE GIVEN ROWS OF THIS SEAT. 6 by the template 'for every input the law returns true; each argument reads behind the call as it read before'; 0 by the template 'total and deterministic' (their statements: YtdmkphalihdmlaaTotals.lean).
  GIVEN WITH THE SEED: the statements are not yours to turn. If you find one false, say at which input.
  Laid BY PROGRAM, IN A SANDBOX (cutbox-rows.mjs): the forced cells as the released guide's own fill.sh prints them over the translation c20f60ec7c842ff5… (all of the seat's roots in one cut). By AI agents, Wed Nov 11 2026. No macro, syntax, notation, axiom, sorry.
-/
import Derived.Test.YtdmkphalihdmlaaChecked
import GoSem.Claim
import GoSem.ClaimJoined
import GoSem.ClaimMapViews
import Derived.JoinedTies
import Derived.KernelRfl
namespace Go.Proofs.Ytdmkphalihdmlaa
/- THE CELL 'sum', in the pinned program and in every row, IS THE sha256 OF THE DUMP (.gsa) THAT YtdmkphalihdmlaaProg.lean LOADS. Nothing in Lean hashes anything: it is a label: what it is worth is what the hold of that sum in a sandbox is worth. -/
noncomputable def Try.pinned : Pinned := { name := "ytdmkphalihdmlaa", sum := "c20f60ec7c842ff50fa2dbfd04fab9ccf4415c3486c75f987a756512dbda70eb", checked := Try.checked }
namespace Rows
def none {H : Type} : Left H := { results := [], args := [] }

/-- 'vistalaw03.BlockLast': WHATEVER THE INPUT: true; the input reads as it did. -/
def blockLastSpec : ChangeSpec := { name := "blockLast", fn := fun _ => fun
  | [d1, d2, d3] => { results := [.lit (.bool true)], args := [d1, d2, d3] }
  | _ => none }
def blockLastRow : OpenClaim := { program := "ytdmkphalihdmlaa", sum := "c20f60ec7c842ff50fa2dbfd04fab9ccf4415c3486c75f987a756512dbda70eb", func := "vista/vistalaw03.BlockLast", spec := "blockLast", apart := false }
def BlockLastSaid : Prop := blockLastRow.holds Try.pinned (OpenSpec.ofChange blockLastSpec)

/-- ITS FALSE NEIGHBOUR: 'it returns false'. Refute it at one input. -/
def blockLastWrong : ChangeSpec := { name := "blockLast", fn := fun _ => fun
  | [d1, d2, d3] => { results := [.lit (.bool false)], args := [d1, d2, d3] }
  | _ => none }
def BlockLastWrongFalsely : Prop := blockLastRow.holds Try.pinned (OpenSpec.ofChange blockLastWrong)

/-- 'vistalaw03.BlockKept': WHATEVER THE INPUT: true; the input reads as it did. -/
def blockKeptSpec : ChangeSpec := { name := "blockKept", fn := fun _ => fun
  | [d1, d2, d3] => { results := [.lit (.bool true)], args := [d1, d2, d3] }
  | _ => none }
def blockKeptRow : OpenClaim := { program := "ytdmkphalihdmlaa", sum := "c20f60ec7c842ff50fa2dbfd04fab9ccf4415c3486c75f987a756512dbda70eb", func := "vista/vistalaw03.BlockKept", spec := "blockKept", apart := false }
def BlockKeptSaid : Prop := blockKeptRow.holds Try.pinned (OpenSpec.ofChange blockKeptSpec)

/-- ITS FALSE NEIGHBOUR: 'it returns false'. Refute it at one input. -/
def blockKeptWrong : ChangeSpec := { name := "blockKept", fn := fun _ => fun
  | [d1, d2, d3] => { results := [.lit (.bool false)], args := [d1, d2, d3] }
  | _ => none }
def BlockKeptWrongFalsely : Prop := blockKeptRow.holds Try.pinned (OpenSpec.ofChange blockKeptWrong)

/-- 'vistalaw03.BlockFuses': WHATEVER THE INPUT: true; the input reads as it did. -/
def blockFusesSpec : ChangeSpec := { name := "blockFuses", fn := fun _ => fun
  | [d1, d2, d3] => { results := [.lit (.bool true)], args := [d1, d2, d3] }
  | _ => none }
def blockFusesRow : OpenClaim := { program := "ytdmkphalihdmlaa", sum := "c20f60ec7c842ff50fa2dbfd04fab9ccf4415c3486c75f987a756512dbda70eb", func := "vista/vistalaw03.BlockFuses", spec := "blockFuses", apart := false }
def BlockFusesSaid : Prop := blockFusesRow.holds Try.pinned (OpenSpec.ofChange blockFusesSpec)

/-- ITS FALSE NEIGHBOUR: 'it returns false'. Refute it at one input. -/
def blockFusesWrong : ChangeSpec := { name := "blockFuses", fn := fun _ => fun
  | [d1, d2, d3] => { results := [.lit (.bool false)], args := [d1, d2, d3] }
  | _ => none }
def BlockFusesWrongFalsely : Prop := blockFusesRow.holds Try.pinned (OpenSpec.ofChange blockFusesWrong)

/-- 'vistalaw03.BlockOff': WHATEVER THE INPUT: true; the input reads as it did. -/
def blockOffSpec : ChangeSpec := { name := "blockOff", fn := fun _ => fun
  | [d1, d2, d3, d4] => { results := [.lit (.bool true)], args := [d1, d2, d3, d4] }
  | _ => none }
def blockOffRow : OpenClaim := { program := "ytdmkphalihdmlaa", sum := "c20f60ec7c842ff50fa2dbfd04fab9ccf4415c3486c75f987a756512dbda70eb", func := "vista/vistalaw03.BlockOff", spec := "blockOff", apart := false }
def BlockOffSaid : Prop := blockOffRow.holds Try.pinned (OpenSpec.ofChange blockOffSpec)

/-- ITS FALSE NEIGHBOUR: 'it returns false'. Refute it at one input. -/
def blockOffWrong : ChangeSpec := { name := "blockOff", fn := fun _ => fun
  | [d1, d2, d3, d4] => { results := [.lit (.bool false)], args := [d1, d2, d3, d4] }
  | _ => none }
def BlockOffWrongFalsely : Prop := blockOffRow.holds Try.pinned (OpenSpec.ofChange blockOffWrong)

/-- 'vistalaw03.BlockCopies': WHATEVER THE INPUT: true; the input reads as it did. -/
def blockCopiesSpec : ChangeSpec := { name := "blockCopies", fn := fun _ => fun
  | [d1, d2, d3, d4, d5] => { results := [.lit (.bool true)], args := [d1, d2, d3, d4, d5] }
  | _ => none }
def blockCopiesRow : OpenClaim := { program := "ytdmkphalihdmlaa", sum := "c20f60ec7c842ff50fa2dbfd04fab9ccf4415c3486c75f987a756512dbda70eb", func := "vista/vistalaw03.BlockCopies", spec := "blockCopies", apart := false }
def BlockCopiesSaid : Prop := blockCopiesRow.holds Try.pinned (OpenSpec.ofChange blockCopiesSpec)

/-- ITS FALSE NEIGHBOUR: 'it returns false'. Refute it at one input. -/
def blockCopiesWrong : ChangeSpec := { name := "blockCopies", fn := fun _ => fun
  | [d1, d2, d3, d4, d5] => { results := [.lit (.bool false)], args := [d1, d2, d3, d4, d5] }
  | _ => none }
def BlockCopiesWrongFalsely : Prop := blockCopiesRow.holds Try.pinned (OpenSpec.ofChange blockCopiesWrong)

/-- 'vistalaw03.BlockPlays': WHATEVER THE INPUT: true; the input reads as it did. -/
def blockPlaysSpec : ChangeSpec := { name := "blockPlays", fn := fun _ => fun
  | [d1, d2] => { results := [.lit (.bool true)], args := [d1, d2] }
  | _ => none }
def blockPlaysRow : OpenClaim := { program := "ytdmkphalihdmlaa", sum := "c20f60ec7c842ff50fa2dbfd04fab9ccf4415c3486c75f987a756512dbda70eb", func := "vista/vistalaw03.BlockPlays", spec := "blockPlays", apart := false }
def BlockPlaysSaid : Prop := blockPlaysRow.holds Try.pinned (OpenSpec.ofChange blockPlaysSpec)

/-- ITS FALSE NEIGHBOUR: 'it returns false'. Refute it at one input. -/
def blockPlaysWrong : ChangeSpec := { name := "blockPlays", fn := fun _ => fun
  | [d1, d2] => { results := [.lit (.bool false)], args := [d1, d2] }
  | _ => none }
def BlockPlaysWrongFalsely : Prop := blockPlaysRow.holds Try.pinned (OpenSpec.ofChange blockPlaysWrong)

/- THE SECOND FORM. 'bulk': how many values and letters a reading holds, each counted each time it is reached (what is shared counts as often as it is met; a slice's spare places count too). A statement '..UptoSaid' is the law's where the arguments, and the package variables that the reading takes, are together of bulk at most 1048576: NARROWER than '..Said'. Prove '..Said' where nothing that the law and all that it calls make is longer than what came in: it says more and counts as full. Else prove '..UptoSaid'. A law counts once. -/
mutual
def uptoBulk {H : Type} : DataW H → Nat
  | .lit (.string bytes) => bytes.length + 1
  | .lit _ => 1
  | .nil => 1
  | .ptr d => uptoBulk d + 1
  | .slice elems spare => uptoBulkAll elems + uptoBulkAll spare + 1
  | .agg parts => uptoBulkAll parts + 1
  | .iface _ d => uptoBulk d + 1
  | .map entries => uptoBulkEntries entries + 1
  | .held _ => 1
def uptoBulkAll {H : Type} : List (DataW H) → Nat
  | [] => 0
  | d :: r => uptoBulk d + uptoBulkAll r
def uptoBulkEntries {H : Type} : List (Lit × DataW H) → Nat
  | [] => 0
  | x :: r => uptoBulkEntry x + uptoBulkEntries r
def uptoBulkEntry {H : Type} : Lit × DataW H → Nat
  | (.string bytes, d) => bytes.length + uptoBulk d + 1
  | (_, d) => uptoBulk d + 1
 end
def uptoSmall : (H : Type) → List (DataW H) → Bool := fun _ ds => decide (uptoBulkAll ds ≤ 1048576)
def OpenSpec.upto (s : _root_.Go.ChangeSpec) : _root_.Go.OpenSpec := { _root_.Go.OpenSpec.ofChange s with cond := some uptoSmall }

/-- 'vistalaw03.BlockLast', WHERE WHAT IT READS IS OF BULK AT MOST 1048576: true; the input reads as it did. -/
def blockLastUptoRow : OpenClaim := { program := "ytdmkphalihdmlaa", sum := "c20f60ec7c842ff50fa2dbfd04fab9ccf4415c3486c75f987a756512dbda70eb", func := "vista/vistalaw03.BlockLast", spec := "blockLast", apart := false, narrowed := true }
def BlockLastUptoSaid : Prop := blockLastUptoRow.holds Try.pinned (OpenSpec.upto blockLastSpec)

/-- 'vistalaw03.BlockKept', WHERE WHAT IT READS IS OF BULK AT MOST 1048576: true; the input reads as it did. -/
def blockKeptUptoRow : OpenClaim := { program := "ytdmkphalihdmlaa", sum := "c20f60ec7c842ff50fa2dbfd04fab9ccf4415c3486c75f987a756512dbda70eb", func := "vista/vistalaw03.BlockKept", spec := "blockKept", apart := false, narrowed := true }
def BlockKeptUptoSaid : Prop := blockKeptUptoRow.holds Try.pinned (OpenSpec.upto blockKeptSpec)

/-- 'vistalaw03.BlockFuses', WHERE WHAT IT READS IS OF BULK AT MOST 1048576: true; the input reads as it did. -/
def blockFusesUptoRow : OpenClaim := { program := "ytdmkphalihdmlaa", sum := "c20f60ec7c842ff50fa2dbfd04fab9ccf4415c3486c75f987a756512dbda70eb", func := "vista/vistalaw03.BlockFuses", spec := "blockFuses", apart := false, narrowed := true }
def BlockFusesUptoSaid : Prop := blockFusesUptoRow.holds Try.pinned (OpenSpec.upto blockFusesSpec)

/-- 'vistalaw03.BlockOff', WHERE WHAT IT READS IS OF BULK AT MOST 1048576: true; the input reads as it did. -/
def blockOffUptoRow : OpenClaim := { program := "ytdmkphalihdmlaa", sum := "c20f60ec7c842ff50fa2dbfd04fab9ccf4415c3486c75f987a756512dbda70eb", func := "vista/vistalaw03.BlockOff", spec := "blockOff", apart := false, narrowed := true }
def BlockOffUptoSaid : Prop := blockOffUptoRow.holds Try.pinned (OpenSpec.upto blockOffSpec)

/-- 'vistalaw03.BlockCopies', WHERE WHAT IT READS IS OF BULK AT MOST 1048576: true; the input reads as it did. -/
def blockCopiesUptoRow : OpenClaim := { program := "ytdmkphalihdmlaa", sum := "c20f60ec7c842ff50fa2dbfd04fab9ccf4415c3486c75f987a756512dbda70eb", func := "vista/vistalaw03.BlockCopies", spec := "blockCopies", apart := false, narrowed := true }
def BlockCopiesUptoSaid : Prop := blockCopiesUptoRow.holds Try.pinned (OpenSpec.upto blockCopiesSpec)

/-- 'vistalaw03.BlockPlays', WHERE WHAT IT READS IS OF BULK AT MOST 1048576: true; the input reads as it did. -/
def blockPlaysUptoRow : OpenClaim := { program := "ytdmkphalihdmlaa", sum := "c20f60ec7c842ff50fa2dbfd04fab9ccf4415c3486c75f987a756512dbda70eb", func := "vista/vistalaw03.BlockPlays", spec := "blockPlays", apart := false, narrowed := true }
def BlockPlaysUptoSaid : Prop := blockPlaysUptoRow.holds Try.pinned (OpenSpec.upto blockPlaysSpec)

end Rows
end Go.Proofs.Ytdmkphalihdmlaa

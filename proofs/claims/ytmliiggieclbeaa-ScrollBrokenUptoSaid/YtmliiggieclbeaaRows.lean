/-
  No cell of these rows narrows 'for every input' (looked for: loops, veiled, ifaces, maps, wideKeys, modest, calm, conditions, laid).
  DERIVED. THE GIVEN ROWS OF THIS SEAT. 7 by the template 'for every input the law returns true; each argument reads behind the call as it read before'; 0 by the template 'total and deterministic' (their statements: YtmliiggieclbeaaTotals.lean).
  GIVEN WITH THE SEED: the statements are not yours to turn. If you find one false, say at which input.
  Laid BY PROGRAM, IN A SANDBOX (cutbox-rows.mjs): the forced cells as the released guide's own fill.sh prints them over the translation 65dce45783831864… (all of the seat's roots in one cut). By AI agents, Wed Nov 11 2026. No macro, syntax, notation, axiom, sorry.
-/
import Derived.Test.YtmliiggieclbeaaChecked
import GoSem.Claim
import GoSem.ClaimJoined
import GoSem.ClaimMapViews
import Derived.JoinedTies
import Derived.KernelRfl
namespace Go.Proofs.Ytmliiggieclbeaa
/- THE CELL 'sum', in the pinned program and in every row, IS THE sha256 OF THE DUMP (.gsa) THAT YtmliiggieclbeaaProg.lean LOADS. Nothing in Lean hashes anything: it is a label: what it is worth is what the hold of that sum in a sandbox is worth. -/
noncomputable def Try.pinned : Pinned := { name := "ytmliiggieclbeaa", sum := "65dce4578383186494a83a0ffcf8fceded95ed000ed0f450a462f8b08eea3570", checked := Try.checked }
namespace Rows
def none {H : Type} : Left H := { results := [], args := [] }

/-- 'vistalaw07.ScrollBlocks': WHATEVER THE INPUT: true; the input reads as it did. -/
def scrollBlocksSpec : ChangeSpec := { name := "scrollBlocks", fn := fun _ => fun
  | [d1, d2] => { results := [.lit (.bool true)], args := [d1, d2] }
  | _ => none }
def scrollBlocksRow : OpenClaim := { program := "ytmliiggieclbeaa", sum := "65dce4578383186494a83a0ffcf8fceded95ed000ed0f450a462f8b08eea3570", func := "vista/vistalaw07.ScrollBlocks", spec := "scrollBlocks", apart := false }
def ScrollBlocksSaid : Prop := scrollBlocksRow.holds Try.pinned (OpenSpec.ofChange scrollBlocksSpec)

/-- ITS FALSE NEIGHBOUR: 'it returns false'. Refute it at one input. -/
def scrollBlocksWrong : ChangeSpec := { name := "scrollBlocks", fn := fun _ => fun
  | [d1, d2] => { results := [.lit (.bool false)], args := [d1, d2] }
  | _ => none }
def ScrollBlocksWrongFalsely : Prop := scrollBlocksRow.holds Try.pinned (OpenSpec.ofChange scrollBlocksWrong)

/-- 'vistalaw07.ScrollBack': WHATEVER THE INPUT: true; the input reads as it did. -/
def scrollBackSpec : ChangeSpec := { name := "scrollBack", fn := fun _ => fun
  | [d1, d2] => { results := [.lit (.bool true)], args := [d1, d2] }
  | _ => none }
def scrollBackRow : OpenClaim := { program := "ytmliiggieclbeaa", sum := "65dce4578383186494a83a0ffcf8fceded95ed000ed0f450a462f8b08eea3570", func := "vista/vistalaw07.ScrollBack", spec := "scrollBack", apart := false }
def ScrollBackSaid : Prop := scrollBackRow.holds Try.pinned (OpenSpec.ofChange scrollBackSpec)

/-- ITS FALSE NEIGHBOUR: 'it returns false'. Refute it at one input. -/
def scrollBackWrong : ChangeSpec := { name := "scrollBack", fn := fun _ => fun
  | [d1, d2] => { results := [.lit (.bool false)], args := [d1, d2] }
  | _ => none }
def ScrollBackWrongFalsely : Prop := scrollBackRow.holds Try.pinned (OpenSpec.ofChange scrollBackWrong)

/-- 'vistalaw07.ScrollReads': WHATEVER THE INPUT: true; the input reads as it did. -/
def scrollReadsSpec : ChangeSpec := { name := "scrollReads", fn := fun _ => fun
  | [d1, d2] => { results := [.lit (.bool true)], args := [d1, d2] }
  | _ => none }
def scrollReadsRow : OpenClaim := { program := "ytmliiggieclbeaa", sum := "65dce4578383186494a83a0ffcf8fceded95ed000ed0f450a462f8b08eea3570", func := "vista/vistalaw07.ScrollReads", spec := "scrollReads", apart := false }
def ScrollReadsSaid : Prop := scrollReadsRow.holds Try.pinned (OpenSpec.ofChange scrollReadsSpec)

/-- ITS FALSE NEIGHBOUR: 'it returns false'. Refute it at one input. -/
def scrollReadsWrong : ChangeSpec := { name := "scrollReads", fn := fun _ => fun
  | [d1, d2] => { results := [.lit (.bool false)], args := [d1, d2] }
  | _ => none }
def ScrollReadsWrongFalsely : Prop := scrollReadsRow.holds Try.pinned (OpenSpec.ofChange scrollReadsWrong)

/-- 'vistalaw07.ScrollKept': WHATEVER THE INPUT: true; the input reads as it did. -/
def scrollKeptSpec : ChangeSpec := { name := "scrollKept", fn := fun _ => fun
  | [d1, d2] => { results := [.lit (.bool true)], args := [d1, d2] }
  | _ => none }
def scrollKeptRow : OpenClaim := { program := "ytmliiggieclbeaa", sum := "65dce4578383186494a83a0ffcf8fceded95ed000ed0f450a462f8b08eea3570", func := "vista/vistalaw07.ScrollKept", spec := "scrollKept", apart := false }
def ScrollKeptSaid : Prop := scrollKeptRow.holds Try.pinned (OpenSpec.ofChange scrollKeptSpec)

/-- ITS FALSE NEIGHBOUR: 'it returns false'. Refute it at one input. -/
def scrollKeptWrong : ChangeSpec := { name := "scrollKept", fn := fun _ => fun
  | [d1, d2] => { results := [.lit (.bool false)], args := [d1, d2] }
  | _ => none }
def ScrollKeptWrongFalsely : Prop := scrollKeptRow.holds Try.pinned (OpenSpec.ofChange scrollKeptWrong)

/-- 'vistalaw07.ScrollTurns': WHATEVER THE INPUT: true; the input reads as it did. -/
def scrollTurnsSpec : ChangeSpec := { name := "scrollTurns", fn := fun _ => fun
  | [d1, d2, d3] => { results := [.lit (.bool true)], args := [d1, d2, d3] }
  | _ => none }
def scrollTurnsRow : OpenClaim := { program := "ytmliiggieclbeaa", sum := "65dce4578383186494a83a0ffcf8fceded95ed000ed0f450a462f8b08eea3570", func := "vista/vistalaw07.ScrollTurns", spec := "scrollTurns", apart := false }
def ScrollTurnsSaid : Prop := scrollTurnsRow.holds Try.pinned (OpenSpec.ofChange scrollTurnsSpec)

/-- ITS FALSE NEIGHBOUR: 'it returns false'. Refute it at one input. -/
def scrollTurnsWrong : ChangeSpec := { name := "scrollTurns", fn := fun _ => fun
  | [d1, d2, d3] => { results := [.lit (.bool false)], args := [d1, d2, d3] }
  | _ => none }
def ScrollTurnsWrongFalsely : Prop := scrollTurnsRow.holds Try.pinned (OpenSpec.ofChange scrollTurnsWrong)

/-- 'vistalaw07.ScrollBroken': WHATEVER THE INPUT: true; the input reads as it did. -/
def scrollBrokenSpec : ChangeSpec := { name := "scrollBroken", fn := fun _ => fun
  | [d1, d2, d3, d4, d5] => { results := [.lit (.bool true)], args := [d1, d2, d3, d4, d5] }
  | _ => none }
def scrollBrokenRow : OpenClaim := { program := "ytmliiggieclbeaa", sum := "65dce4578383186494a83a0ffcf8fceded95ed000ed0f450a462f8b08eea3570", func := "vista/vistalaw07.ScrollBroken", spec := "scrollBroken", apart := false }
def ScrollBrokenSaid : Prop := scrollBrokenRow.holds Try.pinned (OpenSpec.ofChange scrollBrokenSpec)

/-- ITS FALSE NEIGHBOUR: 'it returns false'. Refute it at one input. -/
def scrollBrokenWrong : ChangeSpec := { name := "scrollBroken", fn := fun _ => fun
  | [d1, d2, d3, d4, d5] => { results := [.lit (.bool false)], args := [d1, d2, d3, d4, d5] }
  | _ => none }
def ScrollBrokenWrongFalsely : Prop := scrollBrokenRow.holds Try.pinned (OpenSpec.ofChange scrollBrokenWrong)

/-- 'vistalaw07.ScrollAtomic': WHATEVER THE INPUT: true; the input reads as it did. -/
def scrollAtomicSpec : ChangeSpec := { name := "scrollAtomic", fn := fun _ => fun
  | [d1, d2] => { results := [.lit (.bool true)], args := [d1, d2] }
  | _ => none }
def scrollAtomicRow : OpenClaim := { program := "ytmliiggieclbeaa", sum := "65dce4578383186494a83a0ffcf8fceded95ed000ed0f450a462f8b08eea3570", func := "vista/vistalaw07.ScrollAtomic", spec := "scrollAtomic", apart := false }
def ScrollAtomicSaid : Prop := scrollAtomicRow.holds Try.pinned (OpenSpec.ofChange scrollAtomicSpec)

/-- ITS FALSE NEIGHBOUR: 'it returns false'. Refute it at one input. -/
def scrollAtomicWrong : ChangeSpec := { name := "scrollAtomic", fn := fun _ => fun
  | [d1, d2] => { results := [.lit (.bool false)], args := [d1, d2] }
  | _ => none }
def ScrollAtomicWrongFalsely : Prop := scrollAtomicRow.holds Try.pinned (OpenSpec.ofChange scrollAtomicWrong)

/- THE SECOND FORM. 'bulk': how many values and letters a reading holds, each counted each time it is reached (what is shared counts as often as it is met; a slice's spare places count too). A statement '..UptoSaid' is the law's where the arguments, and the package variables that the reading takes, are together of bulk at most 1048576: NARROWER than '..Said'. Prove '..Said' where nothing that the law and all that it calls make is longer than what came in: it says more and counts as full. Else prove '..UptoSaid'. A law counts once. -/
mutual
def uptoBulk {H : Type} : DataW H → Nat
  | .lit (.string bytes) => bytes.length + 1
  | .lit _ => 1
  | .nil => 1
  | .ptr d => uptoBulk d + 1
  | .slice elems spare => uptoBulkAll elems + uptoBulkAll spare + 1
  | .agg parts => uptoBulkAll parts + 1
  | .iface _ d => uptoBulk d + 1
  | .map entries => uptoBulkEntries entries + 1
  | .held _ => 1
def uptoBulkAll {H : Type} : List (DataW H) → Nat
  | [] => 0
  | d :: r => uptoBulk d + uptoBulkAll r
def uptoBulkEntries {H : Type} : List (Lit × DataW H) → Nat
  | [] => 0
  | x :: r => uptoBulkEntry x + uptoBulkEntries r
def uptoBulkEntry {H : Type} : Lit × DataW H → Nat
  | (.string bytes, d) => bytes.length + uptoBulk d + 1
  | (_, d) => uptoBulk d + 1
 end
def uptoSmall : (H : Type) → List (DataW H) → Bool := fun _ ds => decide (uptoBulkAll ds ≤ 1048576)
def OpenSpec.upto (s : _root_.Go.ChangeSpec) : _root_.Go.OpenSpec := { _root_.Go.OpenSpec.ofChange s with cond := some uptoSmall }

/-- 'vistalaw07.ScrollBlocks', WHERE WHAT IT READS IS OF BULK AT MOST 1048576: true; the input reads as it did. -/
def scrollBlocksUptoRow : OpenClaim := { program := "ytmliiggieclbeaa", sum := "65dce4578383186494a83a0ffcf8fceded95ed000ed0f450a462f8b08eea3570", func := "vista/vistalaw07.ScrollBlocks", spec := "scrollBlocks", apart := false, narrowed := true }
def ScrollBlocksUptoSaid : Prop := scrollBlocksUptoRow.holds Try.pinned (OpenSpec.upto scrollBlocksSpec)

/-- 'vistalaw07.ScrollBack', WHERE WHAT IT READS IS OF BULK AT MOST 1048576: true; the input reads as it did. -/
def scrollBackUptoRow : OpenClaim := { program := "ytmliiggieclbeaa", sum := "65dce4578383186494a83a0ffcf8fceded95ed000ed0f450a462f8b08eea3570", func := "vista/vistalaw07.ScrollBack", spec := "scrollBack", apart := false, narrowed := true }
def ScrollBackUptoSaid : Prop := scrollBackUptoRow.holds Try.pinned (OpenSpec.upto scrollBackSpec)

/-- 'vistalaw07.ScrollReads', WHERE WHAT IT READS IS OF BULK AT MOST 1048576: true; the input reads as it did. -/
def scrollReadsUptoRow : OpenClaim := { program := "ytmliiggieclbeaa", sum := "65dce4578383186494a83a0ffcf8fceded95ed000ed0f450a462f8b08eea3570", func := "vista/vistalaw07.ScrollReads", spec := "scrollReads", apart := false, narrowed := true }
def ScrollReadsUptoSaid : Prop := scrollReadsUptoRow.holds Try.pinned (OpenSpec.upto scrollReadsSpec)

/-- 'vistalaw07.ScrollKept', WHERE WHAT IT READS IS OF BULK AT MOST 1048576: true; the input reads as it did. -/
def scrollKeptUptoRow : OpenClaim := { program := "ytmliiggieclbeaa", sum := "65dce4578383186494a83a0ffcf8fceded95ed000ed0f450a462f8b08eea3570", func := "vista/vistalaw07.ScrollKept", spec := "scrollKept", apart := false, narrowed := true }
def ScrollKeptUptoSaid : Prop := scrollKeptUptoRow.holds Try.pinned (OpenSpec.upto scrollKeptSpec)

/-- 'vistalaw07.ScrollTurns', WHERE WHAT IT READS IS OF BULK AT MOST 1048576: true; the input reads as it did. -/
def scrollTurnsUptoRow : OpenClaim := { program := "ytmliiggieclbeaa", sum := "65dce4578383186494a83a0ffcf8fceded95ed000ed0f450a462f8b08eea3570", func := "vista/vistalaw07.ScrollTurns", spec := "scrollTurns", apart := false, narrowed := true }
def ScrollTurnsUptoSaid : Prop := scrollTurnsUptoRow.holds Try.pinned (OpenSpec.upto scrollTurnsSpec)

/-- 'vistalaw07.ScrollBroken', WHERE WHAT IT READS IS OF BULK AT MOST 1048576: true; the input reads as it did. -/
def scrollBrokenUptoRow : OpenClaim := { program := "ytmliiggieclbeaa", sum := "65dce4578383186494a83a0ffcf8fceded95ed000ed0f450a462f8b08eea3570", func := "vista/vistalaw07.ScrollBroken", spec := "scrollBroken", apart := false, narrowed := true }
def ScrollBrokenUptoSaid : Prop := scrollBrokenUptoRow.holds Try.pinned (OpenSpec.upto scrollBrokenSpec)

/-- 'vistalaw07.ScrollAtomic', WHERE WHAT IT READS IS OF BULK AT MOST 1048576: true; the input reads as it did. -/
def scrollAtomicUptoRow : OpenClaim := { program := "ytmliiggieclbeaa", sum := "65dce4578383186494a83a0ffcf8fceded95ed000ed0f450a462f8b08eea3570", func := "vista/vistalaw07.ScrollAtomic", spec := "scrollAtomic", apart := false, narrowed := true }
def ScrollAtomicUptoSaid : Prop := scrollAtomicUptoRow.holds Try.pinned (OpenSpec.upto scrollAtomicSpec)

end Rows
end Go.Proofs.Ytmliiggieclbeaa

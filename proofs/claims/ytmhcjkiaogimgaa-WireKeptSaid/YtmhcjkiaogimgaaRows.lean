/-
  No cell of these rows narrows 'for every input' (looked for: loops, veiled, ifaces, maps, wideKeys, modest, calm, conditions, laid).
  DERIVED. THE GIVEN ROWS OF THIS SEAT. 11 by the template 'for every input the law returns true; each argument reads behind the call as it read before'; 0 by the template 'total and deterministic' (their statements: YtmhcjkiaogimgaaTotals.lean).
  GIVEN WITH THE SEED: the statements are not yours to turn. If you find one false, say at which input.
  Laid BY PROGRAM, IN A SANDBOX (cutbox-rows.mjs): the forced cells as the released guide's own fill.sh prints them over the translation 51dd7f1b801603be… (all of the seat's roots in one cut). By AI agents, Wed Nov 11 2026. No macro, syntax, notation, axiom, sorry.
-/
import Derived.Test.YtmhcjkiaogimgaaChecked
import GoSem.Claim
import GoSem.ClaimJoined
import GoSem.ClaimMapViews
import Derived.JoinedTies
import Derived.KernelRfl
namespace Go.Proofs.Ytmhcjkiaogimgaa
/- THE CELL 'sum', in the pinned program and in every row, IS THE sha256 OF THE DUMP (.gsa) THAT YtmhcjkiaogimgaaProg.lean LOADS. Nothing in Lean hashes anything: it is a label: what it is worth is what the hold of that sum in a sandbox is worth. -/
noncomputable def Try.pinned : Pinned := { name := "ytmhcjkiaogimgaa", sum := "51dd7f1b801603bee92108e5f30bfc6897de256e60309d491b30bafdf2017045", checked := Try.checked }
namespace Rows
def none {H : Type} : Left H := { results := [], args := [] }

/-- 'vistalaw06.WireEncodes': WHATEVER THE INPUT: true; the input reads as it did. -/
def wireEncodesSpec : ChangeSpec := { name := "wireEncodes", fn := fun _ => fun
  | [d] => { results := [.lit (.bool true)], args := [d] }
  | _ => none }
def wireEncodesRow : OpenClaim := { program := "ytmhcjkiaogimgaa", sum := "51dd7f1b801603bee92108e5f30bfc6897de256e60309d491b30bafdf2017045", func := "vista/vistalaw06.WireEncodes", spec := "wireEncodes", inPlace := ["math.archTrunc", "math.Float64bits", "math.Float64frombits"], apart := false }
def WireEncodesSaid : Prop := wireEncodesRow.holds Try.pinned (OpenSpec.ofChange wireEncodesSpec)

/-- ITS FALSE NEIGHBOUR: 'it returns false'. Refute it at one input. -/
def wireEncodesWrong : ChangeSpec := { name := "wireEncodes", fn := fun _ => fun
  | [d] => { results := [.lit (.bool false)], args := [d] }
  | _ => none }
def WireEncodesWrongFalsely : Prop := wireEncodesRow.holds Try.pinned (OpenSpec.ofChange wireEncodesWrong)

/-- 'vistalaw06.WireHalves': WHATEVER THE INPUT: true; the input reads as it did. -/
def wireHalvesSpec : ChangeSpec := { name := "wireHalves", fn := fun _ => fun
  | [d] => { results := [.lit (.bool true)], args := [d] }
  | _ => none }
def wireHalvesRow : OpenClaim := { program := "ytmhcjkiaogimgaa", sum := "51dd7f1b801603bee92108e5f30bfc6897de256e60309d491b30bafdf2017045", func := "vista/vistalaw06.WireHalves", spec := "wireHalves", inPlace := ["math.archTrunc", "math.Float64bits", "math.Float64frombits"], apart := false }
def WireHalvesSaid : Prop := wireHalvesRow.holds Try.pinned (OpenSpec.ofChange wireHalvesSpec)

/-- ITS FALSE NEIGHBOUR: 'it returns false'. Refute it at one input. -/
def wireHalvesWrong : ChangeSpec := { name := "wireHalves", fn := fun _ => fun
  | [d] => { results := [.lit (.bool false)], args := [d] }
  | _ => none }
def WireHalvesWrongFalsely : Prop := wireHalvesRow.holds Try.pinned (OpenSpec.ofChange wireHalvesWrong)

/-- 'vistalaw06.WirePacks': WHATEVER THE INPUT: true; the input reads as it did. -/
def wirePacksSpec : ChangeSpec := { name := "wirePacks", fn := fun _ => fun
  | [d] => { results := [.lit (.bool true)], args := [d] }
  | _ => none }
def wirePacksRow : OpenClaim := { program := "ytmhcjkiaogimgaa", sum := "51dd7f1b801603bee92108e5f30bfc6897de256e60309d491b30bafdf2017045", func := "vista/vistalaw06.WirePacks", spec := "wirePacks", inPlace := ["math.archTrunc", "math.Float64bits", "math.Float64frombits"], apart := false }
def WirePacksSaid : Prop := wirePacksRow.holds Try.pinned (OpenSpec.ofChange wirePacksSpec)

/-- ITS FALSE NEIGHBOUR: 'it returns false'. Refute it at one input. -/
def wirePacksWrong : ChangeSpec := { name := "wirePacks", fn := fun _ => fun
  | [d] => { results := [.lit (.bool false)], args := [d] }
  | _ => none }
def WirePacksWrongFalsely : Prop := wirePacksRow.holds Try.pinned (OpenSpec.ofChange wirePacksWrong)

/-- 'vistalaw06.WireUnlike': WHATEVER THE INPUT: true; the input reads as it did. -/
def wireUnlikeSpec : ChangeSpec := { name := "wireUnlike", fn := fun _ => fun
  | [d1, d2, d3, d4] => { results := [.lit (.bool true)], args := [d1, d2, d3, d4] }
  | _ => none }
def wireUnlikeRow : OpenClaim := { program := "ytmhcjkiaogimgaa", sum := "51dd7f1b801603bee92108e5f30bfc6897de256e60309d491b30bafdf2017045", func := "vista/vistalaw06.WireUnlike", spec := "wireUnlike", inPlace := ["math.archTrunc", "math.Float64bits", "math.Float64frombits"], apart := false }
def WireUnlikeSaid : Prop := wireUnlikeRow.holds Try.pinned (OpenSpec.ofChange wireUnlikeSpec)

/-- ITS FALSE NEIGHBOUR: 'it returns false'. Refute it at one input. -/
def wireUnlikeWrong : ChangeSpec := { name := "wireUnlike", fn := fun _ => fun
  | [d1, d2, d3, d4] => { results := [.lit (.bool false)], args := [d1, d2, d3, d4] }
  | _ => none }
def WireUnlikeWrongFalsely : Prop := wireUnlikeRow.holds Try.pinned (OpenSpec.ofChange wireUnlikeWrong)

/-- 'vistalaw06.WireNumbers': WHATEVER THE INPUT: true; the input reads as it did. -/
def wireNumbersSpec : ChangeSpec := { name := "wireNumbers", fn := fun _ => fun
  | [d1, d2] => { results := [.lit (.bool true)], args := [d1, d2] }
  | _ => none }
def wireNumbersRow : OpenClaim := { program := "ytmhcjkiaogimgaa", sum := "51dd7f1b801603bee92108e5f30bfc6897de256e60309d491b30bafdf2017045", func := "vista/vistalaw06.WireNumbers", spec := "wireNumbers", inPlace := ["math.archTrunc", "math.Float64bits", "math.Float64frombits"], apart := false }
def WireNumbersSaid : Prop := wireNumbersRow.holds Try.pinned (OpenSpec.ofChange wireNumbersSpec)

/-- ITS FALSE NEIGHBOUR: 'it returns false'. Refute it at one input. -/
def wireNumbersWrong : ChangeSpec := { name := "wireNumbers", fn := fun _ => fun
  | [d1, d2] => { results := [.lit (.bool false)], args := [d1, d2] }
  | _ => none }
def WireNumbersWrongFalsely : Prop := wireNumbersRow.holds Try.pinned (OpenSpec.ofChange wireNumbersWrong)

/-- 'vistalaw06.WireDecodes': WHATEVER THE INPUT: true; the input reads as it did. -/
def wireDecodesSpec : ChangeSpec := { name := "wireDecodes", fn := fun _ => fun
  | [d] => { results := [.lit (.bool true)], args := [d] }
  | _ => none }
def wireDecodesRow : OpenClaim := { program := "ytmhcjkiaogimgaa", sum := "51dd7f1b801603bee92108e5f30bfc6897de256e60309d491b30bafdf2017045", func := "vista/vistalaw06.WireDecodes", spec := "wireDecodes", inPlace := ["math.archTrunc", "math.Float64bits", "math.Float64frombits"], unfollowed := true, recurses := true, apart := false }
def WireDecodesSaid : Prop := wireDecodesRow.holds Try.pinned (OpenSpec.ofChange wireDecodesSpec)

/-- ITS FALSE NEIGHBOUR: 'it returns false'. Refute it at one input. -/
def wireDecodesWrong : ChangeSpec := { name := "wireDecodes", fn := fun _ => fun
  | [d] => { results := [.lit (.bool false)], args := [d] }
  | _ => none }
def WireDecodesWrongFalsely : Prop := wireDecodesRow.holds Try.pinned (OpenSpec.ofChange wireDecodesWrong)

/-- 'vistalaw06.WireBack': WHATEVER THE INPUT: true; the input reads as it did. -/
def wireBackSpec : ChangeSpec := { name := "wireBack", fn := fun _ => fun
  | [d1, d2] => { results := [.lit (.bool true)], args := [d1, d2] }
  | _ => none }
def wireBackRow : OpenClaim := { program := "ytmhcjkiaogimgaa", sum := "51dd7f1b801603bee92108e5f30bfc6897de256e60309d491b30bafdf2017045", func := "vista/vistalaw06.WireBack", spec := "wireBack", inPlace := ["math.archTrunc", "math.Float64bits", "math.Float64frombits"], unfollowed := true, recurses := true, apart := false }
def WireBackSaid : Prop := wireBackRow.holds Try.pinned (OpenSpec.ofChange wireBackSpec)

/-- ITS FALSE NEIGHBOUR: 'it returns false'. Refute it at one input. -/
def wireBackWrong : ChangeSpec := { name := "wireBack", fn := fun _ => fun
  | [d1, d2] => { results := [.lit (.bool false)], args := [d1, d2] }
  | _ => none }
def WireBackWrongFalsely : Prop := wireBackRow.holds Try.pinned (OpenSpec.ofChange wireBackWrong)

/-- 'vistalaw06.WireKept': WHATEVER THE INPUT: true; the input reads as it did. -/
def wireKeptSpec : ChangeSpec := { name := "wireKept", fn := fun _ => fun
  | [d1, d2] => { results := [.lit (.bool true)], args := [d1, d2] }
  | _ => none }
def wireKeptRow : OpenClaim := { program := "ytmhcjkiaogimgaa", sum := "51dd7f1b801603bee92108e5f30bfc6897de256e60309d491b30bafdf2017045", func := "vista/vistalaw06.WireKept", spec := "wireKept", inPlace := ["math.archTrunc", "math.Float64bits", "math.Float64frombits"], unfollowed := true, recurses := true, apart := false }
def WireKeptSaid : Prop := wireKeptRow.holds Try.pinned (OpenSpec.ofChange wireKeptSpec)

/-- ITS FALSE NEIGHBOUR: 'it returns false'. Refute it at one input. -/
def wireKeptWrong : ChangeSpec := { name := "wireKept", fn := fun _ => fun
  | [d1, d2] => { results := [.lit (.bool false)], args := [d1, d2] }
  | _ => none }
def WireKeptWrongFalsely : Prop := wireKeptRow.holds Try.pinned (OpenSpec.ofChange wireKeptWrong)

/-- 'vistalaw06.WireUnpacks': WHATEVER THE INPUT: true; the input reads as it did. -/
def wireUnpacksSpec : ChangeSpec := { name := "wireUnpacks", fn := fun _ => fun
  | [d] => { results := [.lit (.bool true)], args := [d] }
  | _ => none }
def wireUnpacksRow : OpenClaim := { program := "ytmhcjkiaogimgaa", sum := "51dd7f1b801603bee92108e5f30bfc6897de256e60309d491b30bafdf2017045", func := "vista/vistalaw06.WireUnpacks", spec := "wireUnpacks", inPlace := ["math.archTrunc", "math.Float64bits", "math.Float64frombits"], apart := false }
def WireUnpacksSaid : Prop := wireUnpacksRow.holds Try.pinned (OpenSpec.ofChange wireUnpacksSpec)

/-- ITS FALSE NEIGHBOUR: 'it returns false'. Refute it at one input. -/
def wireUnpacksWrong : ChangeSpec := { name := "wireUnpacks", fn := fun _ => fun
  | [d] => { results := [.lit (.bool false)], args := [d] }
  | _ => none }
def WireUnpacksWrongFalsely : Prop := wireUnpacksRow.holds Try.pinned (OpenSpec.ofChange wireUnpacksWrong)

/-- 'vistalaw06.WireForth': WHATEVER THE INPUT: true; the input reads as it did. -/
def wireForthSpec : ChangeSpec := { name := "wireForth", fn := fun _ => fun
  | [d1, d2] => { results := [.lit (.bool true)], args := [d1, d2] }
  | _ => none }
def wireForthRow : OpenClaim := { program := "ytmhcjkiaogimgaa", sum := "51dd7f1b801603bee92108e5f30bfc6897de256e60309d491b30bafdf2017045", func := "vista/vistalaw06.WireForth", spec := "wireForth", inPlace := ["math.archTrunc", "math.Float64bits", "math.Float64frombits"], apart := false }
def WireForthSaid : Prop := wireForthRow.holds Try.pinned (OpenSpec.ofChange wireForthSpec)

/-- ITS FALSE NEIGHBOUR: 'it returns false'. Refute it at one input. -/
def wireForthWrong : ChangeSpec := { name := "wireForth", fn := fun _ => fun
  | [d1, d2] => { results := [.lit (.bool false)], args := [d1, d2] }
  | _ => none }
def WireForthWrongFalsely : Prop := wireForthRow.holds Try.pinned (OpenSpec.ofChange wireForthWrong)

/-- 'vistalaw06.WireCut': WHATEVER THE INPUT: true; the input reads as it did. -/
def wireCutSpec : ChangeSpec := { name := "wireCut", fn := fun _ => fun
  | [d1, d2, d3, d4] => { results := [.lit (.bool true)], args := [d1, d2, d3, d4] }
  | _ => none }
def wireCutRow : OpenClaim := { program := "ytmhcjkiaogimgaa", sum := "51dd7f1b801603bee92108e5f30bfc6897de256e60309d491b30bafdf2017045", func := "vista/vistalaw06.WireCut", spec := "wireCut", inPlace := ["math.archTrunc", "math.Float64bits", "math.Float64frombits"], unfollowed := true, recurses := true, apart := false }
def WireCutSaid : Prop := wireCutRow.holds Try.pinned (OpenSpec.ofChange wireCutSpec)

/-- ITS FALSE NEIGHBOUR: 'it returns false'. Refute it at one input. -/
def wireCutWrong : ChangeSpec := { name := "wireCut", fn := fun _ => fun
  | [d1, d2, d3, d4] => { results := [.lit (.bool false)], args := [d1, d2, d3, d4] }
  | _ => none }
def WireCutWrongFalsely : Prop := wireCutRow.holds Try.pinned (OpenSpec.ofChange wireCutWrong)

/- THE SECOND FORM. 'bulk': how many values and letters a reading holds, each counted each time it is reached (what is shared counts as often as it is met; a slice's spare places count too). A statement '..UptoSaid' is the law's where the arguments, and the package variables that the reading takes, are together of bulk at most 1048576: NARROWER than '..Said'. Prove '..Said' where nothing that the law and all that it calls make is longer than what came in: it says more and counts as full. Else prove '..UptoSaid'. A law counts once. -/
mutual
def uptoBulk {H : Type} : DataW H → Nat
  | .lit (.string bytes) => bytes.length + 1
  | .lit _ => 1
  | .nil => 1
  | .ptr d => uptoBulk d + 1
  | .slice elems spare => uptoBulkAll elems + uptoBulkAll spare + 1
  | .agg parts => uptoBulkAll parts + 1
  | .iface _ d => uptoBulk d + 1
  | .map entries => uptoBulkEntries entries + 1
  | .held _ => 1
def uptoBulkAll {H : Type} : List (DataW H) → Nat
  | [] => 0
  | d :: r => uptoBulk d + uptoBulkAll r
def uptoBulkEntries {H : Type} : List (Lit × DataW H) → Nat
  | [] => 0
  | x :: r => uptoBulkEntry x + uptoBulkEntries r
def uptoBulkEntry {H : Type} : Lit × DataW H → Nat
  | (.string bytes, d) => bytes.length + uptoBulk d + 1
  | (_, d) => uptoBulk d + 1
 end
def uptoSmall : (H : Type) → List (DataW H) → Bool := fun _ ds => decide (uptoBulkAll ds ≤ 1048576)
def OpenSpec.upto (s : _root_.Go.ChangeSpec) : _root_.Go.OpenSpec := { _root_.Go.OpenSpec.ofChange s with cond := some uptoSmall }

/-- 'vistalaw06.WireEncodes', WHERE WHAT IT READS IS OF BULK AT MOST 1048576: true; the input reads as it did. -/
def wireEncodesUptoRow : OpenClaim := { program := "ytmhcjkiaogimgaa", sum := "51dd7f1b801603bee92108e5f30bfc6897de256e60309d491b30bafdf2017045", func := "vista/vistalaw06.WireEncodes", spec := "wireEncodes", inPlace := ["math.archTrunc", "math.Float64bits", "math.Float64frombits"], apart := false, narrowed := true }
def WireEncodesUptoSaid : Prop := wireEncodesUptoRow.holds Try.pinned (OpenSpec.upto wireEncodesSpec)

/-- 'vistalaw06.WireHalves', WHERE WHAT IT READS IS OF BULK AT MOST 1048576: true; the input reads as it did. -/
def wireHalvesUptoRow : OpenClaim := { program := "ytmhcjkiaogimgaa", sum := "51dd7f1b801603bee92108e5f30bfc6897de256e60309d491b30bafdf2017045", func := "vista/vistalaw06.WireHalves", spec := "wireHalves", inPlace := ["math.archTrunc", "math.Float64bits", "math.Float64frombits"], apart := false, narrowed := true }
def WireHalvesUptoSaid : Prop := wireHalvesUptoRow.holds Try.pinned (OpenSpec.upto wireHalvesSpec)

/-- 'vistalaw06.WirePacks', WHERE WHAT IT READS IS OF BULK AT MOST 1048576: true; the input reads as it did. -/
def wirePacksUptoRow : OpenClaim := { program := "ytmhcjkiaogimgaa", sum := "51dd7f1b801603bee92108e5f30bfc6897de256e60309d491b30bafdf2017045", func := "vista/vistalaw06.WirePacks", spec := "wirePacks", inPlace := ["math.archTrunc", "math.Float64bits", "math.Float64frombits"], apart := false, narrowed := true }
def WirePacksUptoSaid : Prop := wirePacksUptoRow.holds Try.pinned (OpenSpec.upto wirePacksSpec)

/-- 'vistalaw06.WireUnlike', WHERE WHAT IT READS IS OF BULK AT MOST 1048576: true; the input reads as it did. -/
def wireUnlikeUptoRow : OpenClaim := { program := "ytmhcjkiaogimgaa", sum := "51dd7f1b801603bee92108e5f30bfc6897de256e60309d491b30bafdf2017045", func := "vista/vistalaw06.WireUnlike", spec := "wireUnlike", inPlace := ["math.archTrunc", "math.Float64bits", "math.Float64frombits"], apart := false, narrowed := true }
def WireUnlikeUptoSaid : Prop := wireUnlikeUptoRow.holds Try.pinned (OpenSpec.upto wireUnlikeSpec)

/-- 'vistalaw06.WireNumbers', WHERE WHAT IT READS IS OF BULK AT MOST 1048576: true; the input reads as it did. -/
def wireNumbersUptoRow : OpenClaim := { program := "ytmhcjkiaogimgaa", sum := "51dd7f1b801603bee92108e5f30bfc6897de256e60309d491b30bafdf2017045", func := "vista/vistalaw06.WireNumbers", spec := "wireNumbers", inPlace := ["math.archTrunc", "math.Float64bits", "math.Float64frombits"], apart := false, narrowed := true }
def WireNumbersUptoSaid : Prop := wireNumbersUptoRow.holds Try.pinned (OpenSpec.upto wireNumbersSpec)

/-- 'vistalaw06.WireDecodes', WHERE WHAT IT READS IS OF BULK AT MOST 1048576: true; the input reads as it did. -/
def wireDecodesUptoRow : OpenClaim := { program := "ytmhcjkiaogimgaa", sum := "51dd7f1b801603bee92108e5f30bfc6897de256e60309d491b30bafdf2017045", func := "vista/vistalaw06.WireDecodes", spec := "wireDecodes", inPlace := ["math.archTrunc", "math.Float64bits", "math.Float64frombits"], unfollowed := true, recurses := true, apart := false, narrowed := true }
def WireDecodesUptoSaid : Prop := wireDecodesUptoRow.holds Try.pinned (OpenSpec.upto wireDecodesSpec)

/-- 'vistalaw06.WireBack', WHERE WHAT IT READS IS OF BULK AT MOST 1048576: true; the input reads as it did. -/
def wireBackUptoRow : OpenClaim := { program := "ytmhcjkiaogimgaa", sum := "51dd7f1b801603bee92108e5f30bfc6897de256e60309d491b30bafdf2017045", func := "vista/vistalaw06.WireBack", spec := "wireBack", inPlace := ["math.archTrunc", "math.Float64bits", "math.Float64frombits"], unfollowed := true, recurses := true, apart := false, narrowed := true }
def WireBackUptoSaid : Prop := wireBackUptoRow.holds Try.pinned (OpenSpec.upto wireBackSpec)

/-- 'vistalaw06.WireKept', WHERE WHAT IT READS IS OF BULK AT MOST 1048576: true; the input reads as it did. -/
def wireKeptUptoRow : OpenClaim := { program := "ytmhcjkiaogimgaa", sum := "51dd7f1b801603bee92108e5f30bfc6897de256e60309d491b30bafdf2017045", func := "vista/vistalaw06.WireKept", spec := "wireKept", inPlace := ["math.archTrunc", "math.Float64bits", "math.Float64frombits"], unfollowed := true, recurses := true, apart := false, narrowed := true }
def WireKeptUptoSaid : Prop := wireKeptUptoRow.holds Try.pinned (OpenSpec.upto wireKeptSpec)

/-- 'vistalaw06.WireUnpacks', WHERE WHAT IT READS IS OF BULK AT MOST 1048576: true; the input reads as it did. -/
def wireUnpacksUptoRow : OpenClaim := { program := "ytmhcjkiaogimgaa", sum := "51dd7f1b801603bee92108e5f30bfc6897de256e60309d491b30bafdf2017045", func := "vista/vistalaw06.WireUnpacks", spec := "wireUnpacks", inPlace := ["math.archTrunc", "math.Float64bits", "math.Float64frombits"], apart := false, narrowed := true }
def WireUnpacksUptoSaid : Prop := wireUnpacksUptoRow.holds Try.pinned (OpenSpec.upto wireUnpacksSpec)

/-- 'vistalaw06.WireForth', WHERE WHAT IT READS IS OF BULK AT MOST 1048576: true; the input reads as it did. -/
def wireForthUptoRow : OpenClaim := { program := "ytmhcjkiaogimgaa", sum := "51dd7f1b801603bee92108e5f30bfc6897de256e60309d491b30bafdf2017045", func := "vista/vistalaw06.WireForth", spec := "wireForth", inPlace := ["math.archTrunc", "math.Float64bits", "math.Float64frombits"], apart := false, narrowed := true }
def WireForthUptoSaid : Prop := wireForthUptoRow.holds Try.pinned (OpenSpec.upto wireForthSpec)

/-- 'vistalaw06.WireCut', WHERE WHAT IT READS IS OF BULK AT MOST 1048576: true; the input reads as it did. -/
def wireCutUptoRow : OpenClaim := { program := "ytmhcjkiaogimgaa", sum := "51dd7f1b801603bee92108e5f30bfc6897de256e60309d491b30bafdf2017045", func := "vista/vistalaw06.WireCut", spec := "wireCut", inPlace := ["math.archTrunc", "math.Float64bits", "math.Float64frombits"], unfollowed := true, recurses := true, apart := false, narrowed := true }
def WireCutUptoSaid : Prop := wireCutUptoRow.holds Try.pinned (OpenSpec.upto wireCutSpec)

end Rows
end Go.Proofs.Ytmhcjkiaogimgaa

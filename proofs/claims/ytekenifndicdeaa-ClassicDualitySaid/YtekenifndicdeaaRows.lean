/-
  No cell of these rows narrows 'for every input' (looked for: loops, veiled, ifaces, maps, wideKeys, modest, calm, conditions, laid).
  DERIVED. THE GIVEN ROWS OF THIS SEAT. 8 by the template 'for every input the law returns true; each argument reads behind the call as it read before'; 0 by the template 'total and deterministic' (their statements: YtekenifndicdeaaTotals.lean).
  GIVEN WITH THE SEED: the statements are not yours to turn. If you find one false, say at which input.
  Laid BY PROGRAM, IN A SANDBOX (cutbox-rows.mjs): the forced cells as the released guide's own fill.sh prints them over the translation eb3778d113d91479… (all of the seat's roots in one cut). By AI agents, Wed Nov 11 2026. No macro, syntax, notation, axiom, sorry.
-/
import Derived.Test.YtekenifndicdeaaChecked
import GoSem.Claim
import GoSem.ClaimJoined
import GoSem.ClaimMapViews
import Derived.JoinedTies
import Derived.KernelRfl
namespace Go.Proofs.Ytekenifndicdeaa
/- THE CELL 'sum', in the pinned program and in every row, IS THE sha256 OF THE DUMP (.gsa) THAT YtekenifndicdeaaProg.lean LOADS. Nothing in Lean hashes anything: it is a label: what it is worth is what the hold of that sum in a sandbox is worth. -/
noncomputable def Try.pinned : Pinned := { name := "ytekenifndicdeaa", sum := "eb3778d113d914791393f687ef92d147d5301ef186ac32b06397fe78f7006b4b", checked := Try.checked }
namespace Rows
def none {H : Type} : Left H := { results := [], args := [] }

/-- 'codewrightlaw15.ClassicDuality': WHATEVER THE INPUT: true; the input reads as it did. -/
def classicDualitySpec : ChangeSpec := { name := "classicDuality", fn := fun _ => fun
  | [d1, d2] => { results := [.lit (.bool true)], args := [d1, d2] }
  | _ => none }
def classicDualityRow : OpenClaim := { program := "ytekenifndicdeaa", sum := "eb3778d113d914791393f687ef92d147d5301ef186ac32b06397fe78f7006b4b", func := "codewright/codewrightlaw15.ClassicDuality", spec := "classicDuality", unfollowed := true, recurses := true, apart := false }
def ClassicDualitySaid : Prop := classicDualityRow.holds Try.pinned (OpenSpec.ofChange classicDualitySpec)

/-- ITS FALSE NEIGHBOUR: 'it returns false'. Refute it at one input. -/
def classicDualityWrong : ChangeSpec := { name := "classicDuality", fn := fun _ => fun
  | [d1, d2] => { results := [.lit (.bool false)], args := [d1, d2] }
  | _ => none }
def ClassicDualityWrongFalsely : Prop := classicDualityRow.holds Try.pinned (OpenSpec.ofChange classicDualityWrong)

/-- 'codewrightlaw15.ClassicReedMuller': WHATEVER THE INPUT: true; the input reads as it did. -/
def classicReedMullerSpec : ChangeSpec := { name := "classicReedMuller", fn := fun _ => fun
  | [d1, d2] => { results := [.lit (.bool true)], args := [d1, d2] }
  | _ => none }
def classicReedMullerRow : OpenClaim := { program := "ytekenifndicdeaa", sum := "eb3778d113d914791393f687ef92d147d5301ef186ac32b06397fe78f7006b4b", func := "codewright/codewrightlaw15.ClassicReedMuller", spec := "classicReedMuller", unfollowed := true, recurses := true, apart := false }
def ClassicReedMullerSaid : Prop := classicReedMullerRow.holds Try.pinned (OpenSpec.ofChange classicReedMullerSpec)

/-- ITS FALSE NEIGHBOUR: 'it returns false'. Refute it at one input. -/
def classicReedMullerWrong : ChangeSpec := { name := "classicReedMuller", fn := fun _ => fun
  | [d1, d2] => { results := [.lit (.bool false)], args := [d1, d2] }
  | _ => none }
def ClassicReedMullerWrongFalsely : Prop := classicReedMullerRow.holds Try.pinned (OpenSpec.ofChange classicReedMullerWrong)

/-- 'codewrightlaw15.ClassicHalves': WHATEVER THE INPUT: true; the input reads as it did. -/
def classicHalvesSpec : ChangeSpec := { name := "classicHalves", fn := fun _ => fun
  | [d1, d2, d3] => { results := [.lit (.bool true)], args := [d1, d2, d3] }
  | _ => none }
def classicHalvesRow : OpenClaim := { program := "ytekenifndicdeaa", sum := "eb3778d113d914791393f687ef92d147d5301ef186ac32b06397fe78f7006b4b", func := "codewright/codewrightlaw15.ClassicHalves", spec := "classicHalves", unfollowed := true, recurses := true, apart := false }
def ClassicHalvesSaid : Prop := classicHalvesRow.holds Try.pinned (OpenSpec.ofChange classicHalvesSpec)

/-- ITS FALSE NEIGHBOUR: 'it returns false'. Refute it at one input. -/
def classicHalvesWrong : ChangeSpec := { name := "classicHalves", fn := fun _ => fun
  | [d1, d2, d3] => { results := [.lit (.bool false)], args := [d1, d2, d3] }
  | _ => none }
def ClassicHalvesWrongFalsely : Prop := classicHalvesRow.holds Try.pinned (OpenSpec.ofChange classicHalvesWrong)

/-- 'codewrightlaw15.ClassicWeights': WHATEVER THE INPUT: true; the input reads as it did. -/
def classicWeightsSpec : ChangeSpec := { name := "classicWeights", fn := fun _ => fun
  | [d1, d2, d3] => { results := [.lit (.bool true)], args := [d1, d2, d3] }
  | _ => none }
def classicWeightsRow : OpenClaim := { program := "ytekenifndicdeaa", sum := "eb3778d113d914791393f687ef92d147d5301ef186ac32b06397fe78f7006b4b", func := "codewright/codewrightlaw15.ClassicWeights", spec := "classicWeights", unfollowed := true, recurses := true, apart := false }
def ClassicWeightsSaid : Prop := classicWeightsRow.holds Try.pinned (OpenSpec.ofChange classicWeightsSpec)

/-- ITS FALSE NEIGHBOUR: 'it returns false'. Refute it at one input. -/
def classicWeightsWrong : ChangeSpec := { name := "classicWeights", fn := fun _ => fun
  | [d1, d2, d3] => { results := [.lit (.bool false)], args := [d1, d2, d3] }
  | _ => none }
def ClassicWeightsWrongFalsely : Prop := classicWeightsRow.holds Try.pinned (OpenSpec.ofChange classicWeightsWrong)

/-- 'codewrightlaw15.ClassicResidue': WHATEVER THE INPUT: true; the input reads as it did. -/
def classicResidueSpec : ChangeSpec := { name := "classicResidue", fn := fun _ => fun
  | [d] => { results := [.lit (.bool true)], args := [d] }
  | _ => none }
def classicResidueRow : OpenClaim := { program := "ytekenifndicdeaa", sum := "eb3778d113d914791393f687ef92d147d5301ef186ac32b06397fe78f7006b4b", func := "codewright/codewrightlaw15.ClassicResidue", spec := "classicResidue", unfollowed := true, recurses := true, apart := false }
def ClassicResidueSaid : Prop := classicResidueRow.holds Try.pinned (OpenSpec.ofChange classicResidueSpec)

/-- ITS FALSE NEIGHBOUR: 'it returns false'. Refute it at one input. -/
def classicResidueWrong : ChangeSpec := { name := "classicResidue", fn := fun _ => fun
  | [d] => { results := [.lit (.bool false)], args := [d] }
  | _ => none }
def ClassicResidueWrongFalsely : Prop := classicResidueRow.holds Try.pinned (OpenSpec.ofChange classicResidueWrong)

/-- 'codewrightlaw15.ClassicRoot': WHATEVER THE INPUT: true; the input reads as it did. -/
def classicRootSpec : ChangeSpec := { name := "classicRoot", fn := fun _ => fun
  | [d1, d2] => { results := [.lit (.bool true)], args := [d1, d2] }
  | _ => none }
def classicRootRow : OpenClaim := { program := "ytekenifndicdeaa", sum := "eb3778d113d914791393f687ef92d147d5301ef186ac32b06397fe78f7006b4b", func := "codewright/codewrightlaw15.ClassicRoot", spec := "classicRoot", unfollowed := true, recurses := true, apart := false }
def ClassicRootSaid : Prop := classicRootRow.holds Try.pinned (OpenSpec.ofChange classicRootSpec)

/-- ITS FALSE NEIGHBOUR: 'it returns false'. Refute it at one input. -/
def classicRootWrong : ChangeSpec := { name := "classicRoot", fn := fun _ => fun
  | [d1, d2] => { results := [.lit (.bool false)], args := [d1, d2] }
  | _ => none }
def ClassicRootWrongFalsely : Prop := classicRootRow.holds Try.pinned (OpenSpec.ofChange classicRootWrong)

/-- 'codewrightlaw15.ClassicSymmetry': WHATEVER THE INPUT: true; the input reads as it did. -/
def classicSymmetrySpec : ChangeSpec := { name := "classicSymmetry", fn := fun _ => fun
  | [d1, d2, d3] => { results := [.lit (.bool true)], args := [d1, d2, d3] }
  | _ => none }
def classicSymmetryRow : OpenClaim := { program := "ytekenifndicdeaa", sum := "eb3778d113d914791393f687ef92d147d5301ef186ac32b06397fe78f7006b4b", func := "codewright/codewrightlaw15.ClassicSymmetry", spec := "classicSymmetry", unfollowed := true, recurses := true, apart := false }
def ClassicSymmetrySaid : Prop := classicSymmetryRow.holds Try.pinned (OpenSpec.ofChange classicSymmetrySpec)

/-- ITS FALSE NEIGHBOUR: 'it returns false'. Refute it at one input. -/
def classicSymmetryWrong : ChangeSpec := { name := "classicSymmetry", fn := fun _ => fun
  | [d1, d2, d3] => { results := [.lit (.bool false)], args := [d1, d2, d3] }
  | _ => none }
def ClassicSymmetryWrongFalsely : Prop := classicSymmetryRow.holds Try.pinned (OpenSpec.ofChange classicSymmetryWrong)

/-- 'codewrightlaw15.ClassicGolay': WHATEVER THE INPUT: true; the input reads as it did. -/
def classicGolaySpec : ChangeSpec := { name := "classicGolay", fn := fun _ => fun
  | [d1, d2] => { results := [.lit (.bool true)], args := [d1, d2] }
  | _ => none }
def classicGolayRow : OpenClaim := { program := "ytekenifndicdeaa", sum := "eb3778d113d914791393f687ef92d147d5301ef186ac32b06397fe78f7006b4b", func := "codewright/codewrightlaw15.ClassicGolay", spec := "classicGolay", unfollowed := true, recurses := true, apart := false }
def ClassicGolaySaid : Prop := classicGolayRow.holds Try.pinned (OpenSpec.ofChange classicGolaySpec)

/-- ITS FALSE NEIGHBOUR: 'it returns false'. Refute it at one input. -/
def classicGolayWrong : ChangeSpec := { name := "classicGolay", fn := fun _ => fun
  | [d1, d2] => { results := [.lit (.bool false)], args := [d1, d2] }
  | _ => none }
def ClassicGolayWrongFalsely : Prop := classicGolayRow.holds Try.pinned (OpenSpec.ofChange classicGolayWrong)

/- THE SECOND FORM. 'bulk': how many values and letters a reading holds, each counted each time it is reached (what is shared counts as often as it is met; a slice's spare places count too). A statement '..UptoSaid' is the law's where the arguments, and the package variables that the reading takes, are together of bulk at most 1048576: NARROWER than '..Said'. Prove '..Said' where nothing that the law and all that it calls make is longer than what came in: it says more and counts as full. Else prove '..UptoSaid'. A law counts once. -/
mutual
def uptoBulk {H : Type} : DataW H → Nat
  | .lit (.string bytes) => bytes.length + 1
  | .lit _ => 1
  | .nil => 1
  | .ptr d => uptoBulk d + 1
  | .slice elems spare => uptoBulkAll elems + uptoBulkAll spare + 1
  | .agg parts => uptoBulkAll parts + 1
  | .iface _ d => uptoBulk d + 1
  | .map entries => uptoBulkEntries entries + 1
  | .held _ => 1
def uptoBulkAll {H : Type} : List (DataW H) → Nat
  | [] => 0
  | d :: r => uptoBulk d + uptoBulkAll r
def uptoBulkEntries {H : Type} : List (Lit × DataW H) → Nat
  | [] => 0
  | x :: r => uptoBulkEntry x + uptoBulkEntries r
def uptoBulkEntry {H : Type} : Lit × DataW H → Nat
  | (.string bytes, d) => bytes.length + uptoBulk d + 1
  | (_, d) => uptoBulk d + 1
 end
def uptoSmall : (H : Type) → List (DataW H) → Bool := fun _ ds => decide (uptoBulkAll ds ≤ 1048576)
def OpenSpec.upto (s : _root_.Go.ChangeSpec) : _root_.Go.OpenSpec := { _root_.Go.OpenSpec.ofChange s with cond := some uptoSmall }

/-- 'codewrightlaw15.ClassicDuality', WHERE WHAT IT READS IS OF BULK AT MOST 1048576: true; the input reads as it did. -/
def classicDualityUptoRow : OpenClaim := { program := "ytekenifndicdeaa", sum := "eb3778d113d914791393f687ef92d147d5301ef186ac32b06397fe78f7006b4b", func := "codewright/codewrightlaw15.ClassicDuality", spec := "classicDuality", unfollowed := true, recurses := true, apart := false, narrowed := true }
def ClassicDualityUptoSaid : Prop := classicDualityUptoRow.holds Try.pinned (OpenSpec.upto classicDualitySpec)

/-- 'codewrightlaw15.ClassicReedMuller', WHERE WHAT IT READS IS OF BULK AT MOST 1048576: true; the input reads as it did. -/
def classicReedMullerUptoRow : OpenClaim := { program := "ytekenifndicdeaa", sum := "eb3778d113d914791393f687ef92d147d5301ef186ac32b06397fe78f7006b4b", func := "codewright/codewrightlaw15.ClassicReedMuller", spec := "classicReedMuller", unfollowed := true, recurses := true, apart := false, narrowed := true }
def ClassicReedMullerUptoSaid : Prop := classicReedMullerUptoRow.holds Try.pinned (OpenSpec.upto classicReedMullerSpec)

/-- 'codewrightlaw15.ClassicHalves', WHERE WHAT IT READS IS OF BULK AT MOST 1048576: true; the input reads as it did. -/
def classicHalvesUptoRow : OpenClaim := { program := "ytekenifndicdeaa", sum := "eb3778d113d914791393f687ef92d147d5301ef186ac32b06397fe78f7006b4b", func := "codewright/codewrightlaw15.ClassicHalves", spec := "classicHalves", unfollowed := true, recurses := true, apart := false, narrowed := true }
def ClassicHalvesUptoSaid : Prop := classicHalvesUptoRow.holds Try.pinned (OpenSpec.upto classicHalvesSpec)

/-- 'codewrightlaw15.ClassicWeights', WHERE WHAT IT READS IS OF BULK AT MOST 1048576: true; the input reads as it did. -/
def classicWeightsUptoRow : OpenClaim := { program := "ytekenifndicdeaa", sum := "eb3778d113d914791393f687ef92d147d5301ef186ac32b06397fe78f7006b4b", func := "codewright/codewrightlaw15.ClassicWeights", spec := "classicWeights", unfollowed := true, recurses := true, apart := false, narrowed := true }
def ClassicWeightsUptoSaid : Prop := classicWeightsUptoRow.holds Try.pinned (OpenSpec.upto classicWeightsSpec)

/-- 'codewrightlaw15.ClassicResidue', WHERE WHAT IT READS IS OF BULK AT MOST 1048576: true; the input reads as it did. -/
def classicResidueUptoRow : OpenClaim := { program := "ytekenifndicdeaa", sum := "eb3778d113d914791393f687ef92d147d5301ef186ac32b06397fe78f7006b4b", func := "codewright/codewrightlaw15.ClassicResidue", spec := "classicResidue", unfollowed := true, recurses := true, apart := false, narrowed := true }
def ClassicResidueUptoSaid : Prop := classicResidueUptoRow.holds Try.pinned (OpenSpec.upto classicResidueSpec)

/-- 'codewrightlaw15.ClassicRoot', WHERE WHAT IT READS IS OF BULK AT MOST 1048576: true; the input reads as it did. -/
def classicRootUptoRow : OpenClaim := { program := "ytekenifndicdeaa", sum := "eb3778d113d914791393f687ef92d147d5301ef186ac32b06397fe78f7006b4b", func := "codewright/codewrightlaw15.ClassicRoot", spec := "classicRoot", unfollowed := true, recurses := true, apart := false, narrowed := true }
def ClassicRootUptoSaid : Prop := classicRootUptoRow.holds Try.pinned (OpenSpec.upto classicRootSpec)

/-- 'codewrightlaw15.ClassicSymmetry', WHERE WHAT IT READS IS OF BULK AT MOST 1048576: true; the input reads as it did. -/
def classicSymmetryUptoRow : OpenClaim := { program := "ytekenifndicdeaa", sum := "eb3778d113d914791393f687ef92d147d5301ef186ac32b06397fe78f7006b4b", func := "codewright/codewrightlaw15.ClassicSymmetry", spec := "classicSymmetry", unfollowed := true, recurses := true, apart := false, narrowed := true }
def ClassicSymmetryUptoSaid : Prop := classicSymmetryUptoRow.holds Try.pinned (OpenSpec.upto classicSymmetrySpec)

/-- 'codewrightlaw15.ClassicGolay', WHERE WHAT IT READS IS OF BULK AT MOST 1048576: true; the input reads as it did. -/
def classicGolayUptoRow : OpenClaim := { program := "ytekenifndicdeaa", sum := "eb3778d113d914791393f687ef92d147d5301ef186ac32b06397fe78f7006b4b", func := "codewright/codewrightlaw15.ClassicGolay", spec := "classicGolay", unfollowed := true, recurses := true, apart := false, narrowed := true }
def ClassicGolayUptoSaid : Prop := classicGolayUptoRow.holds Try.pinned (OpenSpec.upto classicGolaySpec)

end Rows
end Go.Proofs.Ytekenifndicdeaa

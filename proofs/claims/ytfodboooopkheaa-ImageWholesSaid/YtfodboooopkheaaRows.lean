/-
  No cell of these rows narrows 'for every input' (looked for: loops, veiled, ifaces, maps, wideKeys, modest, calm, conditions, laid).
  DERIVED. THE GIVEN ROWS OF THIS SEAT. 5 by the template 'for every input the law returns true; each argument reads behind the call as it read before'; 0 by the template 'total and deterministic' (their statements: YtfodboooopkheaaTotals.lean).
  GIVEN WITH THE SEED: the statements are not yours to turn. If you find one false, say at which input.
  Laid BY PROGRAM, IN A SANDBOX (cutbox-rows.mjs): the forced cells as the released guide's own fill.sh prints them over the translation 1126fa715f565ff4… (all of the seat's roots in one cut). By AI agents, Wed Nov 11 2026. No macro, syntax, notation, axiom, sorry.
-/
import Derived.Test.YtfodboooopkheaaChecked
import GoSem.Claim
import GoSem.ClaimJoined
import GoSem.ClaimMapViews
import Derived.JoinedTies
import Derived.KernelRfl
namespace Go.Proofs.Ytfodboooopkheaa
/- THE CELL 'sum', in the pinned program and in every row, IS THE sha256 OF THE DUMP (.gsa) THAT YtfodboooopkheaaProg.lean LOADS. Nothing in Lean hashes anything: it is a label: what it is worth is what the hold of that sum in a sandbox is worth. -/
noncomputable def Try.pinned : Pinned := { name := "ytfodboooopkheaa", sum := "1126fa715f565ff4d4540a09fc1c5175efd124f6fc591aa634151ea29ceff553", checked := Try.checked }
namespace Rows
def none {H : Type} : Left H := { results := [], args := [] }

/-- 'shipwrightlaw08.ImageWholes': WHATEVER THE INPUT: true; the input reads as it did. -/
def imageWholesSpec : ChangeSpec := { name := "imageWholes", fn := fun _ => fun
  | [d1, d2, d3, d4] => { results := [.lit (.bool true)], args := [d1, d2, d3, d4] }
  | _ => none }
def imageWholesRow : OpenClaim := { program := "ytfodboooopkheaa", sum := "1126fa715f565ff4d4540a09fc1c5175efd124f6fc591aa634151ea29ceff553", func := "shipwright/shipwrightlaw08.ImageWholes", spec := "imageWholes", inPlace := ["internal/bytealg.MakeNoZero"], unfollowed := true, recurses := true, apart := false }
def ImageWholesSaid : Prop := imageWholesRow.holds Try.pinned (OpenSpec.ofChange imageWholesSpec)

/-- ITS FALSE NEIGHBOUR: 'it returns false'. Refute it at one input. -/
def imageWholesWrong : ChangeSpec := { name := "imageWholes", fn := fun _ => fun
  | [d1, d2, d3, d4] => { results := [.lit (.bool false)], args := [d1, d2, d3, d4] }
  | _ => none }
def ImageWholesWrongFalsely : Prop := imageWholesRow.holds Try.pinned (OpenSpec.ofChange imageWholesWrong)

/-- 'shipwrightlaw08.ImageBoth': WHATEVER THE INPUT: true; the input reads as it did. -/
def imageBothSpec : ChangeSpec := { name := "imageBoth", fn := fun _ => fun
  | [d1, d2, d3, d4] => { results := [.lit (.bool true)], args := [d1, d2, d3, d4] }
  | _ => none }
def imageBothRow : OpenClaim := { program := "ytfodboooopkheaa", sum := "1126fa715f565ff4d4540a09fc1c5175efd124f6fc591aa634151ea29ceff553", func := "shipwright/shipwrightlaw08.ImageBoth", spec := "imageBoth", inPlace := ["internal/bytealg.MakeNoZero"], unfollowed := true, recurses := true, apart := false }
def ImageBothSaid : Prop := imageBothRow.holds Try.pinned (OpenSpec.ofChange imageBothSpec)

/-- ITS FALSE NEIGHBOUR: 'it returns false'. Refute it at one input. -/
def imageBothWrong : ChangeSpec := { name := "imageBoth", fn := fun _ => fun
  | [d1, d2, d3, d4] => { results := [.lit (.bool false)], args := [d1, d2, d3, d4] }
  | _ => none }
def ImageBothWrongFalsely : Prop := imageBothRow.holds Try.pinned (OpenSpec.ofChange imageBothWrong)

/-- 'shipwrightlaw11.LatticeTells': WHATEVER THE INPUT: true; the input reads as it did. -/
def latticeTellsSpec : ChangeSpec := { name := "latticeTells", fn := fun _ => fun
  | [d1, d2, d3, d4, d5] => { results := [.lit (.bool true)], args := [d1, d2, d3, d4, d5] }
  | _ => none }
def latticeTellsRow : OpenClaim := { program := "ytfodboooopkheaa", sum := "1126fa715f565ff4d4540a09fc1c5175efd124f6fc591aa634151ea29ceff553", func := "shipwright/shipwrightlaw11.LatticeTells", spec := "latticeTells", inPlace := ["slices.overlaps[shipwright/api.Fact]"], unfollowed := true, recurses := true, apart := false }
def LatticeTellsSaid : Prop := latticeTellsRow.holds Try.pinned (OpenSpec.ofChange latticeTellsSpec)

/-- ITS FALSE NEIGHBOUR: 'it returns false'. Refute it at one input. -/
def latticeTellsWrong : ChangeSpec := { name := "latticeTells", fn := fun _ => fun
  | [d1, d2, d3, d4, d5] => { results := [.lit (.bool false)], args := [d1, d2, d3, d4, d5] }
  | _ => none }
def LatticeTellsWrongFalsely : Prop := latticeTellsRow.holds Try.pinned (OpenSpec.ofChange latticeTellsWrong)

/-- 'shipwrightlaw11.LatticeBest': WHATEVER THE INPUT: true; the input reads as it did. -/
def latticeBestSpec : ChangeSpec := { name := "latticeBest", fn := fun _ => fun
  | [d1, d2, d3, d4] => { results := [.lit (.bool true)], args := [d1, d2, d3, d4] }
  | _ => none }
def latticeBestRow : OpenClaim := { program := "ytfodboooopkheaa", sum := "1126fa715f565ff4d4540a09fc1c5175efd124f6fc591aa634151ea29ceff553", func := "shipwright/shipwrightlaw11.LatticeBest", spec := "latticeBest", inPlace := ["slices.overlaps[shipwright/api.Fact]"], unfollowed := true, recurses := true, apart := false }
def LatticeBestSaid : Prop := latticeBestRow.holds Try.pinned (OpenSpec.ofChange latticeBestSpec)

/-- ITS FALSE NEIGHBOUR: 'it returns false'. Refute it at one input. -/
def latticeBestWrong : ChangeSpec := { name := "latticeBest", fn := fun _ => fun
  | [d1, d2, d3, d4] => { results := [.lit (.bool false)], args := [d1, d2, d3, d4] }
  | _ => none }
def LatticeBestWrongFalsely : Prop := latticeBestRow.holds Try.pinned (OpenSpec.ofChange latticeBestWrong)

/-- 'shipwrightlaw08.ImageCrash': WHATEVER THE INPUT: true; the input reads as it did. -/
def imageCrashSpec : ChangeSpec := { name := "imageCrash", fn := fun _ => fun
  | [d1, d2, d3] => { results := [.lit (.bool true)], args := [d1, d2, d3] }
  | _ => none }
def imageCrashRow : OpenClaim := { program := "ytfodboooopkheaa", sum := "1126fa715f565ff4d4540a09fc1c5175efd124f6fc591aa634151ea29ceff553", func := "shipwright/shipwrightlaw08.ImageCrash", spec := "imageCrash", inPlace := ["internal/bytealg.MakeNoZero"], unfollowed := true, recurses := true, apart := false }
def ImageCrashSaid : Prop := imageCrashRow.holds Try.pinned (OpenSpec.ofChange imageCrashSpec)

/-- ITS FALSE NEIGHBOUR: 'it returns false'. Refute it at one input. -/
def imageCrashWrong : ChangeSpec := { name := "imageCrash", fn := fun _ => fun
  | [d1, d2, d3] => { results := [.lit (.bool false)], args := [d1, d2, d3] }
  | _ => none }
def ImageCrashWrongFalsely : Prop := imageCrashRow.holds Try.pinned (OpenSpec.ofChange imageCrashWrong)

/- THE SECOND FORM. 'bulk': how many values and letters a reading holds, each counted each time it is reached (what is shared counts as often as it is met; a slice's spare places count too). A statement '..UptoSaid' is the law's where the arguments, and the package variables that the reading takes, are together of bulk at most 1048576: NARROWER than '..Said'. Prove '..Said' where nothing that the law and all that it calls make is longer than what came in: it says more and counts as full. Else prove '..UptoSaid'. A law counts once. -/
mutual
def uptoBulk {H : Type} : DataW H → Nat
  | .lit (.string bytes) => bytes.length + 1
  | .lit _ => 1
  | .nil => 1
  | .ptr d => uptoBulk d + 1
  | .slice elems spare => uptoBulkAll elems + uptoBulkAll spare + 1
  | .agg parts => uptoBulkAll parts + 1
  | .iface _ d => uptoBulk d + 1
  | .map entries => uptoBulkEntries entries + 1
  | .held _ => 1
def uptoBulkAll {H : Type} : List (DataW H) → Nat
  | [] => 0
  | d :: r => uptoBulk d + uptoBulkAll r
def uptoBulkEntries {H : Type} : List (Lit × DataW H) → Nat
  | [] => 0
  | x :: r => uptoBulkEntry x + uptoBulkEntries r
def uptoBulkEntry {H : Type} : Lit × DataW H → Nat
  | (.string bytes, d) => bytes.length + uptoBulk d + 1
  | (_, d) => uptoBulk d + 1
 end
def uptoSmall : (H : Type) → List (DataW H) → Bool := fun _ ds => decide (uptoBulkAll ds ≤ 1048576)
def OpenSpec.upto (s : _root_.Go.ChangeSpec) : _root_.Go.OpenSpec := { _root_.Go.OpenSpec.ofChange s with cond := some uptoSmall }

/-- 'shipwrightlaw08.ImageWholes', WHERE WHAT IT READS IS OF BULK AT MOST 1048576: true; the input reads as it did. -/
def imageWholesUptoRow : OpenClaim := { program := "ytfodboooopkheaa", sum := "1126fa715f565ff4d4540a09fc1c5175efd124f6fc591aa634151ea29ceff553", func := "shipwright/shipwrightlaw08.ImageWholes", spec := "imageWholes", inPlace := ["internal/bytealg.MakeNoZero"], unfollowed := true, recurses := true, apart := false, narrowed := true }
def ImageWholesUptoSaid : Prop := imageWholesUptoRow.holds Try.pinned (OpenSpec.upto imageWholesSpec)

/-- 'shipwrightlaw08.ImageBoth', WHERE WHAT IT READS IS OF BULK AT MOST 1048576: true; the input reads as it did. -/
def imageBothUptoRow : OpenClaim := { program := "ytfodboooopkheaa", sum := "1126fa715f565ff4d4540a09fc1c5175efd124f6fc591aa634151ea29ceff553", func := "shipwright/shipwrightlaw08.ImageBoth", spec := "imageBoth", inPlace := ["internal/bytealg.MakeNoZero"], unfollowed := true, recurses := true, apart := false, narrowed := true }
def ImageBothUptoSaid : Prop := imageBothUptoRow.holds Try.pinned (OpenSpec.upto imageBothSpec)

/-- 'shipwrightlaw11.LatticeTells', WHERE WHAT IT READS IS OF BULK AT MOST 1048576: true; the input reads as it did. -/
def latticeTellsUptoRow : OpenClaim := { program := "ytfodboooopkheaa", sum := "1126fa715f565ff4d4540a09fc1c5175efd124f6fc591aa634151ea29ceff553", func := "shipwright/shipwrightlaw11.LatticeTells", spec := "latticeTells", inPlace := ["slices.overlaps[shipwright/api.Fact]"], unfollowed := true, recurses := true, apart := false, narrowed := true }
def LatticeTellsUptoSaid : Prop := latticeTellsUptoRow.holds Try.pinned (OpenSpec.upto latticeTellsSpec)

/-- 'shipwrightlaw11.LatticeBest', WHERE WHAT IT READS IS OF BULK AT MOST 1048576: true; the input reads as it did. -/
def latticeBestUptoRow : OpenClaim := { program := "ytfodboooopkheaa", sum := "1126fa715f565ff4d4540a09fc1c5175efd124f6fc591aa634151ea29ceff553", func := "shipwright/shipwrightlaw11.LatticeBest", spec := "latticeBest", inPlace := ["slices.overlaps[shipwright/api.Fact]"], unfollowed := true, recurses := true, apart := false, narrowed := true }
def LatticeBestUptoSaid : Prop := latticeBestUptoRow.holds Try.pinned (OpenSpec.upto latticeBestSpec)

/-- 'shipwrightlaw08.ImageCrash', WHERE WHAT IT READS IS OF BULK AT MOST 1048576: true; the input reads as it did. -/
def imageCrashUptoRow : OpenClaim := { program := "ytfodboooopkheaa", sum := "1126fa715f565ff4d4540a09fc1c5175efd124f6fc591aa634151ea29ceff553", func := "shipwright/shipwrightlaw08.ImageCrash", spec := "imageCrash", inPlace := ["internal/bytealg.MakeNoZero"], unfollowed := true, recurses := true, apart := false, narrowed := true }
def ImageCrashUptoSaid : Prop := imageCrashUptoRow.holds Try.pinned (OpenSpec.upto imageCrashSpec)

end Rows
end Go.Proofs.Ytfodboooopkheaa

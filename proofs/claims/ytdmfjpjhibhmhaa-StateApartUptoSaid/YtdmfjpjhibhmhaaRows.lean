/-
  No cell of these rows narrows 'for every input' (looked for: loops, veiled, ifaces, maps, wideKeys, modest, calm, conditions, laid).
  DERIVED. THE GIVEN ROWS OF THIS SEAT. 4 by the template 'for every input the law returns true; each argument reads behind the call as it read before'; 0 by the template 'total and deterministic' (their statements: YtdmfjpjhibhmhaaTotals.lean).
  GIVEN WITH THE SEED: the statements are not yours to turn. If you find one false, say at which input.
  Laid BY PROGRAM, IN A SANDBOX (cutbox-rows.mjs): the forced cells as the released guide's own fill.sh prints them over the translation ddb461e310e130c5… (all of the seat's roots in one cut). By AI agents, Wed Nov 11 2026. No macro, syntax, notation, axiom, sorry.
-/
import Derived.Test.YtdmfjpjhibhmhaaChecked
import GoSem.Claim
import GoSem.ClaimJoined
import GoSem.ClaimMapViews
import Derived.JoinedTies
import Derived.KernelRfl
namespace Go.Proofs.Ytdmfjpjhibhmhaa
/- THE CELL 'sum', in the pinned program and in every row, IS THE sha256 OF THE DUMP (.gsa) THAT YtdmfjpjhibhmhaaProg.lean LOADS. Nothing in Lean hashes anything: it is a label: what it is worth is what the hold of that sum in a sandbox is worth. -/
noncomputable def Try.pinned : Pinned := { name := "ytdmfjpjhibhmhaa", sum := "ddb461e310e130c5ce5406b68de6733bac27c18c02c5ec803e6e7261a2290124", checked := Try.checked }
namespace Rows
def none {H : Type} : Left H := { results := [], args := [] }

/-- 'pharoslaw10.StateRight': WHATEVER THE INPUT: true; the input reads as it did. -/
def stateRightSpec : ChangeSpec := { name := "stateRight", fn := fun _ => fun
  | [d] => { results := [.lit (.bool true)], args := [d] }
  | _ => none }
def stateRightRow : OpenClaim := { program := "ytdmfjpjhibhmhaa", sum := "ddb461e310e130c5ce5406b68de6733bac27c18c02c5ec803e6e7261a2290124", func := "pharos/pharoslaw10.StateRight", spec := "stateRight", unfollowed := true, recurses := true, apart := false }
def StateRightSaid : Prop := stateRightRow.holds Try.pinned (OpenSpec.ofChange stateRightSpec)

/-- ITS FALSE NEIGHBOUR: 'it returns false'. Refute it at one input. -/
def stateRightWrong : ChangeSpec := { name := "stateRight", fn := fun _ => fun
  | [d] => { results := [.lit (.bool false)], args := [d] }
  | _ => none }
def StateRightWrongFalsely : Prop := stateRightRow.holds Try.pinned (OpenSpec.ofChange stateRightWrong)

/-- 'pharoslaw10.StateBounds': WHATEVER THE INPUT: true; the input reads as it did. -/
def stateBoundsSpec : ChangeSpec := { name := "stateBounds", fn := fun _ => fun
  | [d1, d2, d3] => { results := [.lit (.bool true)], args := [d1, d2, d3] }
  | _ => none }
def stateBoundsRow : OpenClaim := { program := "ytdmfjpjhibhmhaa", sum := "ddb461e310e130c5ce5406b68de6733bac27c18c02c5ec803e6e7261a2290124", func := "pharos/pharoslaw10.StateBounds", spec := "stateBounds", unfollowed := true, recurses := true, apart := false }
def StateBoundsSaid : Prop := stateBoundsRow.holds Try.pinned (OpenSpec.ofChange stateBoundsSpec)

/-- ITS FALSE NEIGHBOUR: 'it returns false'. Refute it at one input. -/
def stateBoundsWrong : ChangeSpec := { name := "stateBounds", fn := fun _ => fun
  | [d1, d2, d3] => { results := [.lit (.bool false)], args := [d1, d2, d3] }
  | _ => none }
def StateBoundsWrongFalsely : Prop := stateBoundsRow.holds Try.pinned (OpenSpec.ofChange stateBoundsWrong)

/-- 'pharoslaw10.StateApart': WHATEVER THE INPUT: true; the input reads as it did. -/
def stateApartSpec : ChangeSpec := { name := "stateApart", fn := fun _ => fun
  | [d1, d2, d3] => { results := [.lit (.bool true)], args := [d1, d2, d3] }
  | _ => none }
def stateApartRow : OpenClaim := { program := "ytdmfjpjhibhmhaa", sum := "ddb461e310e130c5ce5406b68de6733bac27c18c02c5ec803e6e7261a2290124", func := "pharos/pharoslaw10.StateApart", spec := "stateApart", unfollowed := true, recurses := true, apart := false }
def StateApartSaid : Prop := stateApartRow.holds Try.pinned (OpenSpec.ofChange stateApartSpec)

/-- ITS FALSE NEIGHBOUR: 'it returns false'. Refute it at one input. -/
def stateApartWrong : ChangeSpec := { name := "stateApart", fn := fun _ => fun
  | [d1, d2, d3] => { results := [.lit (.bool false)], args := [d1, d2, d3] }
  | _ => none }
def StateApartWrongFalsely : Prop := stateApartRow.holds Try.pinned (OpenSpec.ofChange stateApartWrong)

/-- 'pharoslaw10.StateSizes': WHATEVER THE INPUT: true; the input reads as it did. -/
def stateSizesSpec : ChangeSpec := { name := "stateSizes", fn := fun _ => fun
  | [d] => { results := [.lit (.bool true)], args := [d] }
  | _ => none }
def stateSizesRow : OpenClaim := { program := "ytdmfjpjhibhmhaa", sum := "ddb461e310e130c5ce5406b68de6733bac27c18c02c5ec803e6e7261a2290124", func := "pharos/pharoslaw10.StateSizes", spec := "stateSizes", unfollowed := true, recurses := true, apart := false }
def StateSizesSaid : Prop := stateSizesRow.holds Try.pinned (OpenSpec.ofChange stateSizesSpec)

/-- ITS FALSE NEIGHBOUR: 'it returns false'. Refute it at one input. -/
def stateSizesWrong : ChangeSpec := { name := "stateSizes", fn := fun _ => fun
  | [d] => { results := [.lit (.bool false)], args := [d] }
  | _ => none }
def StateSizesWrongFalsely : Prop := stateSizesRow.holds Try.pinned (OpenSpec.ofChange stateSizesWrong)

/- THE SECOND FORM. 'bulk': how many values and letters a reading holds, each counted each time it is reached (what is shared counts as often as it is met; a slice's spare places count too). A statement '..UptoSaid' is the law's where the arguments, and the package variables that the reading takes, are together of bulk at most 1048576: NARROWER than '..Said'. Prove '..Said' where nothing that the law and all that it calls make is longer than what came in: it says more and counts as full. Else prove '..UptoSaid'. A law counts once. -/
mutual
def uptoBulk {H : Type} : DataW H → Nat
  | .lit (.string bytes) => bytes.length + 1
  | .lit _ => 1
  | .nil => 1
  | .ptr d => uptoBulk d + 1
  | .slice elems spare => uptoBulkAll elems + uptoBulkAll spare + 1
  | .agg parts => uptoBulkAll parts + 1
  | .iface _ d => uptoBulk d + 1
  | .map entries => uptoBulkEntries entries + 1
  | .held _ => 1
def uptoBulkAll {H : Type} : List (DataW H) → Nat
  | [] => 0
  | d :: r => uptoBulk d + uptoBulkAll r
def uptoBulkEntries {H : Type} : List (Lit × DataW H) → Nat
  | [] => 0
  | x :: r => uptoBulkEntry x + uptoBulkEntries r
def uptoBulkEntry {H : Type} : Lit × DataW H → Nat
  | (.string bytes, d) => bytes.length + uptoBulk d + 1
  | (_, d) => uptoBulk d + 1
 end
def uptoSmall : (H : Type) → List (DataW H) → Bool := fun _ ds => decide (uptoBulkAll ds ≤ 1048576)
def OpenSpec.upto (s : _root_.Go.ChangeSpec) : _root_.Go.OpenSpec := { _root_.Go.OpenSpec.ofChange s with cond := some uptoSmall }

/-- 'pharoslaw10.StateRight', WHERE WHAT IT READS IS OF BULK AT MOST 1048576: true; the input reads as it did. -/
def stateRightUptoRow : OpenClaim := { program := "ytdmfjpjhibhmhaa", sum := "ddb461e310e130c5ce5406b68de6733bac27c18c02c5ec803e6e7261a2290124", func := "pharos/pharoslaw10.StateRight", spec := "stateRight", unfollowed := true, recurses := true, apart := false, narrowed := true }
def StateRightUptoSaid : Prop := stateRightUptoRow.holds Try.pinned (OpenSpec.upto stateRightSpec)

/-- 'pharoslaw10.StateBounds', WHERE WHAT IT READS IS OF BULK AT MOST 1048576: true; the input reads as it did. -/
def stateBoundsUptoRow : OpenClaim := { program := "ytdmfjpjhibhmhaa", sum := "ddb461e310e130c5ce5406b68de6733bac27c18c02c5ec803e6e7261a2290124", func := "pharos/pharoslaw10.StateBounds", spec := "stateBounds", unfollowed := true, recurses := true, apart := false, narrowed := true }
def StateBoundsUptoSaid : Prop := stateBoundsUptoRow.holds Try.pinned (OpenSpec.upto stateBoundsSpec)

/-- 'pharoslaw10.StateApart', WHERE WHAT IT READS IS OF BULK AT MOST 1048576: true; the input reads as it did. -/
def stateApartUptoRow : OpenClaim := { program := "ytdmfjpjhibhmhaa", sum := "ddb461e310e130c5ce5406b68de6733bac27c18c02c5ec803e6e7261a2290124", func := "pharos/pharoslaw10.StateApart", spec := "stateApart", unfollowed := true, recurses := true, apart := false, narrowed := true }
def StateApartUptoSaid : Prop := stateApartUptoRow.holds Try.pinned (OpenSpec.upto stateApartSpec)

/-- 'pharoslaw10.StateSizes', WHERE WHAT IT READS IS OF BULK AT MOST 1048576: true; the input reads as it did. -/
def stateSizesUptoRow : OpenClaim := { program := "ytdmfjpjhibhmhaa", sum := "ddb461e310e130c5ce5406b68de6733bac27c18c02c5ec803e6e7261a2290124", func := "pharos/pharoslaw10.StateSizes", spec := "stateSizes", unfollowed := true, recurses := true, apart := false, narrowed := true }
def StateSizesUptoSaid : Prop := stateSizesUptoRow.holds Try.pinned (OpenSpec.upto stateSizesSpec)

end Rows
end Go.Proofs.Ytdmfjpjhibhmhaa

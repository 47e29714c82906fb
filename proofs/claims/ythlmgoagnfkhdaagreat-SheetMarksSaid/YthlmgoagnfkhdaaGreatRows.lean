/-
  No cell of these rows narrows 'for every input' (looked for: loops, veiled, ifaces, maps, wideKeys, modest, calm, conditions, laid).
  DERIVED. THE GIVEN ROWS OF THIS SEAT. 8 by the template 'for every input the law returns true; each argument reads behind the call as it read before'; 0 by the template 'total and deterministic' (their statements: YthlmgoagnfkhdaaGreatTotals.lean).
  GIVEN WITH THE SEED: the statements are not yours to turn. If you find one false, say at which input.
  Laid BY PROGRAM, IN A SANDBOX (cutbox-rows.mjs): the forced cells as the released guide's own fill.sh prints them over the translation a80c5f4293a7a224… (all of the seat's roots in one cut). By AI agents, Wed Nov 11 2026. No macro, syntax, notation, axiom, sorry.
-/
import Derived.Test.YthlmgoagnfkhdaaGreatChecked
import GoSem.Claim
import GoSem.ClaimJoined
import GoSem.ClaimMapViews
import Derived.JoinedTies
import Derived.KernelRfl
namespace Go.Proofs.YthlmgoagnfkhdaaGreat
/- THE CELL 'sum', in the pinned program and in every row, IS THE sha256 OF THE DUMP (.gsa) THAT YthlmgoagnfkhdaaGreatProg.lean LOADS. Nothing in Lean hashes anything: it is a label: what it is worth is what the hold of that sum in a sandbox is worth. -/
noncomputable def Tryz.pinned : Pinned := { name := "ythlmgoagnfkhdaagreat", sum := "a80c5f4293a7a224b69b717a9c944f8efb2df97599e8920c7b33324414b2feca", checked := Tryz.checked }
namespace Rows
def none {H : Type} : Left H := { results := [], args := [] }

/-- 'gimletlaw10.SheetTyped': WHATEVER THE INPUT: true; the input reads as it did. -/
def sheetTypedSpec : ChangeSpec := { name := "sheetTyped", fn := fun _ => fun
  | [d1, d2, d3] => { results := [.lit (.bool true)], args := [d1, d2, d3] }
  | _ => none }
def sheetTypedRow : OpenClaim := { program := "ythlmgoagnfkhdaagreat", sum := "a80c5f4293a7a224b69b717a9c944f8efb2df97599e8920c7b33324414b2feca", func := "gimlet/gimletlaw10.SheetTyped", spec := "sheetTyped", unfollowed := true, recurses := true, apart := false }
def SheetTypedSaid : Prop := sheetTypedRow.holds Tryz.pinned (OpenSpec.ofChange sheetTypedSpec)

/-- ITS FALSE NEIGHBOUR: 'it returns false'. Refute it at one input. -/
def sheetTypedWrong : ChangeSpec := { name := "sheetTyped", fn := fun _ => fun
  | [d1, d2, d3] => { results := [.lit (.bool false)], args := [d1, d2, d3] }
  | _ => none }
def SheetTypedWrongFalsely : Prop := sheetTypedRow.holds Tryz.pinned (OpenSpec.ofChange sheetTypedWrong)

/-- 'gimletlaw10.SheetAgain': WHATEVER THE INPUT: true; the input reads as it did. -/
def sheetAgainSpec : ChangeSpec := { name := "sheetAgain", fn := fun _ => fun
  | [d1, d2, d3] => { results := [.lit (.bool true)], args := [d1, d2, d3] }
  | _ => none }
def sheetAgainRow : OpenClaim := { program := "ythlmgoagnfkhdaagreat", sum := "a80c5f4293a7a224b69b717a9c944f8efb2df97599e8920c7b33324414b2feca", func := "gimlet/gimletlaw10.SheetAgain", spec := "sheetAgain", unfollowed := true, recurses := true, apart := false }
def SheetAgainSaid : Prop := sheetAgainRow.holds Tryz.pinned (OpenSpec.ofChange sheetAgainSpec)

/-- ITS FALSE NEIGHBOUR: 'it returns false'. Refute it at one input. -/
def sheetAgainWrong : ChangeSpec := { name := "sheetAgain", fn := fun _ => fun
  | [d1, d2, d3] => { results := [.lit (.bool false)], args := [d1, d2, d3] }
  | _ => none }
def SheetAgainWrongFalsely : Prop := sheetAgainRow.holds Tryz.pinned (OpenSpec.ofChange sheetAgainWrong)

/-- 'gimletlaw10.SheetErased': WHATEVER THE INPUT: true; the input reads as it did. -/
def sheetErasedSpec : ChangeSpec := { name := "sheetErased", fn := fun _ => fun
  | [d1, d2, d3] => { results := [.lit (.bool true)], args := [d1, d2, d3] }
  | _ => none }
def sheetErasedRow : OpenClaim := { program := "ythlmgoagnfkhdaagreat", sum := "a80c5f4293a7a224b69b717a9c944f8efb2df97599e8920c7b33324414b2feca", func := "gimlet/gimletlaw10.SheetErased", spec := "sheetErased", unfollowed := true, recurses := true, apart := false }
def SheetErasedSaid : Prop := sheetErasedRow.holds Tryz.pinned (OpenSpec.ofChange sheetErasedSpec)

/-- ITS FALSE NEIGHBOUR: 'it returns false'. Refute it at one input. -/
def sheetErasedWrong : ChangeSpec := { name := "sheetErased", fn := fun _ => fun
  | [d1, d2, d3] => { results := [.lit (.bool false)], args := [d1, d2, d3] }
  | _ => none }
def SheetErasedWrongFalsely : Prop := sheetErasedRow.holds Tryz.pinned (OpenSpec.ofChange sheetErasedWrong)

/-- 'gimletlaw10.SheetRefuses': WHATEVER THE INPUT: true; the input reads as it did. -/
def sheetRefusesSpec : ChangeSpec := { name := "sheetRefuses", fn := fun _ => fun
  | [d1, d2, d3, d4, d5] => { results := [.lit (.bool true)], args := [d1, d2, d3, d4, d5] }
  | _ => none }
def sheetRefusesRow : OpenClaim := { program := "ythlmgoagnfkhdaagreat", sum := "a80c5f4293a7a224b69b717a9c944f8efb2df97599e8920c7b33324414b2feca", func := "gimlet/gimletlaw10.SheetRefuses", spec := "sheetRefuses", unfollowed := true, recurses := true, apart := false }
def SheetRefusesSaid : Prop := sheetRefusesRow.holds Tryz.pinned (OpenSpec.ofChange sheetRefusesSpec)

/-- ITS FALSE NEIGHBOUR: 'it returns false'. Refute it at one input. -/
def sheetRefusesWrong : ChangeSpec := { name := "sheetRefuses", fn := fun _ => fun
  | [d1, d2, d3, d4, d5] => { results := [.lit (.bool false)], args := [d1, d2, d3, d4, d5] }
  | _ => none }
def SheetRefusesWrongFalsely : Prop := sheetRefusesRow.holds Tryz.pinned (OpenSpec.ofChange sheetRefusesWrong)

/-- 'gimletlaw10.SheetDice': WHATEVER THE INPUT: true; the input reads as it did. -/
def sheetDiceSpec : ChangeSpec := { name := "sheetDice", fn := fun _ => fun
  | [d1, d2, d3, d4] => { results := [.lit (.bool true)], args := [d1, d2, d3, d4] }
  | _ => none }
def sheetDiceRow : OpenClaim := { program := "ythlmgoagnfkhdaagreat", sum := "a80c5f4293a7a224b69b717a9c944f8efb2df97599e8920c7b33324414b2feca", func := "gimlet/gimletlaw10.SheetDice", spec := "sheetDice", unfollowed := true, recurses := true, apart := false }
def SheetDiceSaid : Prop := sheetDiceRow.holds Tryz.pinned (OpenSpec.ofChange sheetDiceSpec)

/-- ITS FALSE NEIGHBOUR: 'it returns false'. Refute it at one input. -/
def sheetDiceWrong : ChangeSpec := { name := "sheetDice", fn := fun _ => fun
  | [d1, d2, d3, d4] => { results := [.lit (.bool false)], args := [d1, d2, d3, d4] }
  | _ => none }
def SheetDiceWrongFalsely : Prop := sheetDiceRow.holds Tryz.pinned (OpenSpec.ofChange sheetDiceWrong)

/-- 'gimletlaw10.SheetBack': WHATEVER THE INPUT: true; the input reads as it did. -/
def sheetBackSpec : ChangeSpec := { name := "sheetBack", fn := fun _ => fun
  | [d1, d2, d3] => { results := [.lit (.bool true)], args := [d1, d2, d3] }
  | _ => none }
def sheetBackRow : OpenClaim := { program := "ythlmgoagnfkhdaagreat", sum := "a80c5f4293a7a224b69b717a9c944f8efb2df97599e8920c7b33324414b2feca", func := "gimlet/gimletlaw10.SheetBack", spec := "sheetBack", unfollowed := true, recurses := true, apart := false }
def SheetBackSaid : Prop := sheetBackRow.holds Tryz.pinned (OpenSpec.ofChange sheetBackSpec)

/-- ITS FALSE NEIGHBOUR: 'it returns false'. Refute it at one input. -/
def sheetBackWrong : ChangeSpec := { name := "sheetBack", fn := fun _ => fun
  | [d1, d2, d3] => { results := [.lit (.bool false)], args := [d1, d2, d3] }
  | _ => none }
def SheetBackWrongFalsely : Prop := sheetBackRow.holds Tryz.pinned (OpenSpec.ofChange sheetBackWrong)

/-- 'gimletlaw10.SheetTells': WHATEVER THE INPUT: true; the input reads as it did. -/
def sheetTellsSpec : ChangeSpec := { name := "sheetTells", fn := fun _ => fun
  | [d1, d2] => { results := [.lit (.bool true)], args := [d1, d2] }
  | _ => none }
def sheetTellsRow : OpenClaim := { program := "ythlmgoagnfkhdaagreat", sum := "a80c5f4293a7a224b69b717a9c944f8efb2df97599e8920c7b33324414b2feca", func := "gimlet/gimletlaw10.SheetTells", spec := "sheetTells", unfollowed := true, recurses := true, apart := false }
def SheetTellsSaid : Prop := sheetTellsRow.holds Tryz.pinned (OpenSpec.ofChange sheetTellsSpec)

/-- ITS FALSE NEIGHBOUR: 'it returns false'. Refute it at one input. -/
def sheetTellsWrong : ChangeSpec := { name := "sheetTells", fn := fun _ => fun
  | [d1, d2] => { results := [.lit (.bool false)], args := [d1, d2] }
  | _ => none }
def SheetTellsWrongFalsely : Prop := sheetTellsRow.holds Tryz.pinned (OpenSpec.ofChange sheetTellsWrong)

/-- 'gimletlaw10.SheetMarks': WHATEVER THE INPUT: true; the input reads as it did. -/
def sheetMarksSpec : ChangeSpec := { name := "sheetMarks", fn := fun _ => fun
  | [d1, d2, d3] => { results := [.lit (.bool true)], args := [d1, d2, d3] }
  | _ => none }
def sheetMarksRow : OpenClaim := { program := "ythlmgoagnfkhdaagreat", sum := "a80c5f4293a7a224b69b717a9c944f8efb2df97599e8920c7b33324414b2feca", func := "gimlet/gimletlaw10.SheetMarks", spec := "sheetMarks", inPlace := ["maps.clone"], unfollowed := true, recurses := true, apart := false }
def SheetMarksSaid : Prop := sheetMarksRow.holds Tryz.pinned (OpenSpec.ofChange sheetMarksSpec)

/-- ITS FALSE NEIGHBOUR: 'it returns false'. Refute it at one input. -/
def sheetMarksWrong : ChangeSpec := { name := "sheetMarks", fn := fun _ => fun
  | [d1, d2, d3] => { results := [.lit (.bool false)], args := [d1, d2, d3] }
  | _ => none }
def SheetMarksWrongFalsely : Prop := sheetMarksRow.holds Tryz.pinned (OpenSpec.ofChange sheetMarksWrong)

/- THE SECOND FORM. 'bulk': how many values and letters a reading holds, each counted each time it is reached (what is shared counts as often as it is met; a slice's spare places count too). A statement '..UptoSaid' is the law's where the arguments, and the package variables that the reading takes, are together of bulk at most 1048576: NARROWER than '..Said'. Prove '..Said' where nothing that the law and all that it calls make is longer than what came in: it says more and counts as full. Else prove '..UptoSaid'. A law counts once. -/
mutual
def uptoBulk {H : Type} : DataW H → Nat
  | .lit (.string bytes) => bytes.length + 1
  | .lit _ => 1
  | .nil => 1
  | .ptr d => uptoBulk d + 1
  | .slice elems spare => uptoBulkAll elems + uptoBulkAll spare + 1
  | .agg parts => uptoBulkAll parts + 1
  | .iface _ d => uptoBulk d + 1
  | .map entries => uptoBulkEntries entries + 1
  | .held _ => 1
def uptoBulkAll {H : Type} : List (DataW H) → Nat
  | [] => 0
  | d :: r => uptoBulk d + uptoBulkAll r
def uptoBulkEntries {H : Type} : List (Lit × DataW H) → Nat
  | [] => 0
  | x :: r => uptoBulkEntry x + uptoBulkEntries r
def uptoBulkEntry {H : Type} : Lit × DataW H → Nat
  | (.string bytes, d) => bytes.length + uptoBulk d + 1
  | (_, d) => uptoBulk d + 1
 end
def uptoSmall : (H : Type) → List (DataW H) → Bool := fun _ ds => decide (uptoBulkAll ds ≤ 1048576)
def OpenSpec.upto (s : _root_.Go.ChangeSpec) : _root_.Go.OpenSpec := { _root_.Go.OpenSpec.ofChange s with cond := some uptoSmall }

/-- 'gimletlaw10.SheetTyped', WHERE WHAT IT READS IS OF BULK AT MOST 1048576: true; the input reads as it did. -/
def sheetTypedUptoRow : OpenClaim := { program := "ythlmgoagnfkhdaagreat", sum := "a80c5f4293a7a224b69b717a9c944f8efb2df97599e8920c7b33324414b2feca", func := "gimlet/gimletlaw10.SheetTyped", spec := "sheetTyped", unfollowed := true, recurses := true, apart := false, narrowed := true }
def SheetTypedUptoSaid : Prop := sheetTypedUptoRow.holds Tryz.pinned (OpenSpec.upto sheetTypedSpec)

/-- 'gimletlaw10.SheetAgain', WHERE WHAT IT READS IS OF BULK AT MOST 1048576: true; the input reads as it did. -/
def sheetAgainUptoRow : OpenClaim := { program := "ythlmgoagnfkhdaagreat", sum := "a80c5f4293a7a224b69b717a9c944f8efb2df97599e8920c7b33324414b2feca", func := "gimlet/gimletlaw10.SheetAgain", spec := "sheetAgain", unfollowed := true, recurses := true, apart := false, narrowed := true }
def SheetAgainUptoSaid : Prop := sheetAgainUptoRow.holds Tryz.pinned (OpenSpec.upto sheetAgainSpec)

/-- 'gimletlaw10.SheetErased', WHERE WHAT IT READS IS OF BULK AT MOST 1048576: true; the input reads as it did. -/
def sheetErasedUptoRow : OpenClaim := { program := "ythlmgoagnfkhdaagreat", sum := "a80c5f4293a7a224b69b717a9c944f8efb2df97599e8920c7b33324414b2feca", func := "gimlet/gimletlaw10.SheetErased", spec := "sheetErased", unfollowed := true, recurses := true, apart := false, narrowed := true }
def SheetErasedUptoSaid : Prop := sheetErasedUptoRow.holds Tryz.pinned (OpenSpec.upto sheetErasedSpec)

/-- 'gimletlaw10.SheetRefuses', WHERE WHAT IT READS IS OF BULK AT MOST 1048576: true; the input reads as it did. -/
def sheetRefusesUptoRow : OpenClaim := { program := "ythlmgoagnfkhdaagreat", sum := "a80c5f4293a7a224b69b717a9c944f8efb2df97599e8920c7b33324414b2feca", func := "gimlet/gimletlaw10.SheetRefuses", spec := "sheetRefuses", unfollowed := true, recurses := true, apart := false, narrowed := true }
def SheetRefusesUptoSaid : Prop := sheetRefusesUptoRow.holds Tryz.pinned (OpenSpec.upto sheetRefusesSpec)

/-- 'gimletlaw10.SheetDice', WHERE WHAT IT READS IS OF BULK AT MOST 1048576: true; the input reads as it did. -/
def sheetDiceUptoRow : OpenClaim := { program := "ythlmgoagnfkhdaagreat", sum := "a80c5f4293a7a224b69b717a9c944f8efb2df97599e8920c7b33324414b2feca", func := "gimlet/gimletlaw10.SheetDice", spec := "sheetDice", unfollowed := true, recurses := true, apart := false, narrowed := true }
def SheetDiceUptoSaid : Prop := sheetDiceUptoRow.holds Tryz.pinned (OpenSpec.upto sheetDiceSpec)

/-- 'gimletlaw10.SheetBack', WHERE WHAT IT READS IS OF BULK AT MOST 1048576: true; the input reads as it did. -/
def sheetBackUptoRow : OpenClaim := { program := "ythlmgoagnfkhdaagreat", sum := "a80c5f4293a7a224b69b717a9c944f8efb2df97599e8920c7b33324414b2feca", func := "gimlet/gimletlaw10.SheetBack", spec := "sheetBack", unfollowed := true, recurses := true, apart := false, narrowed := true }
def SheetBackUptoSaid : Prop := sheetBackUptoRow.holds Tryz.pinned (OpenSpec.upto sheetBackSpec)

/-- 'gimletlaw10.SheetTells', WHERE WHAT IT READS IS OF BULK AT MOST 1048576: true; the input reads as it did. -/
def sheetTellsUptoRow : OpenClaim := { program := "ythlmgoagnfkhdaagreat", sum := "a80c5f4293a7a224b69b717a9c944f8efb2df97599e8920c7b33324414b2feca", func := "gimlet/gimletlaw10.SheetTells", spec := "sheetTells", unfollowed := true, recurses := true, apart := false, narrowed := true }
def SheetTellsUptoSaid : Prop := sheetTellsUptoRow.holds Tryz.pinned (OpenSpec.upto sheetTellsSpec)

/-- 'gimletlaw10.SheetMarks', WHERE WHAT IT READS IS OF BULK AT MOST 1048576: true; the input reads as it did. -/
def sheetMarksUptoRow : OpenClaim := { program := "ythlmgoagnfkhdaagreat", sum := "a80c5f4293a7a224b69b717a9c944f8efb2df97599e8920c7b33324414b2feca", func := "gimlet/gimletlaw10.SheetMarks", spec := "sheetMarks", inPlace := ["maps.clone"], unfollowed := true, recurses := true, apart := false, narrowed := true }
def SheetMarksUptoSaid : Prop := sheetMarksUptoRow.holds Tryz.pinned (OpenSpec.upto sheetMarksSpec)

end Rows
end Go.Proofs.YthlmgoagnfkhdaaGreat

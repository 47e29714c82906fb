/-
  No cell of these rows narrows 'for every input' (looked for: loops, veiled, ifaces, maps, wideKeys, modest, calm, conditions, laid).
  DERIVED. THE GIVEN ROWS OF THIS SEAT. 19 by the template 'for every input the law returns true; each argument reads behind the call as it read before'; 0 by the template 'total and deterministic' (their statements: YtbcjlbapgidhiaaTotals.lean).
  GIVEN WITH THE SEED: the statements are not yours to turn. If you find one false, say at which input.
  Laid BY PROGRAM, IN A SANDBOX (cutbox-rows.mjs): the forced cells as the released guide's own fill.sh prints them over the translation cf281d8593c7e771… (all of the seat's roots in one cut). By AI agents, Wed Nov 11 2026. No macro, syntax, notation, axiom, sorry.
-/
import Derived.Test.YtbcjlbapgidhiaaChecked
import GoSem.Claim
import GoSem.ClaimJoined
import GoSem.ClaimMapViews
import Derived.JoinedTies
import Derived.KernelRfl
namespace Go.Proofs.Ytbcjlbapgidhiaa
/- THE CELL 'sum', in the pinned program and in every row, IS THE sha256 OF THE DUMP (.gsa) THAT YtbcjlbapgidhiaaProg.lean LOADS. Nothing in Lean hashes anything: it is a label: what it is worth is what the hold of that sum in a sandbox is worth. -/
noncomputable def Try.pinned : Pinned := { name := "ytbcjlbapgidhiaa", sum := "cf281d8593c7e771c4c7cc1f2a68123abffaf6648268c3801ff4d3277ea424e1", checked := Try.checked }
namespace Rows
def none {H : Type} : Left H := { results := [], args := [] }

/-- 'gimletlaw3.RopeParts': WHATEVER THE INPUT: true; the input reads as it did. -/
def ropePartsSpec : ChangeSpec := { name := "ropeParts", fn := fun _ => fun
  | [d1, d2, d3, d4] => { results := [.lit (.bool true)], args := [d1, d2, d3, d4] }
  | _ => none }
def ropePartsRow : OpenClaim := { program := "ytbcjlbapgidhiaa", sum := "cf281d8593c7e771c4c7cc1f2a68123abffaf6648268c3801ff4d3277ea424e1", func := "gimlet/gimletlaw3.RopeParts", spec := "ropeParts", recurses := true, apart := false }
def RopePartsSaid : Prop := ropePartsRow.holds Try.pinned (OpenSpec.ofChange ropePartsSpec)

/-- ITS FALSE NEIGHBOUR: 'it returns false'. Refute it at one input. -/
def ropePartsWrong : ChangeSpec := { name := "ropeParts", fn := fun _ => fun
  | [d1, d2, d3, d4] => { results := [.lit (.bool false)], args := [d1, d2, d3, d4] }
  | _ => none }
def RopePartsWrongFalsely : Prop := ropePartsRow.holds Try.pinned (OpenSpec.ofChange ropePartsWrong)

/-- 'gimletlaw3.RopeOrder': WHATEVER THE INPUT: true; the input reads as it did. -/
def ropeOrderSpec : ChangeSpec := { name := "ropeOrder", fn := fun _ => fun
  | [d1, d2, d3, d4, d5] => { results := [.lit (.bool true)], args := [d1, d2, d3, d4, d5] }
  | _ => none }
def ropeOrderRow : OpenClaim := { program := "ytbcjlbapgidhiaa", sum := "cf281d8593c7e771c4c7cc1f2a68123abffaf6648268c3801ff4d3277ea424e1", func := "gimlet/gimletlaw3.RopeOrder", spec := "ropeOrder", recurses := true, apart := false }
def RopeOrderSaid : Prop := ropeOrderRow.holds Try.pinned (OpenSpec.ofChange ropeOrderSpec)

/-- ITS FALSE NEIGHBOUR: 'it returns false'. Refute it at one input. -/
def ropeOrderWrong : ChangeSpec := { name := "ropeOrder", fn := fun _ => fun
  | [d1, d2, d3, d4, d5] => { results := [.lit (.bool false)], args := [d1, d2, d3, d4, d5] }
  | _ => none }
def RopeOrderWrongFalsely : Prop := ropeOrderRow.holds Try.pinned (OpenSpec.ofChange ropeOrderWrong)

/-- 'gimletlaw3.RopeSize': WHATEVER THE INPUT: true; the input reads as it did. -/
def ropeSizeSpec : ChangeSpec := { name := "ropeSize", fn := fun _ => fun
  | [d1, d2] => { results := [.lit (.bool true)], args := [d1, d2] }
  | _ => none }
def ropeSizeRow : OpenClaim := { program := "ytbcjlbapgidhiaa", sum := "cf281d8593c7e771c4c7cc1f2a68123abffaf6648268c3801ff4d3277ea424e1", func := "gimlet/gimletlaw3.RopeSize", spec := "ropeSize", recurses := true, apart := false }
def RopeSizeSaid : Prop := ropeSizeRow.holds Try.pinned (OpenSpec.ofChange ropeSizeSpec)

/-- ITS FALSE NEIGHBOUR: 'it returns false'. Refute it at one input. -/
def ropeSizeWrong : ChangeSpec := { name := "ropeSize", fn := fun _ => fun
  | [d1, d2] => { results := [.lit (.bool false)], args := [d1, d2] }
  | _ => none }
def RopeSizeWrongFalsely : Prop := ropeSizeRow.holds Try.pinned (OpenSpec.ofChange ropeSizeWrong)

/-- 'gimletlaw3.RopeTwin': WHATEVER THE INPUT: true; the input reads as it did. -/
def ropeTwinSpec : ChangeSpec := { name := "ropeTwin", fn := fun _ => fun
  | [d1, d2, d3] => { results := [.lit (.bool true)], args := [d1, d2, d3] }
  | _ => none }
def ropeTwinRow : OpenClaim := { program := "ytbcjlbapgidhiaa", sum := "cf281d8593c7e771c4c7cc1f2a68123abffaf6648268c3801ff4d3277ea424e1", func := "gimlet/gimletlaw3.RopeTwin", spec := "ropeTwin", recurses := true, apart := false }
def RopeTwinSaid : Prop := ropeTwinRow.holds Try.pinned (OpenSpec.ofChange ropeTwinSpec)

/-- ITS FALSE NEIGHBOUR: 'it returns false'. Refute it at one input. -/
def ropeTwinWrong : ChangeSpec := { name := "ropeTwin", fn := fun _ => fun
  | [d1, d2, d3] => { results := [.lit (.bool false)], args := [d1, d2, d3] }
  | _ => none }
def RopeTwinWrongFalsely : Prop := ropeTwinRow.holds Try.pinned (OpenSpec.ofChange ropeTwinWrong)

/-- 'gimletlaw3.RopeRefuses': WHATEVER THE INPUT: true; the input reads as it did. -/
def ropeRefusesSpec : ChangeSpec := { name := "ropeRefuses", fn := fun _ => fun
  | [d1, d2, d3] => { results := [.lit (.bool true)], args := [d1, d2, d3] }
  | _ => none }
def ropeRefusesRow : OpenClaim := { program := "ytbcjlbapgidhiaa", sum := "cf281d8593c7e771c4c7cc1f2a68123abffaf6648268c3801ff4d3277ea424e1", func := "gimlet/gimletlaw3.RopeRefuses", spec := "ropeRefuses", recurses := true, apart := false }
def RopeRefusesSaid : Prop := ropeRefusesRow.holds Try.pinned (OpenSpec.ofChange ropeRefusesSpec)

/-- ITS FALSE NEIGHBOUR: 'it returns false'. Refute it at one input. -/
def ropeRefusesWrong : ChangeSpec := { name := "ropeRefuses", fn := fun _ => fun
  | [d1, d2, d3] => { results := [.lit (.bool false)], args := [d1, d2, d3] }
  | _ => none }
def RopeRefusesWrongFalsely : Prop := ropeRefusesRow.holds Try.pinned (OpenSpec.ofChange ropeRefusesWrong)

/-- 'gimletlaw3.RopeDice': WHATEVER THE INPUT: true; the input reads as it did. -/
def ropeDiceSpec : ChangeSpec := { name := "ropeDice", fn := fun _ => fun
  | [d1, d2, d3, d4] => { results := [.lit (.bool true)], args := [d1, d2, d3, d4] }
  | _ => none }
def ropeDiceRow : OpenClaim := { program := "ytbcjlbapgidhiaa", sum := "cf281d8593c7e771c4c7cc1f2a68123abffaf6648268c3801ff4d3277ea424e1", func := "gimlet/gimletlaw3.RopeDice", spec := "ropeDice", recurses := true, apart := false }
def RopeDiceSaid : Prop := ropeDiceRow.holds Try.pinned (OpenSpec.ofChange ropeDiceSpec)

/-- ITS FALSE NEIGHBOUR: 'it returns false'. Refute it at one input. -/
def ropeDiceWrong : ChangeSpec := { name := "ropeDice", fn := fun _ => fun
  | [d1, d2, d3, d4] => { results := [.lit (.bool false)], args := [d1, d2, d3, d4] }
  | _ => none }
def RopeDiceWrongFalsely : Prop := ropeDiceRow.holds Try.pinned (OpenSpec.ofChange ropeDiceWrong)

/-- 'gimletlaw4.LinesTell': WHATEVER THE INPUT: true; the input reads as it did. -/
def linesTellSpec : ChangeSpec := { name := "linesTell", fn := fun _ => fun
  | [d1, d2, d3] => { results := [.lit (.bool true)], args := [d1, d2, d3] }
  | _ => none }
def linesTellRow : OpenClaim := { program := "ytbcjlbapgidhiaa", sum := "cf281d8593c7e771c4c7cc1f2a68123abffaf6648268c3801ff4d3277ea424e1", func := "gimlet/gimletlaw4.LinesTell", spec := "linesTell", recurses := true, apart := false }
def LinesTellSaid : Prop := linesTellRow.holds Try.pinned (OpenSpec.ofChange linesTellSpec)

/-- ITS FALSE NEIGHBOUR: 'it returns false'. Refute it at one input. -/
def linesTellWrong : ChangeSpec := { name := "linesTell", fn := fun _ => fun
  | [d1, d2, d3] => { results := [.lit (.bool false)], args := [d1, d2, d3] }
  | _ => none }
def LinesTellWrongFalsely : Prop := linesTellRow.holds Try.pinned (OpenSpec.ofChange linesTellWrong)

/-- 'gimletlaw4.LinesJoin': WHATEVER THE INPUT: true; the input reads as it did. -/
def linesJoinSpec : ChangeSpec := { name := "linesJoin", fn := fun _ => fun
  | [d] => { results := [.lit (.bool true)], args := [d] }
  | _ => none }
def linesJoinRow : OpenClaim := { program := "ytbcjlbapgidhiaa", sum := "cf281d8593c7e771c4c7cc1f2a68123abffaf6648268c3801ff4d3277ea424e1", func := "gimlet/gimletlaw4.LinesJoin", spec := "linesJoin", recurses := true, apart := false }
def LinesJoinSaid : Prop := linesJoinRow.holds Try.pinned (OpenSpec.ofChange linesJoinSpec)

/-- ITS FALSE NEIGHBOUR: 'it returns false'. Refute it at one input. -/
def linesJoinWrong : ChangeSpec := { name := "linesJoin", fn := fun _ => fun
  | [d] => { results := [.lit (.bool false)], args := [d] }
  | _ => none }
def LinesJoinWrongFalsely : Prop := linesJoinRow.holds Try.pinned (OpenSpec.ofChange linesJoinWrong)

/-- 'gimletlaw4.LinesPut': WHATEVER THE INPUT: true; the input reads as it did. -/
def linesPutSpec : ChangeSpec := { name := "linesPut", fn := fun _ => fun
  | [d1, d2, d3] => { results := [.lit (.bool true)], args := [d1, d2, d3] }
  | _ => none }
def linesPutRow : OpenClaim := { program := "ytbcjlbapgidhiaa", sum := "cf281d8593c7e771c4c7cc1f2a68123abffaf6648268c3801ff4d3277ea424e1", func := "gimlet/gimletlaw4.LinesPut", spec := "linesPut", recurses := true, apart := false }
def LinesPutSaid : Prop := linesPutRow.holds Try.pinned (OpenSpec.ofChange linesPutSpec)

/-- ITS FALSE NEIGHBOUR: 'it returns false'. Refute it at one input. -/
def linesPutWrong : ChangeSpec := { name := "linesPut", fn := fun _ => fun
  | [d1, d2, d3] => { results := [.lit (.bool false)], args := [d1, d2, d3] }
  | _ => none }
def LinesPutWrongFalsely : Prop := linesPutRow.holds Try.pinned (OpenSpec.ofChange linesPutWrong)

/-- 'gimletlaw3.RopeTells': WHATEVER THE INPUT: true; the input reads as it did. -/
def ropeTellsSpec : ChangeSpec := { name := "ropeTells", fn := fun _ => fun
  | [d1, d2, d3] => { results := [.lit (.bool true)], args := [d1, d2, d3] }
  | _ => none }
def ropeTellsRow : OpenClaim := { program := "ytbcjlbapgidhiaa", sum := "cf281d8593c7e771c4c7cc1f2a68123abffaf6648268c3801ff4d3277ea424e1", func := "gimlet/gimletlaw3.RopeTells", spec := "ropeTells", recurses := true, apart := false }
def RopeTellsSaid : Prop := ropeTellsRow.holds Try.pinned (OpenSpec.ofChange ropeTellsSpec)

/-- ITS FALSE NEIGHBOUR: 'it returns false'. Refute it at one input. -/
def ropeTellsWrong : ChangeSpec := { name := "ropeTells", fn := fun _ => fun
  | [d1, d2, d3] => { results := [.lit (.bool false)], args := [d1, d2, d3] }
  | _ => none }
def RopeTellsWrongFalsely : Prop := ropeTellsRow.holds Try.pinned (OpenSpec.ofChange ropeTellsWrong)

/-- 'gimletlaw3.RopePieces': WHATEVER THE INPUT: true; the input reads as it did. -/
def ropePiecesSpec : ChangeSpec := { name := "ropePieces", fn := fun _ => fun
  | [d1, d2, d3] => { results := [.lit (.bool true)], args := [d1, d2, d3] }
  | _ => none }
def ropePiecesRow : OpenClaim := { program := "ytbcjlbapgidhiaa", sum := "cf281d8593c7e771c4c7cc1f2a68123abffaf6648268c3801ff4d3277ea424e1", func := "gimlet/gimletlaw3.RopePieces", spec := "ropePieces", recurses := true, apart := false }
def RopePiecesSaid : Prop := ropePiecesRow.holds Try.pinned (OpenSpec.ofChange ropePiecesSpec)

/-- ITS FALSE NEIGHBOUR: 'it returns false'. Refute it at one input. -/
def ropePiecesWrong : ChangeSpec := { name := "ropePieces", fn := fun _ => fun
  | [d1, d2, d3] => { results := [.lit (.bool false)], args := [d1, d2, d3] }
  | _ => none }
def RopePiecesWrongFalsely : Prop := ropePiecesRow.holds Try.pinned (OpenSpec.ofChange ropePiecesWrong)

/-- 'gimletlaw3.RopeFew': WHATEVER THE INPUT: true; the input reads as it did. -/
def ropeFewSpec : ChangeSpec := { name := "ropeFew", fn := fun _ => fun
  | [d1, d2] => { results := [.lit (.bool true)], args := [d1, d2] }
  | _ => none }
def ropeFewRow : OpenClaim := { program := "ytbcjlbapgidhiaa", sum := "cf281d8593c7e771c4c7cc1f2a68123abffaf6648268c3801ff4d3277ea424e1", func := "gimlet/gimletlaw3.RopeFew", spec := "ropeFew", recurses := true, apart := false }
def RopeFewSaid : Prop := ropeFewRow.holds Try.pinned (OpenSpec.ofChange ropeFewSpec)

/-- ITS FALSE NEIGHBOUR: 'it returns false'. Refute it at one input. -/
def ropeFewWrong : ChangeSpec := { name := "ropeFew", fn := fun _ => fun
  | [d1, d2] => { results := [.lit (.bool false)], args := [d1, d2] }
  | _ => none }
def RopeFewWrongFalsely : Prop := ropeFewRow.holds Try.pinned (OpenSpec.ofChange ropeFewWrong)

/-- 'gimletlaw3.RopeNil': WHATEVER THE INPUT: true; the input reads as it did. -/
def ropeNilSpec : ChangeSpec := { name := "ropeNil", fn := fun _ => fun
  | [d1, d2, d3] => { results := [.lit (.bool true)], args := [d1, d2, d3] }
  | _ => none }
def ropeNilRow : OpenClaim := { program := "ytbcjlbapgidhiaa", sum := "cf281d8593c7e771c4c7cc1f2a68123abffaf6648268c3801ff4d3277ea424e1", func := "gimlet/gimletlaw3.RopeNil", spec := "ropeNil", recurses := true, apart := false }
def RopeNilSaid : Prop := ropeNilRow.holds Try.pinned (OpenSpec.ofChange ropeNilSpec)

/-- ITS FALSE NEIGHBOUR: 'it returns false'. Refute it at one input. -/
def ropeNilWrong : ChangeSpec := { name := "ropeNil", fn := fun _ => fun
  | [d1, d2, d3] => { results := [.lit (.bool false)], args := [d1, d2, d3] }
  | _ => none }
def RopeNilWrongFalsely : Prop := ropeNilRow.holds Try.pinned (OpenSpec.ofChange ropeNilWrong)

/-- 'gimletlaw3.RopeBack': WHATEVER THE INPUT: true; the input reads as it did. -/
def ropeBackSpec : ChangeSpec := { name := "ropeBack", fn := fun _ => fun
  | [d1, d2, d3, d4] => { results := [.lit (.bool true)], args := [d1, d2, d3, d4] }
  | _ => none }
def ropeBackRow : OpenClaim := { program := "ytbcjlbapgidhiaa", sum := "cf281d8593c7e771c4c7cc1f2a68123abffaf6648268c3801ff4d3277ea424e1", func := "gimlet/gimletlaw3.RopeBack", spec := "ropeBack", recurses := true, apart := false }
def RopeBackSaid : Prop := ropeBackRow.holds Try.pinned (OpenSpec.ofChange ropeBackSpec)

/-- ITS FALSE NEIGHBOUR: 'it returns false'. Refute it at one input. -/
def ropeBackWrong : ChangeSpec := { name := "ropeBack", fn := fun _ => fun
  | [d1, d2, d3, d4] => { results := [.lit (.bool false)], args := [d1, d2, d3, d4] }
  | _ => none }
def RopeBackWrongFalsely : Prop := ropeBackRow.holds Try.pinned (OpenSpec.ofChange ropeBackWrong)

/-- 'gimletlaw4.LinesPlace': WHATEVER THE INPUT: true; the input reads as it did. -/
def linesPlaceSpec : ChangeSpec := { name := "linesPlace", fn := fun _ => fun
  | [d1, d2, d3, d4, d5] => { results := [.lit (.bool true)], args := [d1, d2, d3, d4, d5] }
  | _ => none }
def linesPlaceRow : OpenClaim := { program := "ytbcjlbapgidhiaa", sum := "cf281d8593c7e771c4c7cc1f2a68123abffaf6648268c3801ff4d3277ea424e1", func := "gimlet/gimletlaw4.LinesPlace", spec := "linesPlace", recurses := true, apart := false }
def LinesPlaceSaid : Prop := linesPlaceRow.holds Try.pinned (OpenSpec.ofChange linesPlaceSpec)

/-- ITS FALSE NEIGHBOUR: 'it returns false'. Refute it at one input. -/
def linesPlaceWrong : ChangeSpec := { name := "linesPlace", fn := fun _ => fun
  | [d1, d2, d3, d4, d5] => { results := [.lit (.bool false)], args := [d1, d2, d3, d4, d5] }
  | _ => none }
def LinesPlaceWrongFalsely : Prop := linesPlaceRow.holds Try.pinned (OpenSpec.ofChange linesPlaceWrong)

/-- 'gimletlaw4.LinesBack': WHATEVER THE INPUT: true; the input reads as it did. -/
def linesBackSpec : ChangeSpec := { name := "linesBack", fn := fun _ => fun
  | [d1, d2, d3] => { results := [.lit (.bool true)], args := [d1, d2, d3] }
  | _ => none }
def linesBackRow : OpenClaim := { program := "ytbcjlbapgidhiaa", sum := "cf281d8593c7e771c4c7cc1f2a68123abffaf6648268c3801ff4d3277ea424e1", func := "gimlet/gimletlaw4.LinesBack", spec := "linesBack", recurses := true, apart := false }
def LinesBackSaid : Prop := linesBackRow.holds Try.pinned (OpenSpec.ofChange linesBackSpec)

/-- ITS FALSE NEIGHBOUR: 'it returns false'. Refute it at one input. -/
def linesBackWrong : ChangeSpec := { name := "linesBack", fn := fun _ => fun
  | [d1, d2, d3] => { results := [.lit (.bool false)], args := [d1, d2, d3] }
  | _ => none }
def LinesBackWrongFalsely : Prop := linesBackRow.holds Try.pinned (OpenSpec.ofChange linesBackWrong)

/-- 'gimletlaw4.LinesCols': WHATEVER THE INPUT: true; the input reads as it did. -/
def linesColsSpec : ChangeSpec := { name := "linesCols", fn := fun _ => fun
  | [d1, d2] => { results := [.lit (.bool true)], args := [d1, d2] }
  | _ => none }
def linesColsRow : OpenClaim := { program := "ytbcjlbapgidhiaa", sum := "cf281d8593c7e771c4c7cc1f2a68123abffaf6648268c3801ff4d3277ea424e1", func := "gimlet/gimletlaw4.LinesCols", spec := "linesCols", recurses := true, apart := false }
def LinesColsSaid : Prop := linesColsRow.holds Try.pinned (OpenSpec.ofChange linesColsSpec)

/-- ITS FALSE NEIGHBOUR: 'it returns false'. Refute it at one input. -/
def linesColsWrong : ChangeSpec := { name := "linesCols", fn := fun _ => fun
  | [d1, d2] => { results := [.lit (.bool false)], args := [d1, d2] }
  | _ => none }
def LinesColsWrongFalsely : Prop := linesColsRow.holds Try.pinned (OpenSpec.ofChange linesColsWrong)

/-- 'gimletlaw4.LinesNil': WHATEVER THE INPUT: true; the input reads as it did. -/
def linesNilSpec : ChangeSpec := { name := "linesNil", fn := fun _ => fun
  | [d1, d2, d3] => { results := [.lit (.bool true)], args := [d1, d2, d3] }
  | _ => none }
def linesNilRow : OpenClaim := { program := "ytbcjlbapgidhiaa", sum := "cf281d8593c7e771c4c7cc1f2a68123abffaf6648268c3801ff4d3277ea424e1", func := "gimlet/gimletlaw4.LinesNil", spec := "linesNil", recurses := true, apart := false }
def LinesNilSaid : Prop := linesNilRow.holds Try.pinned (OpenSpec.ofChange linesNilSpec)

/-- ITS FALSE NEIGHBOUR: 'it returns false'. Refute it at one input. -/
def linesNilWrong : ChangeSpec := { name := "linesNil", fn := fun _ => fun
  | [d1, d2, d3] => { results := [.lit (.bool false)], args := [d1, d2, d3] }
  | _ => none }
def LinesNilWrongFalsely : Prop := linesNilRow.holds Try.pinned (OpenSpec.ofChange linesNilWrong)

/-- 'gimletlaw4.LinesRope': WHATEVER THE INPUT: true; the input reads as it did. -/
def linesRopeSpec : ChangeSpec := { name := "linesRope", fn := fun _ => fun
  | [d1, d2, d3] => { results := [.lit (.bool true)], args := [d1, d2, d3] }
  | _ => none }
def linesRopeRow : OpenClaim := { program := "ytbcjlbapgidhiaa", sum := "cf281d8593c7e771c4c7cc1f2a68123abffaf6648268c3801ff4d3277ea424e1", func := "gimlet/gimletlaw4.LinesRope", spec := "linesRope", recurses := true, apart := false }
def LinesRopeSaid : Prop := linesRopeRow.holds Try.pinned (OpenSpec.ofChange linesRopeSpec)

/-- ITS FALSE NEIGHBOUR: 'it returns false'. Refute it at one input. -/
def linesRopeWrong : ChangeSpec := { name := "linesRope", fn := fun _ => fun
  | [d1, d2, d3] => { results := [.lit (.bool false)], args := [d1, d2, d3] }
  | _ => none }
def LinesRopeWrongFalsely : Prop := linesRopeRow.holds Try.pinned (OpenSpec.ofChange linesRopeWrong)

/- THE SECOND FORM. 'bulk': how many values and letters a reading holds, each counted each time it is reached (what is shared counts as often as it is met; a slice's spare places count too). A statement '..UptoSaid' is the law's where the arguments, and the package variables that the reading takes, are together of bulk at most 1048576: NARROWER than '..Said'. Prove '..Said' where nothing that the law and all that it calls make is longer than what came in: it says more and counts as full. Else prove '..UptoSaid'. A law counts once. -/
mutual
def uptoBulk {H : Type} : DataW H → Nat
  | .lit (.string bytes) => bytes.length + 1
  | .lit _ => 1
  | .nil => 1
  | .ptr d => uptoBulk d + 1
  | .slice elems spare => uptoBulkAll elems + uptoBulkAll spare + 1
  | .agg parts => uptoBulkAll parts + 1
  | .iface _ d => uptoBulk d + 1
  | .map entries => uptoBulkEntries entries + 1
  | .held _ => 1
def uptoBulkAll {H : Type} : List (DataW H) → Nat
  | [] => 0
  | d :: r => uptoBulk d + uptoBulkAll r
def uptoBulkEntries {H : Type} : List (Lit × DataW H) → Nat
  | [] => 0
  | x :: r => uptoBulkEntry x + uptoBulkEntries r
def uptoBulkEntry {H : Type} : Lit × DataW H → Nat
  | (.string bytes, d) => bytes.length + uptoBulk d + 1
  | (_, d) => uptoBulk d + 1
 end
def uptoSmall : (H : Type) → List (DataW H) → Bool := fun _ ds => decide (uptoBulkAll ds ≤ 1048576)
def OpenSpec.upto (s : _root_.Go.ChangeSpec) : _root_.Go.OpenSpec := { _root_.Go.OpenSpec.ofChange s with cond := some uptoSmall }

/-- 'gimletlaw3.RopeParts', WHERE WHAT IT READS IS OF BULK AT MOST 1048576: true; the input reads as it did. -/
def ropePartsUptoRow : OpenClaim := { program := "ytbcjlbapgidhiaa", sum := "cf281d8593c7e771c4c7cc1f2a68123abffaf6648268c3801ff4d3277ea424e1", func := "gimlet/gimletlaw3.RopeParts", spec := "ropeParts", recurses := true, apart := false, narrowed := true }
def RopePartsUptoSaid : Prop := ropePartsUptoRow.holds Try.pinned (OpenSpec.upto ropePartsSpec)

/-- 'gimletlaw3.RopeOrder', WHERE WHAT IT READS IS OF BULK AT MOST 1048576: true; the input reads as it did. -/
def ropeOrderUptoRow : OpenClaim := { program := "ytbcjlbapgidhiaa", sum := "cf281d8593c7e771c4c7cc1f2a68123abffaf6648268c3801ff4d3277ea424e1", func := "gimlet/gimletlaw3.RopeOrder", spec := "ropeOrder", recurses := true, apart := false, narrowed := true }
def RopeOrderUptoSaid : Prop := ropeOrderUptoRow.holds Try.pinned (OpenSpec.upto ropeOrderSpec)

/-- 'gimletlaw3.RopeSize', WHERE WHAT IT READS IS OF BULK AT MOST 1048576: true; the input reads as it did. -/
def ropeSizeUptoRow : OpenClaim := { program := "ytbcjlbapgidhiaa", sum := "cf281d8593c7e771c4c7cc1f2a68123abffaf6648268c3801ff4d3277ea424e1", func := "gimlet/gimletlaw3.RopeSize", spec := "ropeSize", recurses := true, apart := false, narrowed := true }
def RopeSizeUptoSaid : Prop := ropeSizeUptoRow.holds Try.pinned (OpenSpec.upto ropeSizeSpec)

/-- 'gimletlaw3.RopeTwin', WHERE WHAT IT READS IS OF BULK AT MOST 1048576: true; the input reads as it did. -/
def ropeTwinUptoRow : OpenClaim := { program := "ytbcjlbapgidhiaa", sum := "cf281d8593c7e771c4c7cc1f2a68123abffaf6648268c3801ff4d3277ea424e1", func := "gimlet/gimletlaw3.RopeTwin", spec := "ropeTwin", recurses := true, apart := false, narrowed := true }
def RopeTwinUptoSaid : Prop := ropeTwinUptoRow.holds Try.pinned (OpenSpec.upto ropeTwinSpec)

/-- 'gimletlaw3.RopeRefuses', WHERE WHAT IT READS IS OF BULK AT MOST 1048576: true; the input reads as it did. -/
def ropeRefusesUptoRow : OpenClaim := { program := "ytbcjlbapgidhiaa", sum := "cf281d8593c7e771c4c7cc1f2a68123abffaf6648268c3801ff4d3277ea424e1", func := "gimlet/gimletlaw3.RopeRefuses", spec := "ropeRefuses", recurses := true, apart := false, narrowed := true }
def RopeRefusesUptoSaid : Prop := ropeRefusesUptoRow.holds Try.pinned (OpenSpec.upto ropeRefusesSpec)

/-- 'gimletlaw3.RopeDice', WHERE WHAT IT READS IS OF BULK AT MOST 1048576: true; the input reads as it did. -/
def ropeDiceUptoRow : OpenClaim := { program := "ytbcjlbapgidhiaa", sum := "cf281d8593c7e771c4c7cc1f2a68123abffaf6648268c3801ff4d3277ea424e1", func := "gimlet/gimletlaw3.RopeDice", spec := "ropeDice", recurses := true, apart := false, narrowed := true }
def RopeDiceUptoSaid : Prop := ropeDiceUptoRow.holds Try.pinned (OpenSpec.upto ropeDiceSpec)

/-- 'gimletlaw4.LinesTell', WHERE WHAT IT READS IS OF BULK AT MOST 1048576: true; the input reads as it did. -/
def linesTellUptoRow : OpenClaim := { program := "ytbcjlbapgidhiaa", sum := "cf281d8593c7e771c4c7cc1f2a68123abffaf6648268c3801ff4d3277ea424e1", func := "gimlet/gimletlaw4.LinesTell", spec := "linesTell", recurses := true, apart := false, narrowed := true }
def LinesTellUptoSaid : Prop := linesTellUptoRow.holds Try.pinned (OpenSpec.upto linesTellSpec)

/-- 'gimletlaw4.LinesJoin', WHERE WHAT IT READS IS OF BULK AT MOST 1048576: true; the input reads as it did. -/
def linesJoinUptoRow : OpenClaim := { program := "ytbcjlbapgidhiaa", sum := "cf281d8593c7e771c4c7cc1f2a68123abffaf6648268c3801ff4d3277ea424e1", func := "gimlet/gimletlaw4.LinesJoin", spec := "linesJoin", recurses := true, apart := false, narrowed := true }
def LinesJoinUptoSaid : Prop := linesJoinUptoRow.holds Try.pinned (OpenSpec.upto linesJoinSpec)

/-- 'gimletlaw4.LinesPut', WHERE WHAT IT READS IS OF BULK AT MOST 1048576: true; the input reads as it did. -/
def linesPutUptoRow : OpenClaim := { program := "ytbcjlbapgidhiaa", sum := "cf281d8593c7e771c4c7cc1f2a68123abffaf6648268c3801ff4d3277ea424e1", func := "gimlet/gimletlaw4.LinesPut", spec := "linesPut", recurses := true, apart := false, narrowed := true }
def LinesPutUptoSaid : Prop := linesPutUptoRow.holds Try.pinned (OpenSpec.upto linesPutSpec)

/-- 'gimletlaw3.RopeTells', WHERE WHAT IT READS IS OF BULK AT MOST 1048576: true; the input reads as it did. -/
def ropeTellsUptoRow : OpenClaim := { program := "ytbcjlbapgidhiaa", sum := "cf281d8593c7e771c4c7cc1f2a68123abffaf6648268c3801ff4d3277ea424e1", func := "gimlet/gimletlaw3.RopeTells", spec := "ropeTells", recurses := true, apart := false, narrowed := true }
def RopeTellsUptoSaid : Prop := ropeTellsUptoRow.holds Try.pinned (OpenSpec.upto ropeTellsSpec)

/-- 'gimletlaw3.RopePieces', WHERE WHAT IT READS IS OF BULK AT MOST 1048576: true; the input reads as it did. -/
def ropePiecesUptoRow : OpenClaim := { program := "ytbcjlbapgidhiaa", sum := "cf281d8593c7e771c4c7cc1f2a68123abffaf6648268c3801ff4d3277ea424e1", func := "gimlet/gimletlaw3.RopePieces", spec := "ropePieces", recurses := true, apart := false, narrowed := true }
def RopePiecesUptoSaid : Prop := ropePiecesUptoRow.holds Try.pinned (OpenSpec.upto ropePiecesSpec)

/-- 'gimletlaw3.RopeFew', WHERE WHAT IT READS IS OF BULK AT MOST 1048576: true; the input reads as it did. -/
def ropeFewUptoRow : OpenClaim := { program := "ytbcjlbapgidhiaa", sum := "cf281d8593c7e771c4c7cc1f2a68123abffaf6648268c3801ff4d3277ea424e1", func := "gimlet/gimletlaw3.RopeFew", spec := "ropeFew", recurses := true, apart := false, narrowed := true }
def RopeFewUptoSaid : Prop := ropeFewUptoRow.holds Try.pinned (OpenSpec.upto ropeFewSpec)

/-- 'gimletlaw3.RopeNil', WHERE WHAT IT READS IS OF BULK AT MOST 1048576: true; the input reads as it did. -/
def ropeNilUptoRow : OpenClaim := { program := "ytbcjlbapgidhiaa", sum := "cf281d8593c7e771c4c7cc1f2a68123abffaf6648268c3801ff4d3277ea424e1", func := "gimlet/gimletlaw3.RopeNil", spec := "ropeNil", recurses := true, apart := false, narrowed := true }
def RopeNilUptoSaid : Prop := ropeNilUptoRow.holds Try.pinned (OpenSpec.upto ropeNilSpec)

/-- 'gimletlaw3.RopeBack', WHERE WHAT IT READS IS OF BULK AT MOST 1048576: true; the input reads as it did. -/
def ropeBackUptoRow : OpenClaim := { program := "ytbcjlbapgidhiaa", sum := "cf281d8593c7e771c4c7cc1f2a68123abffaf6648268c3801ff4d3277ea424e1", func := "gimlet/gimletlaw3.RopeBack", spec := "ropeBack", recurses := true, apart := false, narrowed := true }
def RopeBackUptoSaid : Prop := ropeBackUptoRow.holds Try.pinned (OpenSpec.upto ropeBackSpec)

/-- 'gimletlaw4.LinesPlace', WHERE WHAT IT READS IS OF BULK AT MOST 1048576: true; the input reads as it did. -/
def linesPlaceUptoRow : OpenClaim := { program := "ytbcjlbapgidhiaa", sum := "cf281d8593c7e771c4c7cc1f2a68123abffaf6648268c3801ff4d3277ea424e1", func := "gimlet/gimletlaw4.LinesPlace", spec := "linesPlace", recurses := true, apart := false, narrowed := true }
def LinesPlaceUptoSaid : Prop := linesPlaceUptoRow.holds Try.pinned (OpenSpec.upto linesPlaceSpec)

/-- 'gimletlaw4.LinesBack', WHERE WHAT IT READS IS OF BULK AT MOST 1048576: true; the input reads as it did. -/
def linesBackUptoRow : OpenClaim := { program := "ytbcjlbapgidhiaa", sum := "cf281d8593c7e771c4c7cc1f2a68123abffaf6648268c3801ff4d3277ea424e1", func := "gimlet/gimletlaw4.LinesBack", spec := "linesBack", recurses := true, apart := false, narrowed := true }
def LinesBackUptoSaid : Prop := linesBackUptoRow.holds Try.pinned (OpenSpec.upto linesBackSpec)

/-- 'gimletlaw4.LinesCols', WHERE WHAT IT READS IS OF BULK AT MOST 1048576: true; the input reads as it did. -/
def linesColsUptoRow : OpenClaim := { program := "ytbcjlbapgidhiaa", sum := "cf281d8593c7e771c4c7cc1f2a68123abffaf6648268c3801ff4d3277ea424e1", func := "gimlet/gimletlaw4.LinesCols", spec := "linesCols", recurses := true, apart := false, narrowed := true }
def LinesColsUptoSaid : Prop := linesColsUptoRow.holds Try.pinned (OpenSpec.upto linesColsSpec)

/-- 'gimletlaw4.LinesNil', WHERE WHAT IT READS IS OF BULK AT MOST 1048576: true; the input reads as it did. -/
def linesNilUptoRow : OpenClaim := { program := "ytbcjlbapgidhiaa", sum := "cf281d8593c7e771c4c7cc1f2a68123abffaf6648268c3801ff4d3277ea424e1", func := "gimlet/gimletlaw4.LinesNil", spec := "linesNil", recurses := true, apart := false, narrowed := true }
def LinesNilUptoSaid : Prop := linesNilUptoRow.holds Try.pinned (OpenSpec.upto linesNilSpec)

/-- 'gimletlaw4.LinesRope', WHERE WHAT IT READS IS OF BULK AT MOST 1048576: true; the input reads as it did. -/
def linesRopeUptoRow : OpenClaim := { program := "ytbcjlbapgidhiaa", sum := "cf281d8593c7e771c4c7cc1f2a68123abffaf6648268c3801ff4d3277ea424e1", func := "gimlet/gimletlaw4.LinesRope", spec := "linesRope", recurses := true, apart := false, narrowed := true }
def LinesRopeUptoSaid : Prop := linesRopeUptoRow.holds Try.pinned (OpenSpec.upto linesRopeSpec)

end Rows
end Go.Proofs.Ytbcjlbapgidhiaa

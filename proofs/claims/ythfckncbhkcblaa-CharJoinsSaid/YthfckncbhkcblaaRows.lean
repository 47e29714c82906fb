/-
  No cell of these rows narrows 'for every input' (looked for: loops, veiled, ifaces, maps, wideKeys, modest, calm, conditions, laid).
  DERIVED. THE GIVEN ROWS OF THIS SEAT. 8 by the template 'for every input the law returns true; each argument reads behind the call as it read before'; 0 by the template 'total and deterministic' (their statements: YthfckncbhkcblaaTotals.lean).
  GIVEN WITH THE SEED: the statements are not yours to turn. If you find one false, say at which input.
  Laid BY PROGRAM, IN A SANDBOX (cutbox-rows.mjs): the forced cells as the released guide's own fill.sh prints them over the translation ce4ca0535fc34156… (all of the seat's roots in one cut). By AI agents, Wed Nov 11 2026. No macro, syntax, notation, axiom, sorry.
-/
import Derived.Test.YthfckncbhkcblaaChecked
import GoSem.Claim
import GoSem.ClaimJoined
import GoSem.ClaimMapViews
import Derived.JoinedTies
import Derived.KernelRfl
namespace Go.Proofs.Ythfckncbhkcblaa
/- THE CELL 'sum', in the pinned program and in every row, IS THE sha256 OF THE DUMP (.gsa) THAT YthfckncbhkcblaaProg.lean LOADS. Nothing in Lean hashes anything: it is a label: what it is worth is what the hold of that sum in a sandbox is worth. -/
noncomputable def Try.pinned : Pinned := { name := "ythfckncbhkcblaa", sum := "ce4ca0535fc34156febb40d8fab3f8771638e1ccc3f17cf687a2a28ff8bb135a", checked := Try.checked }
namespace Rows
def none {H : Type} : Left H := { results := [], args := [] }

/-- 'gimletlaw1.DiceTells': WHATEVER THE INPUT: true; the input reads as it did. -/
def diceTellsSpec : ChangeSpec := { name := "diceTells", fn := fun _ => fun
  | [d1, d2] => { results := [.lit (.bool true)], args := [d1, d2] }
  | _ => none }
def diceTellsRow : OpenClaim := { program := "ythfckncbhkcblaa", sum := "ce4ca0535fc34156febb40d8fab3f8771638e1ccc3f17cf687a2a28ff8bb135a", func := "gimlet/gimletlaw1.DiceTells", spec := "diceTells", apart := false }
def DiceTellsSaid : Prop := diceTellsRow.holds Try.pinned (OpenSpec.ofChange diceTellsSpec)

/-- ITS FALSE NEIGHBOUR: 'it returns false'. Refute it at one input. -/
def diceTellsWrong : ChangeSpec := { name := "diceTells", fn := fun _ => fun
  | [d1, d2] => { results := [.lit (.bool false)], args := [d1, d2] }
  | _ => none }
def DiceTellsWrongFalsely : Prop := diceTellsRow.holds Try.pinned (OpenSpec.ofChange diceTellsWrong)

/-- 'gimletlaw1.DiceLeft': WHATEVER THE INPUT: true; the input reads as it did. -/
def diceLeftSpec : ChangeSpec := { name := "diceLeft", fn := fun _ => fun
  | [d1, d2] => { results := [.lit (.bool true)], args := [d1, d2] }
  | _ => none }
def diceLeftRow : OpenClaim := { program := "ythfckncbhkcblaa", sum := "ce4ca0535fc34156febb40d8fab3f8771638e1ccc3f17cf687a2a28ff8bb135a", func := "gimlet/gimletlaw1.DiceLeft", spec := "diceLeft", apart := false }
def DiceLeftSaid : Prop := diceLeftRow.holds Try.pinned (OpenSpec.ofChange diceLeftSpec)

/-- ITS FALSE NEIGHBOUR: 'it returns false'. Refute it at one input. -/
def diceLeftWrong : ChangeSpec := { name := "diceLeft", fn := fun _ => fun
  | [d1, d2] => { results := [.lit (.bool false)], args := [d1, d2] }
  | _ => none }
def DiceLeftWrongFalsely : Prop := diceLeftRow.holds Try.pinned (OpenSpec.ofChange diceLeftWrong)

/-- 'gimletlaw1.DiceApart': WHATEVER THE INPUT: true; the input reads as it did. -/
def diceApartSpec : ChangeSpec := { name := "diceApart", fn := fun _ => fun
  | [d1, d2] => { results := [.lit (.bool true)], args := [d1, d2] }
  | _ => none }
def diceApartRow : OpenClaim := { program := "ythfckncbhkcblaa", sum := "ce4ca0535fc34156febb40d8fab3f8771638e1ccc3f17cf687a2a28ff8bb135a", func := "gimlet/gimletlaw1.DiceApart", spec := "diceApart", apart := false }
def DiceApartSaid : Prop := diceApartRow.holds Try.pinned (OpenSpec.ofChange diceApartSpec)

/-- ITS FALSE NEIGHBOUR: 'it returns false'. Refute it at one input. -/
def diceApartWrong : ChangeSpec := { name := "diceApart", fn := fun _ => fun
  | [d1, d2] => { results := [.lit (.bool false)], args := [d1, d2] }
  | _ => none }
def DiceApartWrongFalsely : Prop := diceApartRow.holds Try.pinned (OpenSpec.ofChange diceApartWrong)

/-- 'gimletlaw1.DiceKeeps': WHATEVER THE INPUT: true; the input reads as it did. -/
def diceKeepsSpec : ChangeSpec := { name := "diceKeeps", fn := fun _ => fun
  | [d] => { results := [.lit (.bool true)], args := [d] }
  | _ => none }
def diceKeepsRow : OpenClaim := { program := "ythfckncbhkcblaa", sum := "ce4ca0535fc34156febb40d8fab3f8771638e1ccc3f17cf687a2a28ff8bb135a", func := "gimlet/gimletlaw1.DiceKeeps", spec := "diceKeeps", apart := false }
def DiceKeepsSaid : Prop := diceKeepsRow.holds Try.pinned (OpenSpec.ofChange diceKeepsSpec)

/-- ITS FALSE NEIGHBOUR: 'it returns false'. Refute it at one input. -/
def diceKeepsWrong : ChangeSpec := { name := "diceKeeps", fn := fun _ => fun
  | [d] => { results := [.lit (.bool false)], args := [d] }
  | _ => none }
def DiceKeepsWrongFalsely : Prop := diceKeepsRow.holds Try.pinned (OpenSpec.ofChange diceKeepsWrong)

/-- 'gimletlaw11.CharTells': WHATEVER THE INPUT: true; the input reads as it did. -/
def charTellsSpec : ChangeSpec := { name := "charTells", fn := fun _ => fun
  | [d1, d2] => { results := [.lit (.bool true)], args := [d1, d2] }
  | _ => none }
def charTellsRow : OpenClaim := { program := "ythfckncbhkcblaa", sum := "ce4ca0535fc34156febb40d8fab3f8771638e1ccc3f17cf687a2a28ff8bb135a", func := "gimlet/gimletlaw11.CharTells", spec := "charTells", apart := false }
def CharTellsSaid : Prop := charTellsRow.holds Try.pinned (OpenSpec.ofChange charTellsSpec)

/-- ITS FALSE NEIGHBOUR: 'it returns false'. Refute it at one input. -/
def charTellsWrong : ChangeSpec := { name := "charTells", fn := fun _ => fun
  | [d1, d2] => { results := [.lit (.bool false)], args := [d1, d2] }
  | _ => none }
def CharTellsWrongFalsely : Prop := charTellsRow.holds Try.pinned (OpenSpec.ofChange charTellsWrong)

/-- 'gimletlaw11.CharCut': WHATEVER THE INPUT: true; the input reads as it did. -/
def charCutSpec : ChangeSpec := { name := "charCut", fn := fun _ => fun
  | [d1, d2] => { results := [.lit (.bool true)], args := [d1, d2] }
  | _ => none }
def charCutRow : OpenClaim := { program := "ythfckncbhkcblaa", sum := "ce4ca0535fc34156febb40d8fab3f8771638e1ccc3f17cf687a2a28ff8bb135a", func := "gimlet/gimletlaw11.CharCut", spec := "charCut", apart := false }
def CharCutSaid : Prop := charCutRow.holds Try.pinned (OpenSpec.ofChange charCutSpec)

/-- ITS FALSE NEIGHBOUR: 'it returns false'. Refute it at one input. -/
def charCutWrong : ChangeSpec := { name := "charCut", fn := fun _ => fun
  | [d1, d2] => { results := [.lit (.bool false)], args := [d1, d2] }
  | _ => none }
def CharCutWrongFalsely : Prop := charCutRow.holds Try.pinned (OpenSpec.ofChange charCutWrong)

/-- 'gimletlaw11.CharFold': WHATEVER THE INPUT: true; the input reads as it did. -/
def charFoldSpec : ChangeSpec := { name := "charFold", fn := fun _ => fun
  | [d] => { results := [.lit (.bool true)], args := [d] }
  | _ => none }
def charFoldRow : OpenClaim := { program := "ythfckncbhkcblaa", sum := "ce4ca0535fc34156febb40d8fab3f8771638e1ccc3f17cf687a2a28ff8bb135a", func := "gimlet/gimletlaw11.CharFold", spec := "charFold", apart := false }
def CharFoldSaid : Prop := charFoldRow.holds Try.pinned (OpenSpec.ofChange charFoldSpec)

/-- ITS FALSE NEIGHBOUR: 'it returns false'. Refute it at one input. -/
def charFoldWrong : ChangeSpec := { name := "charFold", fn := fun _ => fun
  | [d] => { results := [.lit (.bool false)], args := [d] }
  | _ => none }
def CharFoldWrongFalsely : Prop := charFoldRow.holds Try.pinned (OpenSpec.ofChange charFoldWrong)

/-- 'gimletlaw11.CharJoins': WHATEVER THE INPUT: true; the input reads as it did. -/
def charJoinsSpec : ChangeSpec := { name := "charJoins", fn := fun _ => fun
  | [d] => { results := [.lit (.bool true)], args := [d] }
  | _ => none }
def charJoinsRow : OpenClaim := { program := "ythfckncbhkcblaa", sum := "ce4ca0535fc34156febb40d8fab3f8771638e1ccc3f17cf687a2a28ff8bb135a", func := "gimlet/gimletlaw11.CharJoins", spec := "charJoins", inPlace := ["internal/abi.NoEscape", "internal/bytealg.MakeNoZero"], apart := false }
def CharJoinsSaid : Prop := charJoinsRow.holds Try.pinned (OpenSpec.ofChange charJoinsSpec)

/-- ITS FALSE NEIGHBOUR: 'it returns false'. Refute it at one input. -/
def charJoinsWrong : ChangeSpec := { name := "charJoins", fn := fun _ => fun
  | [d] => { results := [.lit (.bool false)], args := [d] }
  | _ => none }
def CharJoinsWrongFalsely : Prop := charJoinsRow.holds Try.pinned (OpenSpec.ofChange charJoinsWrong)

/- THE SECOND FORM. 'bulk': how many values and letters a reading holds, each counted each time it is reached (what is shared counts as often as it is met; a slice's spare places count too). A statement '..UptoSaid' is the law's where the arguments, and the package variables that the reading takes, are together of bulk at most 1048576: NARROWER than '..Said'. Prove '..Said' where nothing that the law and all that it calls make is longer than what came in: it says more and counts as full. Else prove '..UptoSaid'. A law counts once. -/
mutual
def uptoBulk {H : Type} : DataW H → Nat
  | .lit (.string bytes) => bytes.length + 1
  | .lit _ => 1
  | .nil => 1
  | .ptr d => uptoBulk d + 1
  | .slice elems spare => uptoBulkAll elems + uptoBulkAll spare + 1
  | .agg parts => uptoBulkAll parts + 1
  | .iface _ d => uptoBulk d + 1
  | .map entries => uptoBulkEntries entries + 1
  | .held _ => 1
def uptoBulkAll {H : Type} : List (DataW H) → Nat
  | [] => 0
  | d :: r => uptoBulk d + uptoBulkAll r
def uptoBulkEntries {H : Type} : List (Lit × DataW H) → Nat
  | [] => 0
  | x :: r => uptoBulkEntry x + uptoBulkEntries r
def uptoBulkEntry {H : Type} : Lit × DataW H → Nat
  | (.string bytes, d) => bytes.length + uptoBulk d + 1
  | (_, d) => uptoBulk d + 1
 end
def uptoSmall : (H : Type) → List (DataW H) → Bool := fun _ ds => decide (uptoBulkAll ds ≤ 1048576)
def OpenSpec.upto (s : _root_.Go.ChangeSpec) : _root_.Go.OpenSpec := { _root_.Go.OpenSpec.ofChange s with cond := some uptoSmall }

/-- 'gimletlaw1.DiceTells', WHERE WHAT IT READS IS OF BULK AT MOST 1048576: true; the input reads as it did. -/
def diceTellsUptoRow : OpenClaim := { program := "ythfckncbhkcblaa", sum := "ce4ca0535fc34156febb40d8fab3f8771638e1ccc3f17cf687a2a28ff8bb135a", func := "gimlet/gimletlaw1.DiceTells", spec := "diceTells", apart := false, narrowed := true }
def DiceTellsUptoSaid : Prop := diceTellsUptoRow.holds Try.pinned (OpenSpec.upto diceTellsSpec)

/-- 'gimletlaw1.DiceLeft', WHERE WHAT IT READS IS OF BULK AT MOST 1048576: true; the input reads as it did. -/
def diceLeftUptoRow : OpenClaim := { program := "ythfckncbhkcblaa", sum := "ce4ca0535fc34156febb40d8fab3f8771638e1ccc3f17cf687a2a28ff8bb135a", func := "gimlet/gimletlaw1.DiceLeft", spec := "diceLeft", apart := false, narrowed := true }
def DiceLeftUptoSaid : Prop := diceLeftUptoRow.holds Try.pinned (OpenSpec.upto diceLeftSpec)

/-- 'gimletlaw1.DiceApart', WHERE WHAT IT READS IS OF BULK AT MOST 1048576: true; the input reads as it did. -/
def diceApartUptoRow : OpenClaim := { program := "ythfckncbhkcblaa", sum := "ce4ca0535fc34156febb40d8fab3f8771638e1ccc3f17cf687a2a28ff8bb135a", func := "gimlet/gimletlaw1.DiceApart", spec := "diceApart", apart := false, narrowed := true }
def DiceApartUptoSaid : Prop := diceApartUptoRow.holds Try.pinned (OpenSpec.upto diceApartSpec)

/-- 'gimletlaw1.DiceKeeps', WHERE WHAT IT READS IS OF BULK AT MOST 1048576: true; the input reads as it did. -/
def diceKeepsUptoRow : OpenClaim := { program := "ythfckncbhkcblaa", sum := "ce4ca0535fc34156febb40d8fab3f8771638e1ccc3f17cf687a2a28ff8bb135a", func := "gimlet/gimletlaw1.DiceKeeps", spec := "diceKeeps", apart := false, narrowed := true }
def DiceKeepsUptoSaid : Prop := diceKeepsUptoRow.holds Try.pinned (OpenSpec.upto diceKeepsSpec)

/-- 'gimletlaw11.CharTells', WHERE WHAT IT READS IS OF BULK AT MOST 1048576: true; the input reads as it did. -/
def charTellsUptoRow : OpenClaim := { program := "ythfckncbhkcblaa", sum := "ce4ca0535fc34156febb40d8fab3f8771638e1ccc3f17cf687a2a28ff8bb135a", func := "gimlet/gimletlaw11.CharTells", spec := "charTells", apart := false, narrowed := true }
def CharTellsUptoSaid : Prop := charTellsUptoRow.holds Try.pinned (OpenSpec.upto charTellsSpec)

/-- 'gimletlaw11.CharCut', WHERE WHAT IT READS IS OF BULK AT MOST 1048576: true; the input reads as it did. -/
def charCutUptoRow : OpenClaim := { program := "ythfckncbhkcblaa", sum := "ce4ca0535fc34156febb40d8fab3f8771638e1ccc3f17cf687a2a28ff8bb135a", func := "gimlet/gimletlaw11.CharCut", spec := "charCut", apart := false, narrowed := true }
def CharCutUptoSaid : Prop := charCutUptoRow.holds Try.pinned (OpenSpec.upto charCutSpec)

/-- 'gimletlaw11.CharFold', WHERE WHAT IT READS IS OF BULK AT MOST 1048576: true; the input reads as it did. -/
def charFoldUptoRow : OpenClaim := { program := "ythfckncbhkcblaa", sum := "ce4ca0535fc34156febb40d8fab3f8771638e1ccc3f17cf687a2a28ff8bb135a", func := "gimlet/gimletlaw11.CharFold", spec := "charFold", apart := false, narrowed := true }
def CharFoldUptoSaid : Prop := charFoldUptoRow.holds Try.pinned (OpenSpec.upto charFoldSpec)

/-- 'gimletlaw11.CharJoins', WHERE WHAT IT READS IS OF BULK AT MOST 1048576: true; the input reads as it did. -/
def charJoinsUptoRow : OpenClaim := { program := "ythfckncbhkcblaa", sum := "ce4ca0535fc34156febb40d8fab3f8771638e1ccc3f17cf687a2a28ff8bb135a", func := "gimlet/gimletlaw11.CharJoins", spec := "charJoins", inPlace := ["internal/abi.NoEscape", "internal/bytealg.MakeNoZero"], apart := false, narrowed := true }
def CharJoinsUptoSaid : Prop := charJoinsUptoRow.holds Try.pinned (OpenSpec.upto charJoinsSpec)

end Rows
end Go.Proofs.Ythfckncbhkcblaa

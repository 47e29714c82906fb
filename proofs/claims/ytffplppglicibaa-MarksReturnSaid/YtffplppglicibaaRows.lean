/-
  No cell of these rows narrows 'for every input' (looked for: loops, veiled, ifaces, maps, wideKeys, modest, calm, conditions, laid).
  DERIVED. THE GIVEN ROWS OF THIS SEAT. 9 by the template 'for every input the law returns true; each argument reads behind the call as it read before'; 0 by the template 'total and deterministic' (their statements: YtffplppglicibaaTotals.lean).
  GIVEN WITH THE SEED: the statements are not yours to turn. If you find one false, say at which input.
  Laid BY PROGRAM, IN A SANDBOX (cutbox-rows.mjs): the forced cells as the released guide's own fill.sh prints them over the translation 0b69cc7492278afe… (all of the seat's roots in one cut). By AI agents, Wed Nov 11 2026. No macro, syntax, notation, axiom, sorry.
-/
import Derived.Test.YtffplppglicibaaChecked
import GoSem.Claim
import GoSem.ClaimJoined
import GoSem.ClaimMapViews
import Derived.JoinedTies
import Derived.KernelRfl
namespace Go.Proofs.Ytffplppglicibaa
/- THE CELL 'sum', in the pinned program and in every row, IS THE sha256 OF THE DUMP (.gsa) THAT YtffplppglicibaaProg.lean LOADS. Nothing in Lean hashes anything: it is a label: what it is worth is what the hold of that sum in a sandbox is worth. -/
noncomputable def Try.pinned : Pinned := { name := "ytffplppglicibaa", sum := "0b69cc7492278afe481e76cedf0e82003c7f4641472ba190c35f6d4ec9230193", checked := Try.checked }
namespace Rows
def none {H : Type} : Left H := { results := [], args := [] }

/-- 'gimletlaw7.MarksTyped': WHATEVER THE INPUT: true; the input reads as it did. -/
def marksTypedSpec : ChangeSpec := { name := "marksTyped", fn := fun _ => fun
  | [d1, d2, d3, d4, d5] => { results := [.lit (.bool true)], args := [d1, d2, d3, d4, d5] }
  | _ => none }
def marksTypedRow : OpenClaim := { program := "ytffplppglicibaa", sum := "0b69cc7492278afe481e76cedf0e82003c7f4641472ba190c35f6d4ec9230193", func := "gimlet/gimletlaw7.MarksTyped", spec := "marksTyped", unfollowed := true, recurses := true, apart := false }
def MarksTypedSaid : Prop := marksTypedRow.holds Try.pinned (OpenSpec.ofChange marksTypedSpec)

/-- ITS FALSE NEIGHBOUR: 'it returns false'. Refute it at one input. -/
def marksTypedWrong : ChangeSpec := { name := "marksTyped", fn := fun _ => fun
  | [d1, d2, d3, d4, d5] => { results := [.lit (.bool false)], args := [d1, d2, d3, d4, d5] }
  | _ => none }
def MarksTypedWrongFalsely : Prop := marksTypedRow.holds Try.pinned (OpenSpec.ofChange marksTypedWrong)

/-- 'gimletlaw7.MarksSingly': WHATEVER THE INPUT: true; the input reads as it did. -/
def marksSinglySpec : ChangeSpec := { name := "marksSingly", fn := fun _ => fun
  | [d1, d2, d3, d4] => { results := [.lit (.bool true)], args := [d1, d2, d3, d4] }
  | _ => none }
def marksSinglyRow : OpenClaim := { program := "ytffplppglicibaa", sum := "0b69cc7492278afe481e76cedf0e82003c7f4641472ba190c35f6d4ec9230193", func := "gimlet/gimletlaw7.MarksSingly", spec := "marksSingly", inPlace := ["maps.clone"], unfollowed := true, recurses := true, apart := false }
def MarksSinglySaid : Prop := marksSinglyRow.holds Try.pinned (OpenSpec.ofChange marksSinglySpec)

/-- ITS FALSE NEIGHBOUR: 'it returns false'. Refute it at one input. -/
def marksSinglyWrong : ChangeSpec := { name := "marksSingly", fn := fun _ => fun
  | [d1, d2, d3, d4] => { results := [.lit (.bool false)], args := [d1, d2, d3, d4] }
  | _ => none }
def MarksSinglyWrongFalsely : Prop := marksSinglyRow.holds Try.pinned (OpenSpec.ofChange marksSinglyWrong)

/-- 'gimletlaw7.MarksWithin': WHATEVER THE INPUT: true; the input reads as it did. -/
def marksWithinSpec : ChangeSpec := { name := "marksWithin", fn := fun _ => fun
  | [d] => { results := [.lit (.bool true)], args := [d] }
  | _ => none }
def marksWithinRow : OpenClaim := { program := "ytffplppglicibaa", sum := "0b69cc7492278afe481e76cedf0e82003c7f4641472ba190c35f6d4ec9230193", func := "gimlet/gimletlaw7.MarksWithin", spec := "marksWithin", unfollowed := true, recurses := true, apart := false }
def MarksWithinSaid : Prop := marksWithinRow.holds Try.pinned (OpenSpec.ofChange marksWithinSpec)

/-- ITS FALSE NEIGHBOUR: 'it returns false'. Refute it at one input. -/
def marksWithinWrong : ChangeSpec := { name := "marksWithin", fn := fun _ => fun
  | [d] => { results := [.lit (.bool false)], args := [d] }
  | _ => none }
def MarksWithinWrongFalsely : Prop := marksWithinRow.holds Try.pinned (OpenSpec.ofChange marksWithinWrong)

/-- 'gimletlaw7.MarksFull': WHATEVER THE INPUT: true; the input reads as it did. -/
def marksFullSpec : ChangeSpec := { name := "marksFull", fn := fun _ => fun
  | [d] => { results := [.lit (.bool true)], args := [d] }
  | _ => none }
def marksFullRow : OpenClaim := { program := "ytffplppglicibaa", sum := "0b69cc7492278afe481e76cedf0e82003c7f4641472ba190c35f6d4ec9230193", func := "gimlet/gimletlaw7.MarksFull", spec := "marksFull", inPlace := ["maps.clone"], unfollowed := true, recurses := true, apart := false }
def MarksFullSaid : Prop := marksFullRow.holds Try.pinned (OpenSpec.ofChange marksFullSpec)

/-- ITS FALSE NEIGHBOUR: 'it returns false'. Refute it at one input. -/
def marksFullWrong : ChangeSpec := { name := "marksFull", fn := fun _ => fun
  | [d] => { results := [.lit (.bool false)], args := [d] }
  | _ => none }
def MarksFullWrongFalsely : Prop := marksFullRow.holds Try.pinned (OpenSpec.ofChange marksFullWrong)

/-- 'gimletlaw7.MarksDrop': WHATEVER THE INPUT: true; the input reads as it did. -/
def marksDropSpec : ChangeSpec := { name := "marksDrop", fn := fun _ => fun
  | [d1, d2] => { results := [.lit (.bool true)], args := [d1, d2] }
  | _ => none }
def marksDropRow : OpenClaim := { program := "ytffplppglicibaa", sum := "0b69cc7492278afe481e76cedf0e82003c7f4641472ba190c35f6d4ec9230193", func := "gimlet/gimletlaw7.MarksDrop", spec := "marksDrop", inPlace := ["maps.clone"], unfollowed := true, recurses := true, apart := false }
def MarksDropSaid : Prop := marksDropRow.holds Try.pinned (OpenSpec.ofChange marksDropSpec)

/-- ITS FALSE NEIGHBOUR: 'it returns false'. Refute it at one input. -/
def marksDropWrong : ChangeSpec := { name := "marksDrop", fn := fun _ => fun
  | [d1, d2] => { results := [.lit (.bool false)], args := [d1, d2] }
  | _ => none }
def MarksDropWrongFalsely : Prop := marksDropRow.holds Try.pinned (OpenSpec.ofChange marksDropWrong)

/-- 'gimletlaw7.MarksTell': WHATEVER THE INPUT: true; the input reads as it did. -/
def marksTellSpec : ChangeSpec := { name := "marksTell", fn := fun _ => fun
  | [d1, d2] => { results := [.lit (.bool true)], args := [d1, d2] }
  | _ => none }
def marksTellRow : OpenClaim := { program := "ytffplppglicibaa", sum := "0b69cc7492278afe481e76cedf0e82003c7f4641472ba190c35f6d4ec9230193", func := "gimlet/gimletlaw7.MarksTell", spec := "marksTell", unfollowed := true, recurses := true, apart := false }
def MarksTellSaid : Prop := marksTellRow.holds Try.pinned (OpenSpec.ofChange marksTellSpec)

/-- ITS FALSE NEIGHBOUR: 'it returns false'. Refute it at one input. -/
def marksTellWrong : ChangeSpec := { name := "marksTell", fn := fun _ => fun
  | [d1, d2] => { results := [.lit (.bool false)], args := [d1, d2] }
  | _ => none }
def MarksTellWrongFalsely : Prop := marksTellRow.holds Try.pinned (OpenSpec.ofChange marksTellWrong)

/-- 'gimletlaw7.MarksKids': WHATEVER THE INPUT: true; the input reads as it did. -/
def marksKidsSpec : ChangeSpec := { name := "marksKids", fn := fun _ => fun
  | [d1, d2] => { results := [.lit (.bool true)], args := [d1, d2] }
  | _ => none }
def marksKidsRow : OpenClaim := { program := "ytffplppglicibaa", sum := "0b69cc7492278afe481e76cedf0e82003c7f4641472ba190c35f6d4ec9230193", func := "gimlet/gimletlaw7.MarksKids", spec := "marksKids", unfollowed := true, recurses := true, apart := false }
def MarksKidsSaid : Prop := marksKidsRow.holds Try.pinned (OpenSpec.ofChange marksKidsSpec)

/-- ITS FALSE NEIGHBOUR: 'it returns false'. Refute it at one input. -/
def marksKidsWrong : ChangeSpec := { name := "marksKids", fn := fun _ => fun
  | [d1, d2] => { results := [.lit (.bool false)], args := [d1, d2] }
  | _ => none }
def MarksKidsWrongFalsely : Prop := marksKidsRow.holds Try.pinned (OpenSpec.ofChange marksKidsWrong)

/-- 'gimletlaw7.MarksReturn': WHATEVER THE INPUT: true; the input reads as it did. -/
def marksReturnSpec : ChangeSpec := { name := "marksReturn", fn := fun _ => fun
  | [d1, d2, d3, d4, d5, d6] => { results := [.lit (.bool true)], args := [d1, d2, d3, d4, d5, d6] }
  | _ => none }
def marksReturnRow : OpenClaim := { program := "ytffplppglicibaa", sum := "0b69cc7492278afe481e76cedf0e82003c7f4641472ba190c35f6d4ec9230193", func := "gimlet/gimletlaw7.MarksReturn", spec := "marksReturn", unfollowed := true, recurses := true, apart := false }
def MarksReturnSaid : Prop := marksReturnRow.holds Try.pinned (OpenSpec.ofChange marksReturnSpec)

/-- ITS FALSE NEIGHBOUR: 'it returns false'. Refute it at one input. -/
def marksReturnWrong : ChangeSpec := { name := "marksReturn", fn := fun _ => fun
  | [d1, d2, d3, d4, d5, d6] => { results := [.lit (.bool false)], args := [d1, d2, d3, d4, d5, d6] }
  | _ => none }
def MarksReturnWrongFalsely : Prop := marksReturnRow.holds Try.pinned (OpenSpec.ofChange marksReturnWrong)

/-- 'gimletlaw7.MarksNil': WHATEVER THE INPUT: true; the input reads as it did. -/
def marksNilSpec : ChangeSpec := { name := "marksNil", fn := fun _ => fun
  | [d1, d2, d3] => { results := [.lit (.bool true)], args := [d1, d2, d3] }
  | _ => none }
def marksNilRow : OpenClaim := { program := "ytffplppglicibaa", sum := "0b69cc7492278afe481e76cedf0e82003c7f4641472ba190c35f6d4ec9230193", func := "gimlet/gimletlaw7.MarksNil", spec := "marksNil", inPlace := ["maps.clone"], unfollowed := true, recurses := true, apart := false }
def MarksNilSaid : Prop := marksNilRow.holds Try.pinned (OpenSpec.ofChange marksNilSpec)

/-- ITS FALSE NEIGHBOUR: 'it returns false'. Refute it at one input. -/
def marksNilWrong : ChangeSpec := { name := "marksNil", fn := fun _ => fun
  | [d1, d2, d3] => { results := [.lit (.bool false)], args := [d1, d2, d3] }
  | _ => none }
def MarksNilWrongFalsely : Prop := marksNilRow.holds Try.pinned (OpenSpec.ofChange marksNilWrong)

/- THE SECOND FORM. 'bulk': how many values and letters a reading holds, each counted each time it is reached (what is shared counts as often as it is met; a slice's spare places count too). A statement '..UptoSaid' is the law's where the arguments, and the package variables that the reading takes, are together of bulk at most 1048576: NARROWER than '..Said'. Prove '..Said' where nothing that the law and all that it calls make is longer than what came in: it says more and counts as full. Else prove '..UptoSaid'. A law counts once. -/
mutual
def uptoBulk {H : Type} : DataW H → Nat
  | .lit (.string bytes) => bytes.length + 1
  | .lit _ => 1
  | .nil => 1
  | .ptr d => uptoBulk d + 1
  | .slice elems spare => uptoBulkAll elems + uptoBulkAll spare + 1
  | .agg parts => uptoBulkAll parts + 1
  | .iface _ d => uptoBulk d + 1
  | .map entries => uptoBulkEntries entries + 1
  | .held _ => 1
def uptoBulkAll {H : Type} : List (DataW H) → Nat
  | [] => 0
  | d :: r => uptoBulk d + uptoBulkAll r
def uptoBulkEntries {H : Type} : List (Lit × DataW H) → Nat
  | [] => 0
  | x :: r => uptoBulkEntry x + uptoBulkEntries r
def uptoBulkEntry {H : Type} : Lit × DataW H → Nat
  | (.string bytes, d) => bytes.length + uptoBulk d + 1
  | (_, d) => uptoBulk d + 1
 end
def uptoSmall : (H : Type) → List (DataW H) → Bool := fun _ ds => decide (uptoBulkAll ds ≤ 1048576)
def OpenSpec.upto (s : _root_.Go.ChangeSpec) : _root_.Go.OpenSpec := { _root_.Go.OpenSpec.ofChange s with cond := some uptoSmall }

/-- 'gimletlaw7.MarksTyped', WHERE WHAT IT READS IS OF BULK AT MOST 1048576: true; the input reads as it did. -/
def marksTypedUptoRow : OpenClaim := { program := "ytffplppglicibaa", sum := "0b69cc7492278afe481e76cedf0e82003c7f4641472ba190c35f6d4ec9230193", func := "gimlet/gimletlaw7.MarksTyped", spec := "marksTyped", unfollowed := true, recurses := true, apart := false, narrowed := true }
def MarksTypedUptoSaid : Prop := marksTypedUptoRow.holds Try.pinned (OpenSpec.upto marksTypedSpec)

/-- 'gimletlaw7.MarksSingly', WHERE WHAT IT READS IS OF BULK AT MOST 1048576: true; the input reads as it did. -/
def marksSinglyUptoRow : OpenClaim := { program := "ytffplppglicibaa", sum := "0b69cc7492278afe481e76cedf0e82003c7f4641472ba190c35f6d4ec9230193", func := "gimlet/gimletlaw7.MarksSingly", spec := "marksSingly", inPlace := ["maps.clone"], unfollowed := true, recurses := true, apart := false, narrowed := true }
def MarksSinglyUptoSaid : Prop := marksSinglyUptoRow.holds Try.pinned (OpenSpec.upto marksSinglySpec)

/-- 'gimletlaw7.MarksWithin', WHERE WHAT IT READS IS OF BULK AT MOST 1048576: true; the input reads as it did. -/
def marksWithinUptoRow : OpenClaim := { program := "ytffplppglicibaa", sum := "0b69cc7492278afe481e76cedf0e82003c7f4641472ba190c35f6d4ec9230193", func := "gimlet/gimletlaw7.MarksWithin", spec := "marksWithin", unfollowed := true, recurses := true, apart := false, narrowed := true }
def MarksWithinUptoSaid : Prop := marksWithinUptoRow.holds Try.pinned (OpenSpec.upto marksWithinSpec)

/-- 'gimletlaw7.MarksFull', WHERE WHAT IT READS IS OF BULK AT MOST 1048576: true; the input reads as it did. -/
def marksFullUptoRow : OpenClaim := { program := "ytffplppglicibaa", sum := "0b69cc7492278afe481e76cedf0e82003c7f4641472ba190c35f6d4ec9230193", func := "gimlet/gimletlaw7.MarksFull", spec := "marksFull", inPlace := ["maps.clone"], unfollowed := true, recurses := true, apart := false, narrowed := true }
def MarksFullUptoSaid : Prop := marksFullUptoRow.holds Try.pinned (OpenSpec.upto marksFullSpec)

/-- 'gimletlaw7.MarksDrop', WHERE WHAT IT READS IS OF BULK AT MOST 1048576: true; the input reads as it did. -/
def marksDropUptoRow : OpenClaim := { program := "ytffplppglicibaa", sum := "0b69cc7492278afe481e76cedf0e82003c7f4641472ba190c35f6d4ec9230193", func := "gimlet/gimletlaw7.MarksDrop", spec := "marksDrop", inPlace := ["maps.clone"], unfollowed := true, recurses := true, apart := false, narrowed := true }
def MarksDropUptoSaid : Prop := marksDropUptoRow.holds Try.pinned (OpenSpec.upto marksDropSpec)

/-- 'gimletlaw7.MarksTell', WHERE WHAT IT READS IS OF BULK AT MOST 1048576: true; the input reads as it did. -/
def marksTellUptoRow : OpenClaim := { program := "ytffplppglicibaa", sum := "0b69cc7492278afe481e76cedf0e82003c7f4641472ba190c35f6d4ec9230193", func := "gimlet/gimletlaw7.MarksTell", spec := "marksTell", unfollowed := true, recurses := true, apart := false, narrowed := true }
def MarksTellUptoSaid : Prop := marksTellUptoRow.holds Try.pinned (OpenSpec.upto marksTellSpec)

/-- 'gimletlaw7.MarksKids', WHERE WHAT IT READS IS OF BULK AT MOST 1048576: true; the input reads as it did. -/
def marksKidsUptoRow : OpenClaim := { program := "ytffplppglicibaa", sum := "0b69cc7492278afe481e76cedf0e82003c7f4641472ba190c35f6d4ec9230193", func := "gimlet/gimletlaw7.MarksKids", spec := "marksKids", unfollowed := true, recurses := true, apart := false, narrowed := true }
def MarksKidsUptoSaid : Prop := marksKidsUptoRow.holds Try.pinned (OpenSpec.upto marksKidsSpec)

/-- 'gimletlaw7.MarksReturn', WHERE WHAT IT READS IS OF BULK AT MOST 1048576: true; the input reads as it did. -/
def marksReturnUptoRow : OpenClaim := { program := "ytffplppglicibaa", sum := "0b69cc7492278afe481e76cedf0e82003c7f4641472ba190c35f6d4ec9230193", func := "gimlet/gimletlaw7.MarksReturn", spec := "marksReturn", unfollowed := true, recurses := true, apart := false, narrowed := true }
def MarksReturnUptoSaid : Prop := marksReturnUptoRow.holds Try.pinned (OpenSpec.upto marksReturnSpec)

/-- 'gimletlaw7.MarksNil', WHERE WHAT IT READS IS OF BULK AT MOST 1048576: true; the input reads as it did. -/
def marksNilUptoRow : OpenClaim := { program := "ytffplppglicibaa", sum := "0b69cc7492278afe481e76cedf0e82003c7f4641472ba190c35f6d4ec9230193", func := "gimlet/gimletlaw7.MarksNil", spec := "marksNil", inPlace := ["maps.clone"], unfollowed := true, recurses := true, apart := false, narrowed := true }
def MarksNilUptoSaid : Prop := marksNilUptoRow.holds Try.pinned (OpenSpec.upto marksNilSpec)

end Rows
end Go.Proofs.Ytffplppglicibaa

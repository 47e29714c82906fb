/- What the tied cards share: the listed tables, the door's own heap. Conditions: none. -/
import Derived.Test.YtmecdhbiinpepaaDoorGimLaw
import Derived.Test.YtmecdhbiinpepaaDoorGimPackV
import Derived.Test.YtmecdhbiinpepaaDoorTie
import Derived.Test.YtmecdhbiinpepaaDoorCards
import Derived.LaidMore
import Derived.Lib.SmallJoins
import Derived.OpenShut
import Derived.Stop.Joined
import Derived.SevenTiedAt
import Derived.LaidByTextLater
namespace Go.Proofs.YtmecdhbiinpepaaDoor
open Go.ChangeShapes Go.WideShapes Go.ChangeAt Go.RowKit Go.Gim
open Go.ChangeMaps (open_string shut_string)

def laidV : List (String × DataW Unit) := [("math/bits.deBruijn32tab", Rows.laid_math_bits_deBruijn32tab), ("math/bits.deBruijn64tab", Rows.laid_math_bits_deBruijn64tab), ("internal/strconv.uint64pow10", Rows.laid_internal_strconv_uint64pow10)]
set_option maxRecDepth 100000 in
theorem door_met (os : Os) (args : Array Value) : laidMetH Tryd.prog laidV ((World.doorLaid Tryd.prog 400 os).forCall (fun _ _ => 0) ⟨#[], args, []⟩).memory :=
  laidMetH_of_parts3 (fuel := 8) (laidMet_of_run' 8 (by kernel_rfl) (by kernel_rfl)) (by kernel_rfl) (by kernel_rfl)
/-- A struct of two ints, by value, that came in. -/
theorem open_sel {H : Type} {enc : TypeId × Value → H} {P : Program} {W : World} {b0 : Nat} {t : TypeId} {f0 f1 : Field} {v : Value} {d : DataW H} {ps : List MemPlace} (hs : P.underlying t = some (.struct #[f0, f1])) (hone : Go.Deep.oneCellFields P #[f0, f1] = true) (hc : P.cellsOf t = 2)
    (u0 : P.underlying f0.type = some (.int .i64)) (u1 : P.underlying f1.type = some (.int .i64))
    (hval : Value.okWide P W .any b0 t v) (hd : DataW.Trod enc P W 0 (fun _ => true) true t v d ps) :
    ∃ x : Int × Int, v = .agg #[.int .i64 x.1, .int .i64 x.2] ∧ (Lit.int .i64 x.1).wf = true ∧ (Lit.int .i64 x.2).wf = true := by
  obtain ⟨v0, v1, y0, y1, n, rfl, _, _, g0, g1⟩ := Go.Joins.open_agg2 hs hone hc hval hd
  obtain ⟨a0, e0, _, l0⟩ := DataW.trod_int u0 g0
  obtain ⟨a1, e1, _, l1⟩ := DataW.trod_int u1 g1
  simp at e0 e1
  subst e0 e1
  exact ⟨⟨a0, a1⟩, rfl, l0, l1⟩
end Go.Proofs.YtmecdhbiinpepaaDoor

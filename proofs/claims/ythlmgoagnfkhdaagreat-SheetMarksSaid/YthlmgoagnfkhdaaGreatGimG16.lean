/- What gimletlaw3's under answers of the pieces of a treap: true. Conditions: at most 1000000 pieces. -/
import Derived.Test.YthlmgoagnfkhdaaGreatGimG13
import Derived.Test.YthlmgoagnfkhdaaGreatGimG07
import Derived.Deep.LoopGhost
import Derived.Deep.DeepCutAuto
import Derived.Outline
set_option maxHeartbeats 6400000
set_option maxRecDepth 1000000
set_option linter.unusedVariables false
set_option linter.unusedSimpArgs false
namespace Go.Gim
open Go Go.RowKit
def Stand (L : List Pc) (lo : Nat) (l : List Pc) : Prop := ∀ j x, l[j]? = some x → L[lo + j]? = some x
theorem Stand.left {L : List Pc} {lo : Nat} {a b : List Pc} (h : Stand L lo (a ++ b)) : Stand L lo a := fun j x hx => h j x (by rw [List.getElem?_append_left (List.getElem?_eq_some_iff.1 hx).1, hx])
theorem Stand.right {L : List Pc} {lo : Nat} {a b : List Pc} (h : Stand L lo (a ++ b)) : Stand L (lo + a.length) b := fun j x hx => by
 have := h (a.length + j) x (by rw [List.getElem?_append_right (by omega), Nat.add_sub_cancel_left, hx])
 rwa [← Nat.add_assoc] at this
theorem Stand.tail {L : List Pc} {lo : Nat} {a : Pc} {b : List Pc} (h : Stand L lo (a :: b)) : Stand L (lo + 1) b := Stand.right (a := [a]) h
end Go.Gim
namespace Go.Proofs.YthlmgoagnfkhdaaGreat
open Go.RowKit Go.Gim
end Go.Proofs.YthlmgoagnfkhdaaGreat

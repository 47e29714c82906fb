/- A pair of truth values, and a range, as they come in. Conditions: none. -/
import Derived.Test.YtffplppglicibaaGimLaw
import Derived.Lib.SmallJoins
import Derived.OpenShut
namespace Go.Proofs.Ytffplppglicibaa
open Go.ChangeShapes Go.WideShapes Go.ChangeAt Go.RowKit Go.Gim

theorem okWide_array {P : Program} {w : World} {r : Reach} {b0 : Nat} {t e : TypeId} {n : Nat} {v : Value} (ht : P.underlying t = some (.array n e)) (h : Value.okWide P w r b0 t v) : ∃ cs, v = .agg cs ∧ cs.size = P.cellsOf t := by
  unfold Value.okWide at h
  rw [ht] at h
  obtain ⟨cs, h1, h2, _⟩ := h
  exact ⟨cs, h1, h2⟩

/-- An array of two truth values that came in. -/
theorem open_twoB {H : Type} {enc : TypeId × Value → H} {P : Program} {W : World} {b0 : Nat} {e i : TypeId} {v : Value} {d : DataW H} {ps : List MemPlace} (he : P.underlying e = some (.array 2 i)) (hc : P.cellsOf e = 2)
    (hi : P.underlying i = some .bool) (hci : P.cellsOf i = 1)
    (hval : Value.okWide P W .any b0 e v) (hd : DataW.Trod enc P W 0 (fun _ => true) true e v d ps) :
    ∃ a b : Bool, v = .agg #[.bool a, .bool b] := by
  obtain ⟨cs, rfl, hsz⟩ := okWide_array he hval
  obtain ⟨c0, c1, rfl⟩ := Go.Joins.array2 (hsz.trans hc)
  obtain ⟨fuel, hf⟩ := hd
  obtain ⟨xs, m, _, _, _, hxl, g⟩ := DataW.trod_array he hf
  match xs, hxl with
  | [y0, y1], _ =>
    have g0 := g 0 (by omega)
    have g1 := g 1 (by omega)
    rw [hci] at g0 g1
    simp [Value.cells] at g0 g1
    obtain ⟨a0, e0, _⟩ := DataW.trod_bool hi g0
    obtain ⟨a1, e1, _⟩ := DataW.trod_bool hi g1
    simp at e0 e1
    subst e0 e1
    exact ⟨a0, a1, rfl⟩
end Go.Proofs.Ytffplppglicibaa

/- At all times each range's From is at most its To, and it lies within its parent's: for every input the statement's function answers true and leaves its input as it was. Conditions: none. -/
import Derived.Test.YtffplppglicibaaGimMarksWithin
import Derived.Test.YtffplppglicibaaGimDeedM
import Derived.Test.YtffplppglicibaaGimLaw
namespace Go.Proofs.Ytffplppglicibaa
open Go.ChangeShapes Go.WideShapes Go.ChangeAt Go.RowKit Go.Gim
open Go.ChangeMaps (open_string shut_string)

set_option maxRecDepth 100000 in
theorem marksWithin_lifted (os : Os) (started : os.Started) (H : Type) (enc : TypeId × Value → H) :
    ReturnsInHanded {} Try.checked os 5 .any (Rows.marksWithinSpec.pre6 enc Try.prog Try.f5 Rows.marksWithinRow.domain false) (Rows.marksWithinSpec.post enc Try.prog Try.f5 false true false false) := by
  refine returnsInHanded_of_change (C := Try.checked) Try.own started (by kernel_rfl) Try.func5
    (ChangeSpec.witness6 (enc := enc) (C := Try.checked) false ⟨#[], #[.slice none 0 0], []⟩ 8 (by kernel_rfl) (by kernel_rfl) (by kernel_rfl) (by kernel_rfl)) ?_
  intro W base args ds gs before hval0 hW hcnd _
  have hval : ∀ (j : Nat) t v, Try.f5.params[j]? = some t → args[j]? = some v → Value.okWide Try.prog W .any base t v := hval0
  have hW' := hW
  obtain ⟨p, q, hA0, hV, rfl, _, _⟩ := hW
  have hA : DataW.TrodAll enc Try.prog W 0 (fun _ => true) true Try.f5.params.toList args.toList ds p := hA0
  rw [Try.params5] at hA hval
  obtain ⟨v0, vs0, d0, ds0, p0, q0, hargs, rfl, rfl, h0, r0⟩ := trodAll_cons hA
  obtain ⟨rfl, rfl, rfl⟩ := trodAll_nil r0
  obtain rfl : args = #[v0] := by rcases args with ⟨l⟩; simpa using hargs
  have hend := fun hc => law_post (enc := enc) (s := Rows.marksWithinSpec) (F := 5) (tb := 4) Try.laidOut (by kernel_rfl) rfl Try.underlying4 rfl (gs := gs) hW' rfl hc
  obtain ⟨a0, c0, x0, rfl, w0, m0, f0⟩ := open_deedsM (et := 47) (ee := 37) (sp := 31) Try.underlying50 Try.underlying54 (by kernel_rfl) (by kernel_rfl) Try.underlying3 Try.underlying3 Try.underlying3 Try.underlying3 Try.underlying4 Try.underlying4 rfl Try.underlying47 Try.underlying37 (by kernel_rfl) Try.underlying31 ⟨rfl, rfl, by kernel_rfl⟩ ⟨rfl, by kernel_rfl⟩ ⟨rfl, by kernel_rfl⟩ ⟨rfl, by kernel_rfl⟩ Try.underlying3 Try.underlying3 Try.underlying9 (hval 0 50 v0 rfl rfl) h0
  exact hend (marksWithin_calls W a0 c0 x0 w0 m0 f0)

theorem marksWithin_holds : Rows.MarksWithinSaid :=
  OpenClaim.holds_of_wide 5 Try.f5 rfl rfl rfl rfl rfl rfl rfl ⟨rfl, rfl, rfl, rfl, rfl⟩ rfl rfl rfl rfl rfl (by kernel_rfl) Try.func5 (by kernel_rfl)
    (of_decide_eq_true (by kernel_rfl)) (by unfold Func.isWrapper; rw [if_neg (of_decide_eq_false (by kernel_rfl))]; exact ⟨rfl, rfl⟩)
    (fun os started H enc _ => marksWithin_lifted os started H enc)

end Go.Proofs.Ytffplppglicibaa

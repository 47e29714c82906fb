/- Ranges without parents go by edits that are apart where they go by each of these alone, from the last one to the first: for every input the statement's function answers true and leaves its input as it was. Conditions: none. -/
import Derived.Test.YtffplppglicibaaGimMarksSinglyC
import Derived.Test.YtffplppglicibaaGimPairs
import Derived.Test.YtffplppglicibaaGimLaw
namespace Go.Proofs.Ytffplppglicibaa
open Go.ChangeShapes Go.WideShapes Go.ChangeAt Go.RowKit Go.Gim
open Go.ChangeMaps (open_string shut_string)

set_option maxRecDepth 100000 in
theorem marksSingly_lifted (os : Os) (started : os.Started) (H : Type) (enc : TypeId × Value → H) :
    ReturnsInHanded {} Try.checked os 4 .any (Rows.marksSinglySpec.pre6 enc Try.prog Try.f4 Rows.marksSinglyRow.domain false) (Rows.marksSinglySpec.post enc Try.prog Try.f4 false true false false) := by
  refine returnsInHanded_of_change (C := Try.checked) Try.own started (by kernel_rfl) Try.func4
    (ChangeSpec.witness6 (enc := enc) (C := Try.checked) false ⟨#[], #[.slice none 0 0, .slice none 0 0, .slice none 0 0, .slice none 0 0], []⟩ 8 (by kernel_rfl) (by kernel_rfl) (by kernel_rfl) (by kernel_rfl)) ?_
  intro W base args ds gs before hval0 hW hcnd _
  have hval : ∀ (j : Nat) t v, Try.f4.params[j]? = some t → args[j]? = some v → Value.okWide Try.prog W .any base t v := hval0
  have hW' := hW
  obtain ⟨p, q, hA0, hV, rfl, _, _⟩ := hW
  have hA : DataW.TrodAll enc Try.prog W 0 (fun _ => true) true Try.f4.params.toList args.toList ds p := hA0
  rw [Try.params4] at hA hval
  obtain ⟨v0, vs0, d0, ds0, p0, q0, hargs, rfl, rfl, h0, r0⟩ := trodAll_cons hA
  obtain ⟨v1, vs1, d1, ds1, p1, q1, rfl, rfl, rfl, h1, r1⟩ := trodAll_cons r0
  obtain ⟨v2, vs2, d2, ds2, p2, q2, rfl, rfl, rfl, h2, r2⟩ := trodAll_cons r1
  obtain ⟨v3, vs3, d3, ds3, p3, q3, rfl, rfl, rfl, h3, r3⟩ := trodAll_cons r2
  obtain ⟨rfl, rfl, rfl⟩ := trodAll_nil r3
  obtain rfl : args = #[v0, v1, v2, v3] := by rcases args with ⟨l⟩; simpa using hargs
  have hend := fun hc => law_post (enc := enc) (s := Rows.marksSinglySpec) (F := 4) (tb := 4) Try.laidOut (by kernel_rfl) rfl Try.underlying4 rfl (gs := gs) hW' rfl hc
  obtain ⟨a0, c0, x0, rfl, w0, m0, f0⟩ := open_twos Try.underlying41 Try.underlying46 (by kernel_rfl) Try.underlying3 (by kernel_rfl) (hval 0 41 v0 rfl rfl) h0
  obtain ⟨a1, c1, x1, rfl, w1, m1⟩ := open_bools_reads Try.underlying42 Try.underlying4 (by kernel_rfl) (hval 1 42 v1 rfl rfl) h1
  obtain ⟨a2, c2, x2, rfl, w2, m2, f2⟩ := open_ints_reads Try.underlying43 Try.underlying3 (by kernel_rfl) (hval 2 43 v2 rfl rfl) h2
  obtain ⟨a3, c3, x3, rfl, w3, m3, f3⟩ := open_strings_reads Try.underlying44 Try.underlying9 (by kernel_rfl) (hval 3 44 v3 rfl rfl) h3
  exact hend (marksSingly_calls W a0 c0 x0 w0 m0 f0 a1 c1 x1 w1 m1 a2 c2 x2 w2 m2 f2 a3 c3 x3 w3 m3 f3)

theorem marksSingly_holds : Rows.MarksSinglySaid :=
  OpenClaim.holds_of_wide 4 Try.f4 rfl rfl rfl rfl rfl rfl rfl ⟨rfl, rfl, rfl, rfl, rfl⟩ rfl rfl rfl rfl rfl (by kernel_rfl) Try.func4 (by kernel_rfl)
    (of_decide_eq_true (by kernel_rfl)) (by unfold Func.isWrapper; rw [if_neg (of_decide_eq_false (by kernel_rfl))]; exact ⟨rfl, rfl⟩)
    (fun os started H enc _ => marksSingly_lifted os started H enc)

end Go.Proofs.Ytffplppglicibaa

/- Two ropes by different dice answer the same to the same deeds: for every input the statement's function answers true and leaves its input as it was. Conditions: none. -/
import Derived.Test.YtbcjlbapgidhiaaGimRopeDice
import Derived.Test.YtbcjlbapgidhiaaGimLaw
namespace Go.Proofs.Ytbcjlbapgidhiaa
open Go.ChangeShapes Go.WideShapes Go.ChangeAt Go.RowKit Go.Gim
open Go.ChangeMaps (open_string shut_string)

set_option maxRecDepth 100000 in
theorem ropeDice_lifted (os : Os) (started : os.Started) (H : Type) (enc : TypeId × Value → H) :
    ReturnsInHanded {} Try.checked os 8 .any (Rows.ropeDiceSpec.pre6 enc Try.prog Try.f8 Rows.ropeDiceRow.domain false) (Rows.ropeDiceSpec.post enc Try.prog Try.f8 false true false false) := by
  refine returnsInHanded_of_change (C := Try.checked) Try.own started (by kernel_rfl) Try.func8
    (ChangeSpec.witness6 (enc := enc) (C := Try.checked) false ⟨#[], #[.slice none 0 0, .slice none 0 0, .string ByteArray.empty, .slice none 0 0], []⟩ 8 (by kernel_rfl) (by kernel_rfl) (by kernel_rfl) (by kernel_rfl)) ?_
  intro W base args ds gs before hval0 hW hcnd _
  have hval : ∀ (j : Nat) t v, Try.f8.params[j]? = some t → args[j]? = some v → Value.okWide Try.prog W .any base t v := hval0
  have hW' := hW
  obtain ⟨p, q, hA0, hV, rfl, _, _⟩ := hW
  have hA : DataW.TrodAll enc Try.prog W 0 (fun _ => true) true Try.f8.params.toList args.toList ds p := hA0
  rw [Try.params8] at hA hval
  obtain ⟨v0, vs0, d0, ds0, p0, q0, hargs, rfl, rfl, h0, r0⟩ := trodAll_cons hA
  obtain ⟨v1, vs1, d1, ds1, p1, q1, rfl, rfl, rfl, h1, r1⟩ := trodAll_cons r0
  obtain ⟨v2, vs2, d2, ds2, p2, q2, rfl, rfl, rfl, h2, r2⟩ := trodAll_cons r1
  obtain ⟨v3, vs3, d3, ds3, p3, q3, rfl, rfl, rfl, h3, r3⟩ := trodAll_cons r2
  obtain ⟨rfl, rfl, rfl⟩ := trodAll_nil r3
  obtain rfl : args = #[v0, v1, v2, v3] := by rcases args with ⟨l⟩; simpa using hargs
  have hend := fun hc => law_post (enc := enc) (s := Rows.ropeDiceSpec) (F := 8) (tb := 4) Try.laidOut (by kernel_rfl) rfl Try.underlying4 rfl (gs := gs) hW' rfl hc
  obtain ⟨a0, c0, x0, rfl, w0, m0, f0⟩ := open_ints_reads Try.underlying22 Try.underlying39 (by kernel_rfl) (hval 0 22 v0 rfl rfl) h0
  obtain ⟨a1, c1, x1, rfl, w1, m1, f1⟩ := open_ints_reads Try.underlying22 Try.underlying39 (by kernel_rfl) (hval 1 22 v1 rfl rfl) h1
  obtain ⟨x2, rfl, _, _, w2⟩ := open_string Try.underlying9 (hval 2 9 v2 rfl rfl) h2
  obtain ⟨a3, c3, x3, rfl, w3, m3, f3⟩ := open_deeds_b Try.underlying58 Try.underlying61 (by kernel_rfl) (by kernel_rfl) Try.underlying3 Try.underlying3 Try.underlying3 Try.underlying9 (hval 3 58 v3 rfl rfl) h3
  exact hend (ropeDice_calls W a0 c0 x0 w0 m0 f0 a1 c1 x1 w1 m1 f1 x2 w2 a3 c3 x3 w3 m3 f3)

theorem ropeDice_holds : Rows.RopeDiceSaid :=
  OpenClaim.holds_of_wide 8 Try.f8 rfl rfl rfl rfl rfl rfl rfl ⟨rfl, rfl, rfl, rfl, rfl⟩ rfl rfl rfl rfl rfl (by kernel_rfl) Try.func8 (by kernel_rfl)
    (of_decide_eq_true (by kernel_rfl)) (by unfold Func.isWrapper; rw [if_neg (of_decide_eq_false (by kernel_rfl))]; exact ⟨rfl, rfl⟩)
    (fun os started H enc _ => ropeDice_lifted os started H enc)

end Go.Proofs.Ytbcjlbapgidhiaa

/- Two sheets by different dice are the same to whatever is done: for every input the statement's function answers true and leaves its input as it was. Conditions: none. -/
import Derived.Test.YthlmgoagnfkhdaaGreatGimSheetDice
import Derived.Test.YthlmgoagnfkhdaaGreatGimF10
set_option maxHeartbeats 6400000
set_option maxRecDepth 1000000
set_option linter.unusedVariables false
set_option linter.unusedSimpArgs false
namespace Go.Proofs.YthlmgoagnfkhdaaGreat
open Go.ChangeShapes Go.WideShapes Go.ChangeAt Go.RowKit Go.Gim
open Go.ChangeMaps (open_string shut_string)
theorem sheetDice_lifted (os : Os) (started : os.Started) (H : Type) (enc : TypeId × Value → H) :
  ReturnsInHanded {} Tryz.checked os 7 .any (Rows.sheetDiceSpec.pre6 enc Tryz.prog Tryz.f7 Rows.sheetDiceRow.domain false) (Rows.sheetDiceSpec.post enc Tryz.prog Tryz.f7 false true false false) := by
 refine returnsInHanded_of_change (C := Tryz.checked) Tryz.own started (by kernel_rfl) Tryz.func7
  (ChangeSpec.witness6 (enc := enc) (C := Tryz.checked) false ⟨#[], #[.slice none 0 0, .slice none 0 0, .string ByteArray.empty, .slice none 0 0], []⟩ 8 (by kernel_rfl) (by kernel_rfl) (by kernel_rfl) (by kernel_rfl)) ?_
 intro W base args ds gs before hval0 hW hcnd _
 have hval : ∀ (j : Nat) t v, Tryz.f7.params[j]? = some t → args[j]? = some v → Value.okWide Tryz.prog W .any base t v := hval0
 have hW' := hW
 obtain ⟨p, q, hA0, hV, rfl, _, _⟩ := hW
 have hA : DataW.TrodAll enc Tryz.prog W 0 (fun _ => true) true Tryz.f7.params.toList args.toList ds p := hA0
 rw [Tryz.params7] at hA hval
 obtain ⟨v0, vs0, d0, ds0, p0, q0, hargs, rfl, rfl, h0, r0⟩ := trodAll_cons hA
 obtain ⟨v1, vs1, d1, ds1, p1, q1, rfl, rfl, rfl, h1, r1⟩ := trodAll_cons r0
 obtain ⟨v2, vs2, d2, ds2, p2, q2, rfl, rfl, rfl, h2, r2⟩ := trodAll_cons r1
 obtain ⟨v3, vs3, d3, ds3, p3, q3, rfl, rfl, rfl, h3, r3⟩ := trodAll_cons r2
 obtain ⟨rfl, rfl, rfl⟩ := trodAll_nil r3
 obtain rfl : args = #[v0, v1, v2, v3] := by rcases args with ⟨l⟩; simpa using hargs
 have hend := fun hc => law_post (enc := enc) (s := Rows.sheetDiceSpec) (F := 7) (tb := 4) Tryz.laidOut (by kernel_rfl) rfl Tryz.underlying4 rfl (gs := gs) hW' rfl hc
 obtain ⟨a0, c0, x0, rfl, w0, m0, f0⟩ := open_ints_reads Tryz.underlying74 Tryz.underlying30 (by kernel_rfl) (hval 0 74 v0 rfl rfl) h0
 obtain ⟨a1, c1, x1, rfl, w1, m1, f1⟩ := open_ints_reads Tryz.underlying74 Tryz.underlying30 (by kernel_rfl) (hval 1 74 v1 rfl rfl) h1
 obtain ⟨x2, rfl, _, _, w2⟩ := open_string Tryz.underlying9 (hval 2 9 v2 rfl rfl) h2
 obtain ⟨a3, c3, x3, rfl, w3, m3, f3⟩ := open_deedsS (et := 35) (ee := 59) (sp := 49) (st := 22) (se := 103) (si := 3) Tryz.underlying75 Tryz.underlying79 (by kernel_rfl) (by kernel_rfl) Tryz.underlying3 Tryz.underlying3 Tryz.underlying3 Tryz.underlying4 Tryz.underlying9 rfl rfl Tryz.underlying35 Tryz.underlying59 (by kernel_rfl) Tryz.underlying49 ⟨rfl, rfl, by kernel_rfl⟩ ⟨rfl, by kernel_rfl⟩ ⟨rfl, by kernel_rfl⟩ ⟨rfl, by kernel_rfl⟩ Tryz.underlying3 Tryz.underlying3 Tryz.underlying9 Tryz.underlying22 Tryz.underlying103 (by kernel_rfl) Tryz.underlying3 (by kernel_rfl) (hval 3 75 v3 rfl rfl) h3
 exact hend (sheetDice_calls W a0 c0 x0 w0 m0 f0 a1 c1 x1 w1 m1 f1 x2 w2 a3 c3 x3 w3 m3 f3)
theorem sheetDice_holds : Rows.SheetDiceSaid :=
 OpenClaim.holds_of_wide 7 Tryz.f7 rfl rfl rfl rfl rfl rfl rfl ⟨rfl, rfl, rfl, rfl, rfl⟩ rfl rfl rfl rfl rfl (by kernel_rfl) Tryz.func7 (by kernel_rfl)
  (of_decide_eq_true (by kernel_rfl)) (by unfold Func.isWrapper; rw [if_neg (of_decide_eq_false (by kernel_rfl))]; exact ⟨rfl, rfl⟩)
  (fun os started H enc _ => sheetDice_lifted os started H enc)
end Go.Proofs.YthlmgoagnfkhdaaGreat

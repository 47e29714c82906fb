/- Behind edits that are done each mark is what its table, moved by them alone, has; selections are what theirs say: for every input the statement's function answers true and leaves its input as it was. Conditions: none. -/
import Derived.Test.YthlmgoagnfkhdaaGreatGimSheetMarks
import Derived.Test.YthlmgoagnfkhdaaGreatGimG08
set_option maxHeartbeats 6400000
set_option maxRecDepth 1000000
set_option linter.unusedVariables false
set_option linter.unusedSimpArgs false
namespace Go.Proofs.YthlmgoagnfkhdaaGreat
open Go.ChangeShapes Go.WideShapes Go.ChangeAt Go.RowKit Go.Gim
open Go.ChangeMaps (open_string shut_string)
theorem sheetMarks_lifted (os : Os) (started : os.Started) (H : Type) (enc : TypeId × Value → H) :
  ReturnsInHanded {} Tryz.checked os 10 .any (Rows.sheetMarksSpec.pre6 enc Tryz.prog Tryz.f10 Rows.sheetMarksRow.domain false) (Rows.sheetMarksSpec.post enc Tryz.prog Tryz.f10 false true false false) := by
 refine returnsInHanded_of_change (C := Tryz.checked) Tryz.own started (by kernel_rfl) Tryz.func10
  (ChangeSpec.witness6 (enc := enc) (C := Tryz.checked) false ⟨#[], #[.string ByteArray.empty, .slice none 0 0, .slice none 0 0], []⟩ 8 (by kernel_rfl) (by kernel_rfl) (by kernel_rfl) (by kernel_rfl)) ?_
 intro W base args ds gs before hval0 hW hcnd _
 have hval : ∀ (j : Nat) t v, Tryz.f10.params[j]? = some t → args[j]? = some v → Value.okWide Tryz.prog W .any base t v := hval0
 have hW' := hW
 obtain ⟨p, q, hA0, hV, rfl, _, _⟩ := hW
 have hA : DataW.TrodAll enc Tryz.prog W 0 (fun _ => true) true Tryz.f10.params.toList args.toList ds p := hA0
 rw [Tryz.params10] at hA hval
 obtain ⟨v0, vs0, d0, ds0, p0, q0, hargs, rfl, rfl, h0, r0⟩ := trodAll_cons hA
 obtain ⟨v1, vs1, d1, ds1, p1, q1, rfl, rfl, rfl, h1, r1⟩ := trodAll_cons r0
 obtain ⟨v2, vs2, d2, ds2, p2, q2, rfl, rfl, rfl, h2, r2⟩ := trodAll_cons r1
 obtain ⟨rfl, rfl, rfl⟩ := trodAll_nil r2
 obtain rfl : args = #[v0, v1, v2] := by rcases args with ⟨l⟩; simpa using hargs
 have hend := fun hc => law_post (enc := enc) (s := Rows.sheetMarksSpec) (F := 10) (tb := 4) Tryz.laidOut (by kernel_rfl) rfl Tryz.underlying4 rfl (gs := gs) hW' rfl hc
 obtain ⟨x0, rfl, _, _, w0⟩ := open_string Tryz.underlying9 (hval 0 9 v0 rfl rfl) h0
 obtain ⟨a1, c1, x1, rfl, w1, m1, f1⟩ := open_deedsS (et := 35) (ee := 59) (sp := 49) (st := 22) (se := 103) (si := 3) Tryz.underlying75 Tryz.underlying79 (by kernel_rfl) (by kernel_rfl) Tryz.underlying3 Tryz.underlying3 Tryz.underlying3 Tryz.underlying4 Tryz.underlying9 rfl rfl Tryz.underlying35 Tryz.underlying59 (by kernel_rfl) Tryz.underlying49 ⟨rfl, rfl, by kernel_rfl⟩ ⟨rfl, by kernel_rfl⟩ ⟨rfl, by kernel_rfl⟩ ⟨rfl, by kernel_rfl⟩ Tryz.underlying3 Tryz.underlying3 Tryz.underlying9 Tryz.underlying22 Tryz.underlying103 (by kernel_rfl) Tryz.underlying3 (by kernel_rfl) (hval 1 75 v1 rfl rfl) h1
 obtain ⟨a2, c2, x2, rfl, w2, m2, f2⟩ := open_edits (e := 59) (sp := 49) Tryz.underlying35 Tryz.underlying59 (by kernel_rfl) Tryz.underlying49 ⟨rfl, rfl, by kernel_rfl⟩ ⟨rfl, by kernel_rfl⟩ ⟨rfl, by kernel_rfl⟩ ⟨rfl, by kernel_rfl⟩ Tryz.underlying3 Tryz.underlying3 Tryz.underlying9 (hval 2 35 v2 rfl rfl) h2
 exact hend (sheetMarks_calls W x0 w0 a1 c1 x1 w1 m1 f1 a2 c2 x2 w2 m2 f2)
theorem sheetMarks_holds : Rows.SheetMarksSaid :=
 OpenClaim.holds_of_wide 10 Tryz.f10 rfl rfl rfl rfl rfl rfl rfl ⟨rfl, rfl, rfl, rfl, rfl⟩ rfl rfl rfl rfl rfl (by kernel_rfl) Tryz.func10 (by kernel_rfl)
  (of_decide_eq_true (by kernel_rfl)) (by unfold Func.isWrapper; rw [if_neg (of_decide_eq_false (by kernel_rfl))]; exact ⟨rfl, rfl⟩)
  (fun os started H enc _ => sheetMarks_lifted os started H enc)
end Go.Proofs.YthlmgoagnfkhdaaGreat

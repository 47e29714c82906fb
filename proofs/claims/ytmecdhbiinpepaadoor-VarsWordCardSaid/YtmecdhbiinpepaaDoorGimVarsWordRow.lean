/- The word at a place has word bytes alone, touches the place, and ends on both sides where there is none; if there is no word, none of the two bytes beside is one: for every input the statement's function answers true and leaves its input as it was. Conditions: none. -/
import Derived.Test.YtmecdhbiinpepaaDoorGimVarsWordLaw
import Derived.Test.YtmecdhbiinpepaaDoorGimDoor
namespace Go.Proofs.YtmecdhbiinpepaaDoor
open Go.ChangeShapes Go.WideShapes Go.ChangeAt Go.RowKit Go.Gim
open Go.ChangeMaps (open_string shut_string)

set_option maxRecDepth 100000 in
theorem varsWord_lifted (os : Os) (started : os.Started) (H : Type) (enc : TypeId × Value → H) :
    ReturnsInHanded {} Tryd.checked os 5 .any (fun w args => (Rows.varsWordSpec.pre enc Tryd.prog Tryd.f5 [] false w args ∧ laidMetH Tryd.prog laidV w) ∧ sizedMet enc Tryd.prog Tryd.f5 (OpenSpec.ofChange Rows.varsWordSpec) false w args) (Rows.varsWordSpec.post enc Tryd.prog Tryd.f5 false true false false) := by
  refine returnsInHanded_of_change_and (C := Tryd.checked) (X := fun w _ => laidMetH Tryd.prog laidV w) (fun _ _ _ hh h => h.of_heap hh) Tryd.own started (by kernel_rfl) Tryd.func5
    (ChangeSpec.witness_shaped (enc := enc) (C := Tryd.checked) (os := os) (X := fun w _ => laidMetH Tryd.prog laidV w) false (World.doorLaid Tryd.prog 400 os) #[.string ByteArray.empty, .int .i64 0] 8 rfl (World.shaped_of_RefB (by kernel_rfl) (by kernel_rfl)) (by kernel_rfl) (by kernel_rfl) (by kernel_rfl) (door_met os _)) ?_
  intro W base args ds gs before hval0 hW _ _ hL _
  have hval : ∀ (j : Nat) t v, Tryd.f5.params[j]? = some t → args[j]? = some v → Value.okWide Tryd.prog W .any base t v := hval0
  have hW' := hW
  obtain ⟨p, q, hA0, hV, rfl, _, _⟩ := hW
  have hA : DataW.TrodAll enc Tryd.prog W 0 (fun _ => true) true Tryd.f5.params.toList args.toList ds p := hA0
  rw [Tryd.params5] at hA hval
  obtain ⟨v0, vs0, d0, ds0, p0, q0, hargs, rfl, rfl, h0, r0⟩ := trodAll_cons hA
  obtain ⟨v1, vs1, d1, ds1, p1, q1, rfl, rfl, rfl, h1, r1⟩ := trodAll_cons r0
  obtain ⟨rfl, rfl, rfl⟩ := trodAll_nil r1
  obtain rfl : args = #[v0, v1] := by rcases args with ⟨l⟩; simpa using hargs
  have hend := fun hc => law_post (enc := enc) (s := Rows.varsWordSpec) (F := 5) (tb := 4) Tryd.laidOut (by kernel_rfl) rfl Tryd.underlying4 rfl (gs := gs) hW' rfl hc
  obtain ⟨x0, rfl, _, _, w0⟩ := open_string Tryd.underlying9 (hval 0 9 v0 rfl rfl) h0
  obtain ⟨x1, rfl, _, _, w1⟩ := open_int Tryd.underlying3 (hval 1 3 v1 rfl rfl) h1
  exact hend (varsWord_calls W x0 w0 x1 w1 (tab_of_laid hL))

theorem varsWord_holds : Rows.VarsWordSaid :=
  OpenClaim.holds_of_wide 5 Tryd.f5 rfl rfl rfl rfl rfl rfl rfl ⟨rfl, rfl, rfl, rfl, rfl⟩ rfl rfl rfl rfl rfl (by kernel_rfl) Tryd.func5 (by kernel_rfl)
    (of_decide_eq_true (by kernel_rfl)) (by unfold Func.isWrapper; rw [if_neg (of_decide_eq_false (by kernel_rfl))]; exact ⟨rfl, rfl⟩)
    (fun os started H enc _ => varsWord_lifted os started H enc)

theorem varsWordCard_holds : Rows.VarsWordCardSaid :=
  Claim7.holds_tied_plain_at .later [] [.data, .data, .data] true (true, "713c7abf2ffca4525119876932acf3ea85ee5c7a7accd5c28360adb354dcb893") false
    varsWord_holds (fun _ h => by cases h) (by kernel_rfl) (fun _ h => by cases h) varsWord_row_tie rfl ⟨rfl, rfl⟩ (by kernel_rfl) rfl
    (fun f fn hf hfn => by
      obtain rfl : f = 5 := Option.some.inj ((show Tryd.prog.funcNamed "gimlet/gimletlaw23.VarsWord" = some 5 by kernel_rfl).symm.trans hf) |>.symm
      obtain rfl : fn = Tryd.f5 := (Option.some.inj (Tryd.func5.symm.trans hfn)).symm
      exact ⟨by kernel_rfl, fun j t ht => by
        rw [Tryd.params5] at ht
        have hm : t ∈ [9, 3] := by simpa using Array.mem_of_getElem? ht
        have hall : ([9, 3].all fun u => !Tryd.prog.wantsStandIn u) = true := by kernel_rfl
        exact (show Tryd.prog.wantsStandIn t = false by simpa using List.all_eq_true.1 hall t hm)⟩)
    (by kernel_rfl)

end Go.Proofs.YtmecdhbiinpepaaDoor

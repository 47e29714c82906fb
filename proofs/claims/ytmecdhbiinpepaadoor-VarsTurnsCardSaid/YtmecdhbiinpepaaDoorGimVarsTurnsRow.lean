/- Two unlike names may be set in either order: each is told with its value then, any other name as ever, and there are as many: for every input the statement's function answers true and leaves its input as it was. Conditions: none. -/
import Derived.Test.YtmecdhbiinpepaaDoorGimVarsTurns
import Derived.Test.YtmecdhbiinpepaaDoorGimDoor
namespace Go.Proofs.YtmecdhbiinpepaaDoor
open Go.ChangeShapes Go.WideShapes Go.ChangeAt Go.RowKit Go.Gim
open Go.ChangeMaps (open_string shut_string)

set_option maxRecDepth 100000 in
theorem varsTurns_lifted (os : Os) (started : os.Started) (H : Type) (enc : TypeId × Value → H) :
    ReturnsInHanded {} Tryd.checked os 9 .any (fun w args => (Rows.varsTurnsSpec.pre enc Tryd.prog Tryd.f9 [] false w args ∧ laidMetH Tryd.prog laidV w) ∧ sizedMet enc Tryd.prog Tryd.f9 (OpenSpec.ofChange Rows.varsTurnsSpec) false w args) (Rows.varsTurnsSpec.post enc Tryd.prog Tryd.f9 false true false false) := by
  refine returnsInHanded_of_change_and (C := Tryd.checked) (X := fun w _ => laidMetH Tryd.prog laidV w) (fun _ _ _ hh h => h.of_heap hh) Tryd.own started (by kernel_rfl) Tryd.func9
    (ChangeSpec.witness_shaped (enc := enc) (C := Tryd.checked) (os := os) (X := fun w _ => laidMetH Tryd.prog laidV w) false (World.doorLaid Tryd.prog 400 os) #[.slice none 0 0, .string ByteArray.empty, .string ByteArray.empty, .string ByteArray.empty, .string ByteArray.empty, .string ByteArray.empty] 8 rfl (World.shaped_of_RefB (by kernel_rfl) (by kernel_rfl)) (by kernel_rfl) (by kernel_rfl) (by kernel_rfl) (door_met os _)) ?_
  intro W base args ds gs before hval0 hW _ _ hL _
  have hval : ∀ (j : Nat) t v, Tryd.f9.params[j]? = some t → args[j]? = some v → Value.okWide Tryd.prog W .any base t v := hval0
  have hW' := hW
  obtain ⟨p, q, hA0, hV, rfl, _, _⟩ := hW
  have hA : DataW.TrodAll enc Tryd.prog W 0 (fun _ => true) true Tryd.f9.params.toList args.toList ds p := hA0
  rw [Tryd.params9] at hA hval
  obtain ⟨v0, vs0, d0, ds0, p0, q0, hargs, rfl, rfl, h0, r0⟩ := trodAll_cons hA
  obtain ⟨v1, vs1, d1, ds1, p1, q1, rfl, rfl, rfl, h1, r1⟩ := trodAll_cons r0
  obtain ⟨v2, vs2, d2, ds2, p2, q2, rfl, rfl, rfl, h2, r2⟩ := trodAll_cons r1
  obtain ⟨v3, vs3, d3, ds3, p3, q3, rfl, rfl, rfl, h3, r3⟩ := trodAll_cons r2
  obtain ⟨v4, vs4, d4, ds4, p4, q4, rfl, rfl, rfl, h4, r4⟩ := trodAll_cons r3
  obtain ⟨v5, vs5, d5, ds5, p5, q5, rfl, rfl, rfl, h5, r5⟩ := trodAll_cons r4
  obtain ⟨rfl, rfl, rfl⟩ := trodAll_nil r5
  obtain rfl : args = #[v0, v1, v2, v3, v4, v5] := by rcases args with ⟨l⟩; simpa using hargs
  have hend := fun hc => law_post (enc := enc) (s := Rows.varsTurnsSpec) (F := 9) (tb := 4) Tryd.laidOut (by kernel_rfl) rfl Tryd.underlying4 rfl (gs := gs) hW' rfl hc
  obtain ⟨a0, c0, x0, rfl, w0, m0, f0⟩ := open_pvs Tryd.underlying24 Tryd.underlying33 (by kernel_rfl) (by kernel_rfl) Tryd.underlying9 Tryd.underlying9 (hval 0 24 v0 rfl rfl) h0
  obtain ⟨x1, rfl, _, _, w1⟩ := open_string Tryd.underlying9 (hval 1 9 v1 rfl rfl) h1
  obtain ⟨x2, rfl, _, _, w2⟩ := open_string Tryd.underlying9 (hval 2 9 v2 rfl rfl) h2
  obtain ⟨x3, rfl, _, _, w3⟩ := open_string Tryd.underlying9 (hval 3 9 v3 rfl rfl) h3
  obtain ⟨x4, rfl, _, _, w4⟩ := open_string Tryd.underlying9 (hval 4 9 v4 rfl rfl) h4
  obtain ⟨x5, rfl, _, _, w5⟩ := open_string Tryd.underlying9 (hval 5 9 v5 rfl rfl) h5
  exact hend (varsTurns_calls W a0 c0 x0 w0 m0 f0 x1 w1 x2 w2 x3 w3 x4 w4 x5 w5)

theorem varsTurns_holds : Rows.VarsTurnsSaid :=
  OpenClaim.holds_of_wide 9 Tryd.f9 rfl rfl rfl rfl rfl rfl rfl ⟨rfl, rfl, rfl, rfl, rfl⟩ rfl rfl rfl rfl rfl (by kernel_rfl) Tryd.func9 (by kernel_rfl)
    (of_decide_eq_true (by kernel_rfl)) (by unfold Func.isWrapper; rw [if_neg (of_decide_eq_false (by kernel_rfl))]; exact ⟨rfl, rfl⟩)
    (fun os started H enc _ => varsTurns_lifted os started H enc)

theorem varsTurnsCard_holds : Rows.VarsTurnsCardSaid :=
  Claim7.holds_tied_plain_at .later [] [.data, .data, .data] true (true, "713c7abf2ffca4525119876932acf3ea85ee5c7a7accd5c28360adb354dcb893") false
    varsTurns_holds (fun _ h => by cases h) (by kernel_rfl) (fun _ h => by cases h) varsTurns_row_tie rfl ⟨rfl, rfl⟩ (by kernel_rfl) rfl
    (fun f fn hf hfn => by
      obtain rfl : f = 9 := Option.some.inj ((show Tryd.prog.funcNamed "gimlet/gimletlaw23.VarsTurns" = some 9 by kernel_rfl).symm.trans hf) |>.symm
      obtain rfl : fn = Tryd.f9 := (Option.some.inj (Tryd.func9.symm.trans hfn)).symm
      exact ⟨by kernel_rfl, fun j t ht => by
        rw [Tryd.params9] at ht
        have hm : t ∈ [24, 9, 9, 9, 9, 9] := by simpa using Array.mem_of_getElem? ht
        have hall : ([24, 9, 9, 9, 9, 9].all fun u => !Tryd.prog.wantsStandIn u) = true := by kernel_rfl
        exact (show Tryd.prog.wantsStandIn t = false by simpa using List.all_eq_true.1 hall t hm)⟩)
    (by kernel_rfl)

end Go.Proofs.YtmecdhbiinpepaaDoor

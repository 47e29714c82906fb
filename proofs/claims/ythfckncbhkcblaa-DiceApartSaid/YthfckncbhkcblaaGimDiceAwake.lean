/- What the statements on dice call to see that the program is one: it answers true. Conditions: none. -/
import Derived.Test.YthfckncbhkcblaaGimDice
namespace Go.Proofs.Ythfckncbhkcblaa
open Go.RowKit Go.Gim

set_option maxHeartbeats 1600000 in
set_option maxRecDepth 1000000 in
theorem awake1_any (w : World) : Calls Try.prog 11 #[] w fun e w' => e = .returned (.bool true) ∧ Ext w w' := by
  go_enter Try.func11, Try.ntmps11
  go_wp2_with fail
  refine (new_any _ _ _ [7] (by decide) ⟨rfl, fun _ => ⟨w.heap.size, 0, rfl, ?_⟩⟩).mono ?_
  · intro j hj
    have : j = 0 := by simp at hj; omega
    subst this
    exact World.cell?_alloc_new _ _ _ _
  rintro e w1 ⟨d, sv, rfl, hD, hx, hd, hs⟩
  have hE : Ext w w1 := ((Mod.refl _ w).alloc _).ext_trans hx
  go_wp2_with fail
  refine (left_at w1 _ hD).mono ?_
  rintro e w2 ⟨rfl, m, rfl⟩
  have hD1 : DiceAt (w1.drewN m) ⟨d, sv, [7], 0, 0⟩ := hD.drewN m
  go_wp2_with fail
  refine (next_at (w1.drewN m) _ hD1).mono ?_
  rintro e w3 ⟨rfl, hD3, hm3⟩
  go_wp2_with fail
  refine (next_at w3 _ hD3).mono ?_
  rintro e w4 ⟨rfl, hD4, hm4⟩
  go_wp2_with fail
  refine (left_at w4 _ hD4).mono ?_
  rintro e w5 ⟨rfl, m5, rfl⟩
  go_wp2_with fail
  go_ret
  refine ⟨rfl, ?_⟩
  have h3 : Ext w w3 := (hE.drewN m).trans hm3 (fun i hi (e : i = d) => by simp at hd; omega)
  have h4 : Ext w w4 := h3.trans hm4 (fun i hi (e : i = d) => by simp at hd; omega)
  exact h4.drewN m5

end Go.Proofs.Ythfckncbhkcblaa

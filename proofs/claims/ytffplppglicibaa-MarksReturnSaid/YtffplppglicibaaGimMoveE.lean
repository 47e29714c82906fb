/- change.Move at edits that are none, but not nil. Conditions: none. -/
import Derived.Test.YtffplppglicibaaGimMoveC
namespace Go.Gim
open Go.RowKit
theorem reads_mod0 {S : Nat → Prop} {w w' : World} {size n : Nat} {ao : Option Addr} {xs : List Value} (h : Reads w size ao n xs) (hm : Mod S w w') (hS : 0 < n → ∀ a, ao = some a → ¬ S a.block) : Reads w' size ao n xs := by
  by_cases h0 : 0 < n
  · exact h.mod hm (hS h0)
  · exact ⟨h.1, fun h1 => absurd h1 h0⟩
end Go.Gim
namespace Go.Proofs.Ytffplppglicibaa
open Go.RowKit Go.Gim

set_option maxHeartbeats 800000 in
set_option maxRecDepth 1000000 in
theorem cloneEd_empty (a : Addr) (cap : Nat) (w : World) :
    Calls Try.prog 71 #[.slice (some a) 0 cap] w fun e w' => ∃ ao c, e = .returned (.slice ao 0 c) ∧ Ext w w' := by
  have hnil := fun w' => Lib.run_eql_slice_nil (P := Try.prog) w' 47 37 (some a) 0 cap 0 0 Try.underlying47
  have ha : Ext w (w.alloc (.cells #[] 37)) := (Mod.refl _ w).alloc _
  have hr2 : Reads (w.alloc (.cells #[] 37)) 3 (some a) 0 (edE.cells []) := Enc.reads_none (E := edE)
  go_enter Try.func71, Try.ntmps71
  go_wp2_with (at_builtin; refine wpList_append_reads rfl _ _ 47 rfl w.heap.size 37 _ 3 32 Try.info37 Try.underlying47 rfl (by decide) _ 0 [] rfl (World.ownsRow_lit w #[] 0 (Nat.le_refl _) (by unfold maxLen; omega) rfl) _ 0 cap (edE.cells []) rfl hr2 (edE.cells_one []) (by unfold maxLen; omega) (by omega) (by simp) ?_)
  intro v' w4 hown hm4 hbk
  obtain ⟨ao, c, rfl, _⟩ := ownsRow_shape hown
  have hx4 : Ext w w4 := ha.trans hm4 (fun i hi e => by cases e; exact absurd hi (Nat.lt_irrefl _))
  clear hm4 hbk hown
  go_wp2_with fail
  go_ret
  exact ⟨ao, c, rfl, hx4⟩
set_option maxHeartbeats 800000 in
set_option maxRecDepth 1000000 in
theorem sortC_empty (a : Addr) (cap : Nat) (w : World) : Calls Try.prog 52 #[.slice (some a) 0 cap] w fun e w' => ∃ ao c, e = .returned (.slice ao 0 c) ∧ Ext w w' := by
  go_enter Try.func52, Try.ntmps52
  go_wp2_with fail
  refine (cloneEd_empty a cap w).mono ?_
  rintro e w1 ⟨ao, c, rfl, hx⟩
  go_wp2_with fail
  refine (sortEd_none ao c w1).mono ?_
  rintro e w1 ⟨rfl, rfl⟩
  go_wp2_with fail
  go_ret
  exact ⟨ao, c, rfl, hx⟩
set_option maxHeartbeats 800000 in
set_option maxRecDepth 1000000 in
theorem moveC_empty (right : Bool) (o : Int) (a : Addr) (cap : Nat) (w : World) : Calls Try.prog 34 #[.int .i64 o, .bool right, .slice (some a) 0 cap] w fun e w' => e = .returned (.int .i64 o) ∧ Ext w w' := by
  go_enter Try.func34, Try.ntmps34
  go_wp2_with fail
  refine (sortC_empty a cap w).mono ?_
  rintro e w1 ⟨ao, c, rfl, hx⟩
  go_wp2_with fail
  refine (revEd_none ao c w1).mono ?_
  rintro e w1 ⟨rfl, rfl⟩
  go_wp2_with fail
  refine wp_loop_rounds 1 ?_
  rw [rounds_succ]
  go_wp2_with fail
  go_ret
  exact ⟨rfl, hx⟩
theorem moveC_all (right : Bool) (o : Int) (ao : Option Addr) (cap : Nat) (l : List Ed) (w : World) (hr : Reads w 3 ao l.length (edE.cells l)) (hn : l.length ≤ 19) (hok : ∀ e ∈ l, EdOk e) (ho0 : 0 ≤ o) (ho1 : o ≤ 1000000000) :
    Calls Try.prog 34 #[.int .i64 o, .bool right, .slice ao l.length cap] w fun e w' => e = .returned (.int .i64 (moveE right l o)) ∧ Ext w w' := by
  cases l with
  | nil =>
    cases ao with
    | none => exact moveC_none right o cap w
    | some a => exact moveC_empty right o a cap w
  | cons x r =>
    obtain ⟨b, off, rfl⟩ := hr.some (by simp)
    exact moveC_some right o b off cap (x :: r) w hr (by simp) hn hok ho0 ho1
end Go.Proofs.Ytffplppglicibaa

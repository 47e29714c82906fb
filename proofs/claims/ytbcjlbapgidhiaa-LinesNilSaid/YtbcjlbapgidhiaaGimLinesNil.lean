/- Lines of a nil rope: ErrNil, ahead of all else, or 0: the walk. Conditions: none. -/
import Derived.Test.YtbcjlbapgidhiaaGimLaw4
namespace Go.Proofs.Ytbcjlbapgidhiaa
open Go.RowKit Go.Gim

set_option maxHeartbeats 3200000 in
set_option maxRecDepth 1000000 in
theorem linesNil_calls (w : World) (a : Int) (wa : (Lit.int .i64 a).wf = true) (b : Int) (wb : (Lit.int .i64 b).wf = true) (c : Int) (wc : (Lit.int .i64 c).wf = true) :
    Calls Try.prog 20 #[.int .i64 a, .int .i64 b, .int .i64 c] w fun e w' => e = .returned (.bool true) ∧ Ext w w' := by
  clear wa wb wc
  go_enter Try.func20, Try.ntmps20
  go_wp2_with fail
  refine (linesOf_any none _).mono ?_
  rintro e u1 ⟨rfl, hx1⟩
  have ha : Ext u1 (u1.alloc (.cells #[.pointer none] 64)) := (Mod.refl _ u1).alloc _
  go_wp2_with fail
  refine (start_nil a _).mono ?_
  rintro e u2 ⟨rfl, y2⟩
  have k2 := box_cell y2
  go_wp2_with fail
  refine (end_nil a _).mono ?_
  rintro e u3 ⟨rfl, y3⟩
  have y3 := y2.ext_trans y3
  have k3 := box_cell y3
  clear k2
  go_wp2_with fail
  refine (at_nil a _).mono ?_
  rintro e u4 ⟨rfl, y4⟩
  have y4 := y3.ext_trans y4
  have k4 := box_cell y4
  clear k3
  go_wp2_with fail
  refine (place_nil a b _).mono ?_
  rintro e u5 ⟨rfl, y5⟩
  have y5 := y4.ext_trans y5
  have k5 := box_cell y5
  clear k4
  go_wp2_with fail
  refine (offset_nil a b c _).mono ?_
  rintro e u6 ⟨rfl, y6⟩
  have y6 := y5.ext_trans y6
  have k6 := box_cell y6
  clear k5
  go_wp2_with fail
  refine (indent_nil a _).mono ?_
  rintro e u7 ⟨rfl, y7⟩
  have y7 := y6.ext_trans y7
  have k7 := box_cell y7
  clear k6
  go_wp2_with fail
  refine (many_nil _).mono ?_
  rintro e u8 ⟨rfl, y8⟩
  have y8 := y7.ext_trans y8
  go_wp2_with fail
  refine (awake4_any _).mono ?_
  rintro e u9 ⟨rfl, y9⟩
  go_wp2_with fail
  go_ret
  exact ⟨rfl, ((hx1.ext_trans ha).ext_trans y8).ext_trans y9⟩

end Go.Proofs.Ytbcjlbapgidhiaa

/- A range that no edit touches at either end goes by the edits, and by what turns them back, to where it was: any arguments. Conditions: none. -/
import Derived.Test.YtffplppglicibaaGimMarksReturn
import Derived.Test.YtffplppglicibaaGimLaw
namespace Go.Proofs.Ytffplppglicibaa
open Go.RowKit Go.Gim

set_option maxHeartbeats 800000 in
set_option maxRecDepth 1000000 in
theorem marksReturn_calls (w : World) (s : ByteArray) (ws : s.size ≤ 9223372036854775807) (x1 : Int) (_ : (Lit.int .i64 x1).wf = true) (x2 : Int) (_ : (Lit.int .i64 x2).wf = true) (p q : Bool)
    (a4 : Option Addr) (c4 : Nat) (gs : List (Int × Int)) (h4 : Reads w 2 a4 gs.length (prCells gs)) (m4 : gs.length ≤ maxLen) (_ : ∀ x ∈ gs, i64w x.1 ∧ i64w x.2)
    (a5 : Option Addr) (c5 : Nat) (ts : List ByteArray) (h5 : Reads w 1 a5 ts.length (ts.map Value.string)) (m5 : ts.length ≤ maxLen) (_ : ∀ s ∈ ts, s.size ≤ maxLen) :
    Calls Try.prog 10 #[.string s, .int .i64 x1, .int .i64 x2, .agg #[.bool p, .bool q], .slice a4 gs.length c4, .slice a5 ts.length c5] w fun e w' => e = .returned (.bool true) ∧ Ext w w' := by
  unfold maxLen at m4 m5
  have hxu : Ext w (w.alloc (.cells #[.bool p, .bool q] 22)) := (Mod.refl _ w).alloc _
  by_cases n0 : s.size ≤ 80
  · have i1 : ¬ (80 : Int) < (s.size : Int) := by omega
    by_cases n2 : gs.length ≤ 8
    · have i2 : ¬ (8 : Int) < (gs.length : Int) := by omega
      cases hlo : longB 100 ts with
      | false => exact marksReturn_any w s n0 x1 x2 p q a4 c4 gs h4 n2 a5 c5 ts h5 m5 hlo
      | true =>
        have HL := fun w' (h' : Ext w w') => long_any 100 a5 c5 ts w' (h5.mod h' (fun _ _ f => f)) m5 (by omega) (by omega)
        rw [hlo] at HL
        clear h4 h5 hlo
        go_enter Try.func10, Try.ntmps10
        go_wp2_with fail
        refine (HL _ hxu).mono ?_
        rintro e w0 ⟨rfl, rfl⟩
        go_wp2_with fail
        refine (awake7_any _).mono ?_
        rintro e w1 ⟨rfl, hx⟩
        go_wp2_with fail
        go_ret
        exact ⟨rfl, hxu.ext_trans hx⟩
    · have i2 : (8 : Int) < (gs.length : Int) := by omega
      clear h4 h5
      go_enter Try.func10, Try.ntmps10
      go_wp2_with fail
      refine (awake7_any _).mono ?_
      rintro e w1 ⟨rfl, hx⟩
      go_wp2_with fail
      go_ret
      exact ⟨rfl, hxu.ext_trans hx⟩
  · have i1 : (80 : Int) < (s.size : Int) := by omega
    clear h4 h5
    go_enter Try.func10, Try.ntmps10
    go_wp2_with fail
    refine (awake7_any _).mono ?_
    rintro e w1 ⟨rfl, hx⟩
    go_wp2_with fail
    go_ret
    exact ⟨rfl, hxu.ext_trans hx⟩
end Go.Proofs.Ytffplppglicibaa

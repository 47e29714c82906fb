/- Where lines begin and end, and their indentation, is as the document tells: the walk. Conditions: none. -/
import Derived.Test.YtbcjlbapgidhiaaGimLinesSame
namespace Go.Proofs.Ytbcjlbapgidhiaa
open Go.RowKit Go.Gim

set_option maxHeartbeats 3200000 in
set_option maxRecDepth 1000000 in
theorem linesTell_any (w : World) (s : ByteArray) (line f : Int) (hs : s.size ≤ 300) :
    Calls Try.prog 9 #[.string s, .int .i64 line, .int .i64 f] w fun e w' => e = .returned (.bool true) ∧ Ext w w' := by
  have j1 : ¬ (300 : Int) < (s.size : Int) := by omega
  go_enter Try.func9, Try.ntmps9
  go_wp2_with fail
  refine (linesof_any s _ (by omega)).mono ?_
  rintro e u1 ⟨R, rfl, hR, htx, hx, _⟩
  obtain ⟨a1, e1, P1, Q1⟩ := start_same R s line (by omega) htx
  obtain ⟨a2, e2, P2, Q2⟩ := end_same R s line (by omega) htx
  obtain ⟨a3, e3, P3, Q3⟩ := indent_same R s line (by omega) htx
  obtain ⟨a4, e4, P4, Q4⟩ := at_same R s f (by omega) htx
  obtain ⟨a5, P5, Q5⟩ := many_same R s (by omega) htx
  have P1 := Lib.hid P1
  have P2 := Lib.hid P2
  have P3 := Lib.hid P3
  have P4 := Lib.hid P4
  have P5 := Lib.hid P5
  have Q1 := Lib.hid Q1
  have Q2 := Lib.hid Q2
  have Q3 := Lib.hid Q3
  have Q4 := Lib.hid Q4
  have Q5 := Lib.hid Q5
  have ha : Ext u1 (u1.alloc (.cells #[.pointer (some ⟨R.rb, 0, none⟩)] 64)) := (Mod.refl _ u1).alloc _
  have hRa := hR.ext ha
  clear htx
  go_wp2_with fail
  refine (P1.out _ hRa).mono ?_
  rintro e u2 ⟨rfl, y⟩
  have k := box_cell y
  go_wp2_with fail
  refine (Q1.out _).mono ?_
  rintro e u3 ⟨rfl, y'⟩
  replace y := y.ext_trans y'
  replace k := box_cell y
  clear y'
  go_wp2_with fail
  refine (P2.out _ (hRa.ext y)).mono ?_
  rintro e u4 ⟨rfl, y'⟩
  replace y := y.ext_trans y'
  replace k := box_cell y
  clear y'
  go_wp2_with fail
  refine (Q2.out _).mono ?_
  rintro e u5 ⟨rfl, y'⟩
  replace y := y.ext_trans y'
  replace k := box_cell y
  clear y'
  go_wp2_with fail
  refine (P3.out _ (hRa.ext y)).mono ?_
  rintro e u6 ⟨rfl, y'⟩
  replace y := y.ext_trans y'
  replace k := box_cell y
  clear y'
  go_wp2_with fail
  refine (Q3.out _).mono ?_
  rintro e u7 ⟨rfl, y'⟩
  replace y := y.ext_trans y'
  replace k := box_cell y
  clear y'
  go_wp2_with fail
  refine (P4.out _ (hRa.ext y)).mono ?_
  rintro e u8 ⟨rfl, y'⟩
  replace y := y.ext_trans y'
  replace k := box_cell y
  clear y'
  go_wp2_with fail
  refine (Q4.out _).mono ?_
  rintro e u9 ⟨rfl, y'⟩
  replace y := y.ext_trans y'
  replace k := box_cell y
  clear y'
  go_wp2_with fail
  refine (P5.out _ (hRa.ext y)).mono ?_
  rintro e v1 ⟨rfl, y'⟩
  replace y := y.ext_trans y'
  clear k y'
  go_wp2_with fail
  refine (Q5.out _).mono ?_
  rintro e v2 ⟨rfl, y'⟩
  replace y := y.ext_trans y'
  clear y'
  go_wp2_with fail
  refine (awake4_any _).mono ?_
  rintro e v3 ⟨rfl, y'⟩
  go_wp2_with fail
  go_ret
  exact ⟨rfl, ((hx.ext_trans ha).ext_trans y).ext_trans y'⟩

set_option maxHeartbeats 800000 in
set_option maxRecDepth 1000000 in
theorem linesTell_calls (w : World) (s : ByteArray) (ws : s.size ≤ 9223372036854775807) (line : Int) (wl : (Lit.int .i64 line).wf = true) (f : Int) (wf : (Lit.int .i64 f).wf = true) :
    Calls Try.prog 9 #[.string s, .int .i64 line, .int .i64 f] w fun e w' => e = .returned (.bool true) ∧ Ext w w' := by
  clear ws wl wf
  by_cases h1 : s.size ≤ 300
  · exact linesTell_any w s line f h1
  · have j1 : (300 : Int) < (s.size : Int) := by omega
    go_enter Try.func9, Try.ntmps9
    go_wp2_with fail
    refine (awake4_any _).mono ?_
    rintro e w1 ⟨rfl, hx⟩
    go_wp2_with fail
    go_ret
    exact ⟨rfl, hx⟩

end Go.Proofs.Ytbcjlbapgidhiaa

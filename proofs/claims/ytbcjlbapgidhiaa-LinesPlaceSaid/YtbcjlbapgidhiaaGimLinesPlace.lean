/- Places by bytes, runes, units are the document's, there and back: the walk. Conditions: none. -/
import Derived.Test.YtbcjlbapgidhiaaGimLinesSame
namespace Go.Proofs.Ytbcjlbapgidhiaa
open Go.RowKit Go.Gim

set_option maxHeartbeats 3200000 in
set_option maxRecDepth 1000000 in
theorem linesPlace_any (w : World) (s : ByteArray) (f line col way : Int) (hs : s.size ≤ 300) (hc : IsInt col) :
    Calls Try.prog 17 #[.string s, .int .i64 f, .int .i64 line, .int .i64 col, .int .i64 way] w fun e w' => e = .returned (.bool true) ∧ Ext w w' := by
  have j1 : ¬ (300 : Int) < (s.size : Int) := by omega
  have Hc := Lib.hid hc
  clear hc
  go_enter Try.func17, Try.ntmps17
  go_wp2_with fail
  refine (linesof_any s _ (by omega)).mono ?_
  rintro e u1 ⟨R, rfl, hR, htx, hx, _⟩
  obtain ⟨a1, b1, e1, P1, Q1⟩ := place_same R s f way (by omega) htx
  obtain ⟨a2, e2, P2, Q2⟩ := offset_same R s line col way (by omega) htx Hc.out
  have P1 := Lib.hid P1
  have P2 := Lib.hid P2
  have Q1 := Lib.hid Q1
  have Q2 := Lib.hid Q2
  have ha : Ext u1 (u1.alloc (.cells #[.pointer (some ⟨R.rb, 0, none⟩)] 64)) := (Mod.refl _ u1).alloc _
  have hRa := hR.ext ha
  clear htx
  go_wp2_with fail
  refine (P1.out _ hRa).mono ?_
  rintro e u2 ⟨rfl, y⟩
  have k := box_cell y
  go_wp2_with fail
  refine (Q1.out _).mono ?_
  rintro e u3 ⟨rfl, y'⟩
  replace y := y.ext_trans y'
  replace k := box_cell y
  clear y'
  go_wp2_with fail
  refine (P2.out _ (hRa.ext y)).mono ?_
  rintro e u4 ⟨rfl, y'⟩
  replace y := y.ext_trans y'
  clear k y'
  go_wp2_with fail
  refine (Q2.out _).mono ?_
  rintro e u5 ⟨rfl, y'⟩
  replace y := y.ext_trans y'
  clear y'
  go_wp2_with fail
  refine (awake4_any _).mono ?_
  rintro e v3 ⟨rfl, y'⟩
  go_wp2_with fail
  go_ret
  exact ⟨rfl, ((hx.ext_trans ha).ext_trans y).ext_trans y'⟩

set_option maxHeartbeats 800000 in
set_option maxRecDepth 1000000 in
theorem linesPlace_calls (w : World) (s : ByteArray) (ws : s.size ≤ 9223372036854775807) (f : Int) (wf : (Lit.int .i64 f).wf = true) (line : Int) (wl : (Lit.int .i64 line).wf = true) (col : Int) (wc : (Lit.int .i64 col).wf = true) (way : Int) (ww : (Lit.int .i64 way).wf = true) :
    Calls Try.prog 17 #[.string s, .int .i64 f, .int .i64 line, .int .i64 col, .int .i64 way] w fun e w' => e = .returned (.bool true) ∧ Ext w w' := by
  by_cases h1 : s.size ≤ 300
  · exact linesPlace_any w s f line col way h1 (i64_in wc)
  · have j1 : (300 : Int) < (s.size : Int) := by omega
    clear ws wl wf wc ww
    go_enter Try.func17, Try.ntmps17
    go_wp2_with fail
    refine (awake4_any _).mono ?_
    rintro e w1 ⟨rfl, hx⟩
    go_wp2_with fail
    go_ret
    exact ⟨rfl, hx⟩

end Go.Proofs.Ytbcjlbapgidhiaa

/- What rope's Insert and Delete compute. Conditions: a rope of at most 65536 bytes. -/
import Derived.Test.YtbcjlbapgidhiaaGimRepl
namespace Go.Proofs.Ytbcjlbapgidhiaa
open Go.RowKit Go.Gim

/-- OK, and the rope has another text. -/
def DonePost (R : Rp) (s : List UInt8) (w : World) (e : Ending) (w' : World) : Prop := e = .returned (.int .i64 0) ∧ ∃ R', Done R R' s w w'

set_option maxHeartbeats 800000 in
set_option maxRecDepth 1000000 in
theorem insert_nil (f : Int) (s : ByteArray) (w : World) : Calls Try.prog 31 #[.pointer none, .int .i64 f, .string s] w fun e w' => e = .returned (.int .i64 1) ∧ w' = w := by
  go_enter Try.func31, Try.ntmps31
  go_wp2_with fail
  go_ret
  exact ⟨rfl, rfl⟩
set_option maxHeartbeats 800000 in
set_option maxRecDepth 1000000 in
theorem insert_no (R : Rp) (f : Int) (s : ByteArray) (w : World) (h : RopeAt w R) (hn : risesB f f R.t.size = false) : Calls Try.prog 31 #[.pointer (some ⟨R.rb, 0, none⟩), .int .i64 f, .string s] w fun e w' => e = .returned (.int .i64 3) ∧ w' = w := by
  have hr := rises_any R f f w h
  rw [hn] at hr
  clear hn
  go_enter Try.func31, Try.ntmps31
  go_wp2_with fail
  refine hr.mono ?_
  rintro e w' ⟨rfl, rfl⟩
  go_wp2_with fail
  go_ret
  exact ⟨rfl, rfl⟩
set_option maxHeartbeats 800000 in
set_option maxRecDepth 1000000 in
theorem insert_big (R : Rp) (f : Int) (s : ByteArray) (w : World) (h : RopeAt w R) (hn : risesB f f R.t.size = true) (hs : 65536 < R.t.size + s.size) : Calls Try.prog 31 #[.pointer (some ⟨R.rb, 0, none⟩), .int .i64 f, .string s] w fun e w' => e = .returned (.int .i64 4) ∧ w' = w := by
  obtain ⟨_, c1, _, hb⟩ := h.cells
  have hsz := h.size
  have hr := rises_any R f f w h
  rw [hn] at hr
  have hs' : (65536 : Int) - (R.t.size : Int) < (s.size : Int) := by omega
  clear hn
  go_enter Try.func31, Try.ntmps31
  go_wp2_with fail
  refine hr.mono ?_
  rintro e w' ⟨rfl, rfl⟩
  go_wp2_with fail
  refine (size_any R.t _ h.tree).mono ?_
  rintro e w1 ⟨rfl, rfl⟩
  go_wp2_with fail
  go_ret
  exact ⟨rfl, rfl⟩
set_option maxHeartbeats 800000 in
set_option maxRecDepth 1000000 in
theorem insert_yes (R : Rp) (f : Int) (s : ByteArray) (w : World) (h : RopeAt w R) (hn : risesB f f R.t.size = true) (hs : R.t.size + s.size ≤ 65536) : Calls Try.prog 31 #[.pointer (some ⟨R.rb, 0, none⟩), .int .i64 f, .string s] w (DonePost R (splice R.text f f s.data.toList) w) := by
  obtain ⟨_, c1, _, hb⟩ := h.cells
  have hsz := h.size
  obtain ⟨g1, g2, g3⟩ := rises_out hn
  have hr := rises_any R f f w h
  rw [hn] at hr
  have hs' : ¬ (65536 : Int) - (R.t.size : Int) < (s.size : Int) := by omega
  clear hn
  go_enter Try.func31, Try.ntmps31
  go_wp2_with fail
  refine hr.mono ?_
  rintro e w' ⟨rfl, rfl⟩
  go_wp2_with fail
  refine (size_any R.t _ h.tree).mono ?_
  rintro e w1 ⟨rfl, rfl⟩
  go_wp2_with fail
  refine (repl_any R f f s _ h g1 g2 g3 (by omega)).mono ?_
  rintro e w2 ⟨rfl, R', hd⟩
  have Hd := Lib.hid hd
  clear hd
  go_wp2_with fail
  go_ret
  exact ⟨rfl, R', Hd.out⟩

set_option maxHeartbeats 800000 in
set_option maxRecDepth 1000000 in
theorem delete_nil (f g : Int) (w : World) : Calls Try.prog 34 #[.pointer none, .int .i64 f, .int .i64 g] w fun e w' => e = .returned (.int .i64 1) ∧ w' = w := by
  go_enter Try.func34, Try.ntmps34
  go_wp2_with fail
  go_ret
  exact ⟨rfl, rfl⟩
set_option maxHeartbeats 800000 in
set_option maxRecDepth 1000000 in
theorem delete_no (R : Rp) (f g : Int) (w : World) (h : RopeAt w R) (hn : risesB f g R.t.size = false) : Calls Try.prog 34 #[.pointer (some ⟨R.rb, 0, none⟩), .int .i64 f, .int .i64 g] w fun e w' => e = .returned (.int .i64 3) ∧ w' = w := by
  have hr := rises_any R f g w h
  rw [hn] at hr
  clear hn
  go_enter Try.func34, Try.ntmps34
  go_wp2_with fail
  refine hr.mono ?_
  rintro e w' ⟨rfl, rfl⟩
  go_wp2_with fail
  go_ret
  exact ⟨rfl, rfl⟩
set_option maxHeartbeats 800000 in
set_option maxRecDepth 1000000 in
theorem delete_yes (R : Rp) (f g : Int) (w : World) (h : RopeAt w R) (hn : risesB f g R.t.size = true) : Calls Try.prog 34 #[.pointer (some ⟨R.rb, 0, none⟩), .int .i64 f, .int .i64 g] w (DonePost R (splice R.text f g []) w) := by
  obtain ⟨_, c1, _, hb⟩ := h.cells
  have hsz := h.size
  obtain ⟨g1, g2, g3⟩ := rises_out hn
  have hr := rises_any R f g w h
  rw [hn] at hr
  clear hn
  go_enter Try.func34, Try.ntmps34
  go_wp2_with fail
  refine hr.mono ?_
  rintro e w' ⟨rfl, rfl⟩
  go_wp2_with fail
  refine (repl_any R f g ⟨#[]⟩ _ h g1 g2 g3 (by have : (⟨#[]⟩ : ByteArray).size = 0 := rfl; omega)).mono ?_
  rintro e w2 ⟨rfl, R', hd⟩
  have Hd := Lib.hid hd
  clear hd
  go_wp2_with fail
  go_ret
  exact ⟨rfl, R', Hd.out⟩

end Go.Proofs.Ytbcjlbapgidhiaa

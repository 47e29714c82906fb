/- What package lines computes of a rope's text: breaks, Many, has, Start, End, At, counts, ahead. Conditions: a rope of at most 65536 bytes. -/
import Derived.Test.YtmecdhbiinpepaaGimPackB
import Derived.Test.YtmecdhbiinpepaaGimPackA
namespace Go.Proofs.Ytmecdhbiinpepaa
open Go.RowKit Go.Gim

set_option maxHeartbeats 800000 in
set_option maxRecDepth 1000000 in
theorem linesOf_any (p : Option Addr) (w : World) : Calls Try.prog 17 #[.pointer p] w fun e w' => e = .returned (.agg #[.pointer p]) ∧ Ext w w' := by
  go_enter Try.func17, Try.ntmps17
  go_wp2_with fail
  go_returns
  exact ⟨rfl, (Mod.refl _ w).alloc _⟩

set_option maxHeartbeats 1600000 in
set_option maxRecDepth 1000000 in
theorem breaks_any (R : Rp) (f : Int) (w : World) (h : RopeAt w R) (hn : risesB f f R.t.size = true) : Calls Try.prog 54 #[.agg #[.pointer (some ⟨R.rb, 0, none⟩)], .int .i64 f] w fun e w' => e = .returned (.int .i64 (brk (R.text.take f.toNat) : Nat)) ∧ Ext w w' := by
  have hx0 : Ext w (w.alloc (.cells #[.pointer (some ⟨R.rb, 0, none⟩)] 35)) := (Mod.refl _ w).alloc _
  have hc := count_yes R f _ (h.ext hx0) hn
  generalize R.text.take f.toNat = X at *
  clear hn
  go_enter Try.func54, Try.ntmps54
  go_wp2_with fail
  refine hc.mono ?_
  rintro e w1 ⟨rfl, hx⟩
  clear hc
  go_wp2_with fail
  go_ret
  exact ⟨rfl, (hx0.ext_trans hx).alloc _⟩

set_option maxHeartbeats 800000 in
set_option maxRecDepth 1000000 in
theorem many_nil (w : World) : Calls Try.prog 26 #[.agg #[.pointer none]] w fun e w' => e = .returned (.int .i64 0) ∧ Ext w w' := by
  go_enter Try.func26, Try.ntmps26
  go_wp2_with fail
  go_ret
  exact ⟨rfl, (Mod.refl _ w).alloc _⟩
set_option maxHeartbeats 1600000 in
set_option maxRecDepth 1000000 in
theorem many_any (R : Rp) (w : World) (h : RopeAt w R) : Calls Try.prog 26 #[.agg #[.pointer (some ⟨R.rb, 0, none⟩)]] w fun e w' => e = .returned (.int .i64 (brk R.text + 1 : Nat)) ∧ Ext w w' := by
  have hx0 : Ext w (w.alloc (.cells #[.pointer (some ⟨R.rb, 0, none⟩)] 35)) := (Mod.refl _ w).alloc _
  have hsz := h.size
  have hb := brk_le R.text
  have hl : R.text.length = R.t.size := rfl
  have h0 := h.ext hx0
  have hc := fun v (hv : Ext (w.alloc (.cells #[.pointer (some ⟨R.rb, 0, none⟩)] 35)) v) => breaks_any R (R.t.size : Nat) v (h0.ext hv) (rises_of ⟨by omega, by omega, by omega⟩)
  rw [Int.toNat_natCast, ← hl, List.take_length, hl] at hc
  have hb2 : brk R.text ≤ 65536 := by omega
  have Hc := Lib.hid hc
  clear hc hb hl
  go_enter Try.func26, Try.ntmps26
  go_wp2_with fail
  refine wp_region_ext_lit (by kernel_rfl) (by kernel_rfl) ?_
  repeat (go_big_quiet_step (first | (with_reducible exact Calls.ext_of_same (len_any R _ (h0.ext (Mod.of_below (ext_below _ _))))) | (with_reducible exact Calls.ext_of (Hc.out _ (Mod.of_below (ext_below _ _))))))
  refine wpQuiet_nil ?_
  intro we hxe
  go_wp2_with fail
  go_ret
  exact ⟨ret_int (by omega), hx0.ext_trans hxe⟩

set_option maxHeartbeats 800000 in
set_option maxRecDepth 1000000 in
theorem has_nil (line : Int) (w : World) : Calls Try.prog 81 #[.agg #[.pointer none], .int .i64 line] w fun e w' => e = .returned (.int .i64 1) ∧ Ext w w' := by
  go_enter Try.func81, Try.ntmps81
  go_wp2_with fail
  go_ret
  exact ⟨rfl, (Mod.refl _ w).alloc _⟩
/-- Is there such a line? -/
def hasB (l : List UInt8) (line : Int) : Bool := decide (0 ≤ line ∧ line ≤ brk l)
theorem has_of {l : List UInt8} {line : Int} (h : 0 ≤ line ∧ line ≤ brk l) : hasB l line = true := decide_eq_true h
theorem has_out {l : List UInt8} {line : Int} (h : hasB l line = true) : 0 ≤ line ∧ line ≤ brk l := of_decide_eq_true h
theorem has_not {l : List UInt8} {line : Int} (h : ¬ (0 ≤ line ∧ line ≤ brk l)) : hasB l line = false := decide_eq_false h
theorem has_out_not {l : List UInt8} {line : Int} (h : hasB l line = false) : ¬ (0 ≤ line ∧ line ≤ brk l) := of_decide_eq_false h
set_option maxHeartbeats 1600000 in
set_option maxRecDepth 1000000 in
theorem has_no (R : Rp) (line : Int) (w : World) (h : RopeAt w R) (hn : hasB R.text line = false) : Calls Try.prog 81 #[.agg #[.pointer (some ⟨R.rb, 0, none⟩)], .int .i64 line] w fun e w' => e = .returned (.int .i64 3) ∧ Ext w w' := by
  have hx0 : Ext w (w.alloc (.cells #[.pointer (some ⟨R.rb, 0, none⟩)] 35)) := (Mod.refl _ w).alloc _
  have hm := many_any R _ (h.ext hx0)
  have hn2 := has_out_not hn
  generalize brk R.text = B at *
  clear hn
  by_cases h1 : line < 0
  · clear hm hn2
    go_enter Try.func81, Try.ntmps81
    go_wp2_with fail
    go_ret
    exact ⟨rfl, hx0⟩
  · have h1' : decide (line < 0) = false := by simpa using h1
    have h2 : ((B + 1 : Nat) : Int) ≤ line := by omega
    have h3 : (B : Int) + 1 ≤ line := by omega
    clear hn2
    go_enter Try.func81, Try.ntmps81
    go_wp2_with fail
    refine hm.mono ?_
    rintro e w1 ⟨rfl, hx⟩
    go_wp2_with fail
    go_ret
    exact ⟨rfl, hx0.ext_trans hx⟩
set_option maxHeartbeats 1600000 in
set_option maxRecDepth 1000000 in
theorem has_yes (R : Rp) (line : Int) (w : World) (h : RopeAt w R) (hn : hasB R.text line = true) : Calls Try.prog 81 #[.agg #[.pointer (some ⟨R.rb, 0, none⟩)], .int .i64 line] w fun e w' => e = .returned (.int .i64 0) ∧ Ext w w' := by
  have hx0 : Ext w (w.alloc (.cells #[.pointer (some ⟨R.rb, 0, none⟩)] 35)) := (Mod.refl _ w).alloc _
  have hm := many_any R _ (h.ext hx0)
  obtain ⟨h0, h2⟩ := has_out hn
  generalize brk R.text = B at *
  have h1' : decide (line < 0) = false := by simp; omega
  have h3 : ¬ ((B + 1 : Nat) : Int) ≤ line := by omega
  have h4 : ¬ (B : Int) + 1 ≤ line := by omega
  clear hn
  go_enter Try.func81, Try.ntmps81
  go_wp2_with fail
  refine hm.mono ?_
  rintro e w1 ⟨rfl, hx⟩
  go_wp2_with fail
  go_ret
  exact ⟨rfl, hx0.ext_trans hx⟩

end Go.Proofs.Ytmecdhbiinpepaa

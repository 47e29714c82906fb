/- What motion.Step answers of a text's lines. Conditions: a rope of at most 65536 bytes. -/
import Derived.Test.YtmecdhbiinpepaaGimStep
namespace Go.Proofs.Ytmecdhbiinpepaa
open Go.RowKit Go.Gim

set_option maxHeartbeats 800000 in
set_option maxRecDepth 1000000 in
theorem may_yes (r : Addr) (way : Int) (w : World) (h1 : 1 ≤ way) (h2 : way ≤ 10) :
    Calls Try.prog 36 #[.agg #[.pointer (some r)], .int .i64 way] w fun e w' => e = .returned (.int .i64 0) ∧ Ext w w' := by
  have j1 : ¬ way < 1 := by omega
  have j2 : ¬ 10 < way := by omega
  have i1 : decide (way < 1) = false := by simp; omega
  clear h1 h2
  go_enter Try.func36, Try.ntmps36
  go_wp2_with fail
  go_ret
  exact ⟨rfl, (Mod.refl _ w).alloc _⟩
set_option maxHeartbeats 800000 in
set_option maxRecDepth 1000000 in
theorem may_no (r : Option Addr) (way : Int) (w : World) (h : ¬ (1 ≤ way ∧ way ≤ 10)) :
    Calls Try.prog 36 #[.agg #[.pointer r], .int .i64 way] w fun e w' => e = .returned (.int .i64 2) ∧ Ext w w' := by
  by_cases h1 : way < 1
  · clear h
    go_enter Try.func36, Try.ntmps36
    go_wp2_with fail
    go_ret
    exact ⟨rfl, (Mod.refl _ w).alloc _⟩
  · have i1 : decide (way < 1) = false := by simpa using h1
    have h2 : 10 < way := by omega
    clear h
    go_enter Try.func36, Try.ntmps36
    go_wp2_with fail
    go_ret
    exact ⟨rfl, (Mod.refl _ w).alloc _⟩

set_option maxHeartbeats 1600000 in
set_option maxRecDepth 1000000 in
theorem step_way (r : Addr) (f way : Int) (w : World) (h : ¬ (1 ≤ way ∧ way ≤ 10)) :
    Calls Try.prog 16 #[.agg #[.pointer (some r)], .int .i64 f, .int .i64 way] w fun e w' => e = .returned (.tuple #[.int .i64 0, .int .i64 2]) ∧ Ext w w' := by
  have hx0 : Ext w (w.alloc (.cells #[.pointer (some r)] 35)) := (Mod.refl _ w).alloc _
  have hm := may_no (some r) way (w.alloc (.cells #[.pointer (some r)] 35)) h
  clear h
  go_enter Try.func16, Try.ntmps16
  go_wp2_with fail
  refine hm.mono ?_
  rintro e w1 ⟨rfl, hx⟩
  go_wp2_with fail
  go_ret2
  exact ⟨rfl, hx0.ext_trans hx⟩
set_option maxHeartbeats 1600000 in
set_option maxRecDepth 1000000 in
theorem step_no (R : Rp) (f way : Int) (w : World) (hR : RopeAt w R) (h1 : 1 ≤ way) (h2 : way ≤ 10) (hf : ¬ (0 ≤ f ∧ f ≤ R.t.size)) :
    Calls Try.prog 16 #[.agg #[.pointer (some ⟨R.rb, 0, none⟩)], .int .i64 f, .int .i64 way] w fun e w' => e = .returned (.tuple #[.int .i64 0, .int .i64 3]) ∧ Ext w w' := by
  have hx0 : Ext w (w.alloc (.cells #[.pointer (some ⟨R.rb, 0, none⟩)] 35)) := (Mod.refl _ w).alloc _
  have h0 := hR.ext hx0
  have hm := may_yes ⟨R.rb, 0, none⟩ way (w.alloc (.cells #[.pointer (some ⟨R.rb, 0, none⟩)] 35)) h1 h2
  have hln := fun v (hv : RopeAt v R) => len_any R v hv
  have Hl := Lib.hid hln
  clear h1 h2 hln
  by_cases hf0 : f < 0
  · clear hf
    go_enter Try.func16, Try.ntmps16
    go_wp2_with fail
    refine hm.mono ?_
    rintro e w1 ⟨rfl, hx⟩
    have c := box_cell hx
    go_wp2_with fail
    go_ret2
    exact ⟨rfl, hx0.ext_trans hx⟩
  · have i1 : decide (f < 0) = false := by simpa using hf0
    have hf1 : (R.t.size : Int) < f := by omega
    clear hf
    go_enter Try.func16, Try.ntmps16
    go_wp2_with fail
    refine hm.mono ?_
    rintro e w1 ⟨rfl, hx⟩
    have c := box_cell hx
    go_wp2_with fail
    refine (Hl.out _ (h0.ext hx)).mono ?_
    rintro e w2 ⟨rfl, rfl⟩
    go_wp2_with fail
    go_ret2
    exact ⟨rfl, hx0.ext_trans hx⟩
set_option maxHeartbeats 1600000 in
set_option maxRecDepth 1000000 in
theorem step_yes (R : Rp) (s : ByteArray) (a : Nat) (way : Int) (w : World) (hR : RopeAt w R) (ht : R.text = s.data.toList) (ha : a ≤ s.size) (h1 : 1 ≤ way) (h2 : way ≤ 10) :
    Calls Try.prog 16 #[.agg #[.pointer (some ⟨R.rb, 0, none⟩)], .int .i64 a, .int .i64 way] w fun e w' => e = .returned (.tuple #[.int .i64 (stepN s.data.toList a way : Nat), .int .i64 0]) ∧ Ext w w' := by
  have hx0 : Ext w (w.alloc (.cells #[.pointer (some ⟨R.rb, 0, none⟩)] 35)) := (Mod.refl _ w).alloc _
  have h0 := hR.ext hx0
  have hz := size_text ht
  have hm := may_yes ⟨R.rb, 0, none⟩ way (w.alloc (.cells #[.pointer (some ⟨R.rb, 0, none⟩)] 35)) h1 h2
  have hln := fun v (hv : RopeAt v R) => len_any R v hv
  rw [hz] at hln
  have htx := fun v (hv : RopeAt v R) => text_rope R v hv
  rw [bs_eq ht] at htx
  have hst := fun v (hv : RopeAt v R) => stepIn_any R s a way v hv ht ha h1 h2
  have Hl := Lib.hid hln
  have Ht := Lib.hid htx
  have Hs := Lib.hid hst
  have i1 : ¬ (a : Int) < 0 := by omega
  have i2 : ¬ (s.size : Int) < (a : Int) := by omega
  generalize stepN s.data.toList a way = U at *
  clear h1 h2 hln htx hst ht
  go_enter Try.func16, Try.ntmps16
  go_wp2_with fail
  refine hm.mono ?_
  rintro e w1 ⟨rfl, hx⟩
  have c := box_cell hx
  have h1 := h0.ext hx
  have hlt := World.block_lt_of_cell? w1 _ c
  go_wp2_with fail
  refine (Hl.out _ h1).mono ?_
  rintro e w2 ⟨rfl, rfl⟩
  go_wp2_with fail
  refine wp_region_ext_lit (by kernel_rfl) (by kernel_rfl) ?_
  repeat (go_big_quiet_step (first | (with_reducible exact Calls.ext_of (Ht.out _ (h1.ext (Mod.of_below (ext_below _ _))))) | (with_reducible exact Calls.ext_of (Hs.out _ (h1.ext (Mod.of_below (ext_below _ _)))))))
  refine wpQuiet_nil ?_
  intro we hxe
  go_wp2_with fail
  go_ret2
  exact ⟨rfl, (hx0.ext_trans hx).ext_trans hxe⟩

end Go.Proofs.Ytmecdhbiinpepaa

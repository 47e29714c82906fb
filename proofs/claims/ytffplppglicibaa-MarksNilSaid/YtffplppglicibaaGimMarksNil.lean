/- A nil table answers ErrNil, and zero values: the walks of its methods at nil. Conditions: none. -/
import Derived.Test.YtffplppglicibaaGimAwake7
import Derived.Handy
namespace Go.Proofs.Ytffplppglicibaa
open Go.RowKit Go.Gim

set_option maxHeartbeats 800000 in
set_option maxRecDepth 1000000 in
theorem tadd_nil (r : Rg) (w : World) :
    Calls Try.prog 15 #[.pointer none, .agg #[.int .i64 r.a, .int .i64 r.b, .bool r.p, .bool r.q, .int .i64 r.u]] w fun e w' => e = .returned (.tuple #[.int .i64 0, .int .i64 1]) ∧ Ext w w' := by
  obtain ⟨ra, rb, rp, rq, ru⟩ := r
  go_enter Try.func15, Try.ntmps15
  go_wp2_with fail
  go_returns
  exact ⟨rfl, (Mod.refl _ w).alloc _⟩
set_option maxHeartbeats 800000 in
set_option maxRecDepth 1000000 in
theorem tget_nil (id : Int) (w : World) :
    Calls Try.prog 18 #[.pointer none, .int .i64 id] w fun e w' => e = .returned (.tuple #[.agg #[.int .i64 0, .int .i64 0, .bool false, .bool false, .int .i64 0], .bool false]) ∧ Ext w w' := by
  obtain ⟨u, hu⟩ : ∃ u, u = w.alloc (.cells #[.int .i64 0, .int .i64 0, .bool false, .bool false, .int .i64 0] 33) := ⟨_, rfl⟩
  have hxu : Ext w u := by rw [hu]; exact (Mod.refl _ w).alloc _
  have hbu : Blk u w.heap.size 33 #[.int .i64 0, .int .i64 0, .bool false, .bool false, .int .i64 0] := by rw [hu]; exact Blk.new _ _ _
  have d0 := Blk.cell hbu 0
  have d1 := Blk.cell hbu 1
  have d2 := Blk.cell hbu 2
  have d3 := Blk.cell hbu 3
  have d4 := Blk.cell hbu 4
  simp only [List.getElem?_toArray, List.getElem?_cons_zero, List.getElem?_cons_succ] at d0 d1 d2 d3 d4
  have f0 := Blk.free hbu 0
  have f1 := Blk.free hbu 1
  have f2 := Blk.free hbu 2
  have f3 := Blk.free hbu 3
  have f4 := Blk.free hbu 4
  have hlt2 := Blk.lt hbu
  go_enter Try.func18, Try.ntmps18
  go_upto_region 1 with fail
  rw [← hu]
  clear hu
  go_wp2_with fail
  have hres := ((((hbu.set 0 (.int .i64 0)).set 1 (.int .i64 0)).set 2 (.bool false)).set 3 (.bool false)).set 4 (.int .i64 0)
  refine bodyPost_ret (results_cell2 rfl _ _ w.heap.size _ #[.int .i64 0, .int .i64 0, .bool false, .bool false, .int .i64 0] (0, 0) _ rfl hres Try.underlying33 rfl rangeSize) rfl ?_
  exact ⟨rfl, ((((hxu.setCell (by simp) _).setCell (by simp) _).setCell (by simp) _).setCell (by simp) _).setCell (by simp) _⟩
set_option maxHeartbeats 800000 in
set_option maxRecDepth 1000000 in
theorem tpose_nil (id : Int) (p q : Bool) (w : World) :
    Calls Try.prog 16 #[.pointer none, .int .i64 id, .bool p, .bool q] w fun e w' => e = .returned (.int .i64 1) ∧ Ext w w' := by
  go_enter Try.func16, Try.ntmps16
  go_wp2_with fail
  go_ret
  exact ⟨rfl, Mod.refl _ w⟩
set_option maxHeartbeats 800000 in
set_option maxRecDepth 1000000 in
theorem tdrop_nil (id : Int) (w : World) :
    Calls Try.prog 24 #[.pointer none, .int .i64 id] w fun e w' => e = .returned (.int .i64 1) ∧ Ext w w' := by
  go_enter Try.func24, Try.ntmps24
  go_wp2_with fail
  go_ret
  exact ⟨rfl, Mod.refl _ w⟩
set_option maxHeartbeats 800000 in
set_option maxRecDepth 1000000 in
theorem tids_nil (w : World) :
    Calls Try.prog 23 #[.pointer none] w fun e w' => e = .returned (.slice none 0 0) ∧ Ext w w' := by
  go_enter Try.func23, Try.ntmps23
  go_wp2_with fail
  go_ret
  exact ⟨rfl, Mod.refl _ w⟩
set_option maxHeartbeats 800000 in
set_option maxRecDepth 1000000 in
theorem twhere_nil (v : Value) (w : World) :
    Calls Try.prog 47 #[.pointer none, v] w fun e w' => e = .returned (.slice none 0 0) ∧ Ext w w' := by
  go_enter Try.func47, Try.ntmps47
  go_wp2_with fail
  refine (tids_nil _).mono ?_
  rintro e w1 ⟨rfl, hx⟩
  go_wp2_with fail
  go_loopw [5, 11] (fun v i wr => v = .slice none 0 0 ∧ i = .int .i64 0 ∧ wr = w1) (fun _ _ _ => 0)
  case atStart => exact ⟨rfl, rfl, rfl⟩
  case round =>
    obtain ⟨rfl, rfl, rfl⟩ := hrel
    go_wp2_with fail
    go_ret
    exact ⟨rfl, hx⟩
set_option maxHeartbeats 800000 in
set_option maxRecDepth 1000000 in
theorem tkids_nil (id : Int) (w : World) :
    Calls Try.prog 27 #[.pointer none, .int .i64 id] w fun e w' => e = .returned (.slice none 0 0) ∧ Ext w w' := by
  go_enter Try.func27, Try.ntmps27
  go_wp2_with fail
  refine (twhere_nil _ _).mono ?_
  rintro e w2 ⟨rfl, hx2⟩
  go_wp2_with fail
  go_ret
  exact ⟨rfl, ((Mod.refl _ w).alloc _).ext_trans hx2⟩
set_option maxHeartbeats 800000 in
set_option maxRecDepth 1000000 in
theorem tat_nil (id : Int) (w : World) :
    Calls Try.prog 29 #[.pointer none, .int .i64 id] w fun e w' => e = .returned (.slice none 0 0) ∧ Ext w w' := by
  go_enter Try.func29, Try.ntmps29
  go_wp2_with fail
  refine (twhere_nil _ _).mono ?_
  rintro e w2 ⟨rfl, hx2⟩
  go_wp2_with fail
  go_ret
  exact ⟨rfl, ((Mod.refl _ w).alloc _).ext_trans hx2⟩
set_option maxHeartbeats 800000 in
set_option maxRecDepth 1000000 in
theorem tmove_nil (v : Value) (w : World) :
    Calls Try.prog 17 #[.pointer none, v] w fun e w' => e = .returned (.int .i64 1) ∧ Ext w w' := by
  go_enter Try.func17, Try.ntmps17
  go_wp2_with fail
  go_ret
  exact ⟨rfl, Mod.refl _ w⟩
set_option maxHeartbeats 800000 in
set_option maxRecDepth 1000000 in
theorem ttwin_nil (w : World) :
    Calls Try.prog 20 #[.pointer none] w fun e w' => e = .returned (.pointer none) ∧ Ext w w' := by
  go_enter Try.func20, Try.ntmps20
  go_wp2_with fail
  go_ret
  exact ⟨rfl, Mod.refl _ w⟩

set_option maxHeartbeats 1600000 in
set_option maxRecDepth 1000000 in
theorem marksNil_calls (w : World) (a : Int) (_ : (Lit.int .i64 a).wf = true) (b : Int) (_ : (Lit.int .i64 b).wf = true) (r : Rg) :
    Calls Try.prog 11 #[.int .i64 a, .int .i64 b, .agg #[.int .i64 r.a, .int .i64 r.b, .bool r.p, .bool r.q, .int .i64 r.u]] w fun e w' => e = .returned (.bool true) ∧ Ext w w' := by
  have HA := Lib.hid (fun w' => tadd_nil r w')
  obtain ⟨ra, rb, rp, rq, ru⟩ := r
  simp only at HA ⊢
  go_enter Try.func11, Try.ntmps11
  go_wp2_with fail
  refine (HA.out _).mono ?_
  rintro e w1 ⟨rfl, hx1⟩
  clear HA
  go_wp2_with fail
  refine (tget_nil _ _).mono ?_
  rintro e w2 ⟨rfl, hx2⟩
  have y2 := ((Mod.refl (fun _ => False) w).alloc _).ext_trans (hx1.ext_trans hx2)
  clear hx1 hx2
  go_wp2_with fail
  refine (tpose_nil _ _ _ _).mono ?_
  rintro e w3 ⟨rfl, hx3⟩
  go_wp2_with fail
  refine (tdrop_nil _ _).mono ?_
  rintro e w4 ⟨rfl, hx4⟩
  go_wp2_with fail
  refine (tids_nil _).mono ?_
  rintro e w5 ⟨rfl, hx5⟩
  go_wp2_with fail
  refine (tkids_nil _ _).mono ?_
  rintro e w6 ⟨rfl, hx6⟩
  go_wp2_with fail
  refine (tat_nil _ _).mono ?_
  rintro e w7 ⟨rfl, hx7⟩
  go_wp2_with fail
  refine (tmove_nil _ _).mono ?_
  rintro e w8 ⟨rfl, hx8⟩
  go_wp2_with fail
  refine (ttwin_nil _).mono ?_
  rintro e w9 ⟨rfl, hx9⟩
  go_wp2_with fail
  refine (awake7_any _).mono ?_
  rintro e w10 ⟨rfl, hx10⟩
  go_wp2_with fail
  go_ret
  exact ⟨rfl, (y2.alloc _).ext_trans (hx3.ext_trans (hx4.ext_trans (hx5.ext_trans (hx6.ext_trans (hx7.ext_trans (hx8.ext_trans (hx9.ext_trans hx10)))))))⟩
end Go.Proofs.Ytffplppglicibaa

/- What package tally's Of computes. Conditions: texts of at most 1000000 bytes. -/
import Derived.Test.YtmecdhbiinpepaaDoorGimTally
import Derived.Laws.Rows
namespace Go.Proofs.YtmecdhbiinpepaaDoor
open Go.RowKit Go.Gim

end Go.Proofs.YtmecdhbiinpepaaDoor
namespace Go.Gim
open Go.RowKit
theorem Blk.new1 (w : World) (o : Obj) (T : TypeId) (cs : Array Value) : Blk ((w.alloc o).alloc (.cells cs T)) (w.heap.size + 1) T cs := by
  have := Blk.new (w.alloc o) T cs
  simpa using this
end Go.Gim
namespace Go.Proofs.YtmecdhbiinpepaaDoor
open Go.RowKit Go.Gim
theorem tallySize : (Tryd.prog.info? 97).map (·.size) = some 4 := by kernel_rfl
set_option maxHeartbeats 800000 in
set_option maxRecDepth 1000000 in
theorem of_any (s : ByteArray) (w : World) (hs : s.size ≤ 1000000) : Calls Tryd.prog 80 #[.string s] w fun e w' => e = .returned (.agg (#[Value.int IntKind.i64 ((byt (s.data.toList) : Nat) : Int), Value.int IntKind.i64 ((brk (s.data.toList) : Nat) : Int), Value.int IntKind.i64 ((run (s.data.toList) : Nat) : Int), Value.int IntKind.i64 ((unt (s.data.toList) : Nat) : Int)] : Array Value)) ∧ Ext w w' := by
  go_enter Tryd.func80, Tryd.ntmps80
  go_wp2_with fail
  go_loopw [4] (fun i wr => ∃ k : Nat, k ≤ s.size ∧ i = .int .i64 k ∧ Blk wr (w.heap.size + 1) 97 (#[Value.int IntKind.i64 ((byt (s.data.toList.take k) : Nat) : Int), Value.int IntKind.i64 ((brk (s.data.toList.take k) : Nat) : Int), Value.int IntKind.i64 ((run (s.data.toList.take k) : Nat) : Int), Value.int IntKind.i64 ((unt (s.data.toList.take k) : Nat) : Int)] : Array Value) ∧ Blk wr w.heap.size 97 (#[Value.int IntKind.i64 ((byt ([]) : Nat) : Int), Value.int IntKind.i64 ((brk ([]) : Nat) : Int), Value.int IntKind.i64 ((run ([]) : Nat) : Int), Value.int IntKind.i64 ((unt ([]) : Nat) : Int)] : Array Value) ∧ Ext w wr) (fun i _ => s.size - (intOf i).toNat)
  case atStart => exact ⟨0, by omega, rfl, Blk.new1 _ _ _ _, (Blk.new _ _ _).alloc _, ((Mod.refl _ w).alloc _).alloc _⟩
  case round =>
    obtain ⟨k, hk, rfl, hb, hr, hx⟩ := hrel
    by_cases hlt : k < s.size
    · have hlt' : (k : Int) < (s.size : Int) := by omega
      obtain ⟨c0, c1, c2, c3, f0, f1, f2, f3⟩ := hb.tal
      have hlt2 := hb.lt
      go_wp2_with fail
      refine wp_region_ext_tail 6 (by kernel_rfl) (by kernel_rfl) ?_
      simp only [List.take_succ_cons, List.take_zero, List.drop_succ_cons, List.drop_zero]
      repeat (go_big_quiet_step (first | exact Calls.ext_of (byteTally_any _ _) | exact Calls.ext_of (plus_any (s.data.toList.take k) [s[k]] _ (by simp; omega))))
      refine wpQuiet_nil ?_
      intro we hxe
      clear c0 c1 c2 c3 f0 f1 f2 f3
      obtain ⟨c0, c1, c2, c3, f0, f1, f2, f3⟩ := (hb.mod hxe (fun f => f)).tal
      go_wp2_with fail
      go_roundw
      case rel =>
        refine ⟨k + 1, by omega, by go_num, ?_, ?_, ?_⟩
        · rw [show s.data.toList.take (k + 1) = s.data.toList.take k ++ [s[k]] from by rw [← toList_get s k hlt, List.take_append_getElem]]
          exact ((((hb.mod hxe (fun f => f)).set 0 _).set 1 _).set 2 _).set 3 _
        · exact ((((hr.mod hxe (fun f => f)).set_other (by simp) _).set_other (by simp) _).set_other (by simp) _).set_other (by simp) _
        · exact ((((hx.ext_trans hxe).setCell (by simp) _).setCell (by simp) _).setCell (by simp) _).setCell (by simp) _
      case measure => simp [intOf]; omega
    · have hlt' : ¬ ((k : Int) < (s.size : Int)) := by omega
      obtain ⟨c0, c1, c2, c3, f0, f1, f2, f3⟩ := hb.tal
      obtain ⟨d0, d1, d2, d3, g0, g1, g2, g3⟩ := hr.tal
      go_wp2_with fail
      have hres := ((((hr.set 0 (.int .i64 (byt (s.data.toList.take k) : Nat))).set 1 (.int .i64 (brk (s.data.toList.take k) : Nat))).set 2 (.int .i64 (run (s.data.toList.take k) : Nat))).set 3 (.int .i64 (unt (s.data.toList.take k) : Nat)))
      refine bodyPost_ret (results_cell_row rfl _ _ w.heap.size _ (#[Value.int IntKind.i64 ((byt (s.data.toList.take k) : Nat) : Int), Value.int IntKind.i64 ((brk (s.data.toList.take k) : Nat) : Int), Value.int IntKind.i64 ((run (s.data.toList.take k) : Nat) : Int), Value.int IntKind.i64 ((unt (s.data.toList.take k) : Nat) : Int)] : Array Value) (0, 0) _ rfl hres Tryd.underlying97 rfl tallySize) rfl ?_
      have e : s.data.toList.take k = s.data.toList := List.take_of_length_le (by rw [toList_length]; omega)
      rw [e]
      refine ⟨rfl, ?_⟩
      exact (((hx.setCell (by simp) _).setCell (by simp) _).setCell (by simp) _).setCell (by simp) _
end Go.Proofs.YtmecdhbiinpepaaDoor

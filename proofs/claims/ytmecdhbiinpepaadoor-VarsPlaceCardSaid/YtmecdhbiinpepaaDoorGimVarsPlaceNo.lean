/- The document's Place, refused. Conditions: none. -/
import Derived.Test.YtmecdhbiinpepaaDoorGimRefPlace
namespace Go.Proofs.YtmecdhbiinpepaaDoor
open Go.RowKit Go.Gim
set_option maxHeartbeats 800000 in
set_option maxRecDepth 1000000 in
theorem docPlace_no (s : ByteArray) (x : Int × Int) (v : Value) (w : World) (hn : mayV (spanI x) s.size = false) :
    Calls Tryd.prog 14 #[.string s, .agg #[.int .i64 x.1, .int .i64 x.2], v] w fun e w' => e = .returned (.tuple #[.slice none 0 0, .int .i64 3]) ∧ Ext w w' := by
  have hno : (spanI x).1 < 0 ∨ (s.size : Int) < (spanI x).2 := by
    unfold mayV spanI at hn
    have hn := of_decide_eq_false hn
    simp only at hn
    unfold spanI
    simp only
    omega
  obtain ⟨wa, hwa⟩ : ∃ wa, wa = w.alloc (.cells #[.int .i64 x.1, .int .i64 x.2] 23) := ⟨_, rfl⟩
  have hxa : Ext w wa := by rw [hwa]; exact (Mod.refl _ w).alloc _
  have hb4 : Blk wa w.heap.size 23 #[.int .i64 x.1, .int .i64 x.2] := by rw [hwa]; exact Blk.new _ _ _
  go_enter Tryd.func14, Tryd.ntmps14
  go_wp2_with fail
  rw [← hwa]
  clear hwa
  refine (refSpanV_any x wa).mono ?_
  rintro e wb ⟨rfl, hx1⟩
  generalize (spanI x).1 = lo at *
  generalize (spanI x).2 = hi at *
  clear hn
  by_cases h1 : lo < 0
  · go_wp2_with fail
    go_ret2
    exact ⟨rfl, (hxa.ext_trans hx1).alloc _⟩
  · have h2 : (s.size : Int) < hi := by omega
    go_wp2_with fail
    go_ret2
    exact ⟨rfl, (hxa.ext_trans hx1).alloc _⟩
end Go.Proofs.YtmecdhbiinpepaaDoor

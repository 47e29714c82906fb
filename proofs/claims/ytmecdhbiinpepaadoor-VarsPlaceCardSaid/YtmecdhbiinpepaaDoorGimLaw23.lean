/- The small functions of gimletlaw23: of. Conditions: none. -/
import Derived.Test.YtmecdhbiinpepaaDoorGimPackC
import Derived.Test.YtmecdhbiinpepaaDoorGimPackZ
namespace Go.Proofs.YtmecdhbiinpepaaDoor
open Go.RowKit Go.Gim

theorem linesSize23 : (Tryd.prog.info? 29).map (·.size) = some 1 := by kernel_rfl
/-- Lines of a text: a rope of it, all new. -/
def OfPost23 (s : List UInt8) (w : World) (e : Ending) (w' : World) : Prop := ∃ R : Rp, e = .returned (.tuple #[.agg #[.pointer (some ⟨R.rb, 0, none⟩)], .bool true]) ∧ RopeAt w' R ∧ R.text = s ∧ Ext w w' ∧ R.New w ∧ ∀ k, R.D.sv.ownBlock = some k → w.heap.size ≤ k

set_option maxHeartbeats 1600000 in
set_option maxRecDepth 1000000 in
theorem of23_any (s : ByteArray) (w : World) (hs : s.size ≤ 65536) : Calls Tryd.prog 12 #[.string s] w (OfPost23 s.data.toList w) := by
  go_enter Tryd.func12, Tryd.ntmps12
  go_wp2_with fail
  obtain ⟨wa, hwa⟩ : ∃ wa, wa = w.alloc (.cells #[.pointer none] 29) := ⟨_, rfl⟩
  have hxa : Ext w wa := by rw [hwa]; exact (Mod.refl _ w).alloc _
  have hba : Blk wa w.heap.size 29 #[.pointer none] := by rw [hwa]; exact Blk.new _ _ _
  rw [show w.heap.size + 1 = wa.heap.size from by rw [hwa]; simp, ← hwa]
  clear hwa
  refine (dice_lit wa [8] #[.int .u32 8] rfl (by simp) (by simp)).mono ?_
  rintro e u1 ⟨D1, rfl, hD1⟩
  go_wp2_with fail
  refine (rope_one D1 s _ hD1.dice hs).mono ?_
  rintro e u2 ⟨R, rfl, hF⟩
  obtain ⟨hx2, hn2⟩ := hF.based hxa hD1
  have hR := hF.rope
  have hlt := hba.lt
  have hb2 : Blk u2 w.heap.size 29 #[.pointer none] := (hba.mod hD1.ext (fun f => f)).mod hF.mod (fun e => by have := hD1.d; omega)
  have hrbn : ∀ k ∈ R.all, w.heap.size ≠ k := fun k hk => by have := hF.new k hk; have := hD1.ext.size; omega
  have hdn : w.heap.size ≠ R.D.d := by rw [hF.dice]; have := hD1.d; omega
  have hsn : R.D.sv.ownBlock ≠ some w.heap.size := by rw [hF.dice]; intro e; have := hD1.sv _ e; omega
  have hsv : ∀ k, R.D.sv.ownBlock = some k → w.heap.size ≤ k := fun k hk => Nat.le_trans hxa.size (hD1.sv k (by rw [← hF.dice]; exact hk))
  have htx := hF.text
  have Htx := Lib.hid htx
  clear hF hba htx
  go_wp2_with fail
  refine (linesOf_any _ _).mono ?_
  rintro e u3 ⟨rfl, y3⟩
  have hb3 := hb2.mod y3 (fun f => f)
  have hR3 := hR.ext y3
  have hx3 := hx2.ext_trans y3
  have c0 := hb3.cell 0
  have f0 := hb3.free 0
  have hl3 := hb3.lt
  go_wp2_with fail
  have hset : Mod (· = w.heap.size) u3 (u3.setCell ⟨w.heap.size, 0, none⟩ (.pointer (some ⟨R.rb, 0, none⟩))) := (Mod.refl (· = w.heap.size) u3).setCell (p := ⟨w.heap.size, 0, none⟩) (fun _ => rfl) _
  refine bodyPost_ret (results_cell_row2 rfl _ _ w.heap.size _ #[.pointer (some ⟨R.rb, 0, none⟩)] (0, 0) _ rfl (hb3.set 0 _) Tryd.underlying29 rfl linesSize23) rfl ?_
  refine ⟨R, rfl, hR3.far hset (fun k hk e => ?_) (fun k hk e => hsn (by rw [hk, e])), Htx.out, hx3.setCell (by simp) _, hn2, hsv⟩
  rcases hk with hk | hk
  · exact hrbn k hk e.symm
  · exact hdn (e.symm.trans hk)
end Go.Proofs.YtmecdhbiinpepaaDoor

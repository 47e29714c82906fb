/- The small functions of gimletlaw4: of, awake. Conditions: none. -/
import Derived.Test.YtbcjlbapgidhiaaGimRef5
namespace Go.Proofs.Ytbcjlbapgidhiaa
open Go.RowKit Go.Gim

theorem linesSize : (Try.prog.info? 64).map (·.size) = some 1 := by kernel_rfl
/-- Lines of a text: a rope of it, all new. -/
def OfPost (s : List UInt8) (w : World) (e : Ending) (w' : World) : Prop := ∃ R : Rp, e = .returned (.tuple #[.agg #[.pointer (some ⟨R.rb, 0, none⟩)], .bool true]) ∧ RopeAt w' R ∧ R.text = s ∧ Ext w w' ∧ R.New w ∧ ∀ k, R.D.sv.ownBlock = some k → w.heap.size ≤ k

set_option maxHeartbeats 1600000 in
set_option maxRecDepth 1000000 in
theorem linesof_any (s : ByteArray) (w : World) (hs : s.size ≤ 65536) : Calls Try.prog 42 #[.string s] w (OfPost s.data.toList w) := by
  go_enter Try.func42, Try.ntmps42
  go_wp2_with fail
  obtain ⟨wa, hwa⟩ : ∃ wa, wa = w.alloc (.cells #[.pointer none] 64) := ⟨_, rfl⟩
  have hxa : Ext w wa := by rw [hwa]; exact (Mod.refl _ w).alloc _
  have hba : Blk wa w.heap.size 64 #[.pointer none] := by rw [hwa]; exact Blk.new _ _ _
  rw [show w.heap.size + 1 = wa.heap.size from by rw [hwa]; simp, ← hwa]
  clear hwa
  refine (dice_lit wa [6, 2] #[.int .u32 6, .int .u32 2] rfl (by simp) (by simp)).mono ?_
  rintro e u1 ⟨D1, rfl, hD1⟩
  go_wp2_with fail
  refine (rope_one D1 s _ hD1.dice hs).mono ?_
  rintro e u2 ⟨R, rfl, hF⟩
  obtain ⟨hx2, hn2⟩ := hF.based hxa hD1
  have hR := hF.rope
  have hlt := hba.lt
  have hb2 : Blk u2 w.heap.size 64 #[.pointer none] := (hba.mod hD1.ext (fun f => f)).mod hF.mod (fun e => by have := hD1.d; omega)
  have hrbn : ∀ k ∈ R.all, w.heap.size ≠ k := fun k hk => by have := hF.new k hk; have := hD1.ext.size; omega
  have hdn : w.heap.size ≠ R.D.d := by rw [hF.dice]; have := hD1.d; omega
  have hsn : R.D.sv.ownBlock ≠ some w.heap.size := by rw [hF.dice]; intro e; have := hD1.sv _ e; omega
  have hsv : ∀ k, R.D.sv.ownBlock = some k → w.heap.size ≤ k := fun k hk => Nat.le_trans hxa.size (hD1.sv k (by rw [← hF.dice]; exact hk))
  have htx := hF.text
  have Htx := Lib.hid htx
  clear hF hba htx
  go_wp2_with fail
  refine (linesOf_any _ _).mono ?_
  rintro e u3 ⟨rfl, y3⟩
  have hb3 := hb2.mod y3 (fun f => f)
  have hR3 := hR.ext y3
  have hx3 := hx2.ext_trans y3
  have c0 := hb3.cell 0
  have f0 := hb3.free 0
  have hl3 := hb3.lt
  go_wp2_with fail
  have hset : Mod (· = w.heap.size) u3 (u3.setCell ⟨w.heap.size, 0, none⟩ (.pointer (some ⟨R.rb, 0, none⟩))) := (Mod.refl (· = w.heap.size) u3).setCell (p := ⟨w.heap.size, 0, none⟩) (fun _ => rfl) _
  refine bodyPost_ret (results_cell_row2 rfl _ _ w.heap.size _ #[.pointer (some ⟨R.rb, 0, none⟩)] (0, 0) _ rfl (hb3.set 0 _) Try.underlying64 rfl linesSize) rfl ?_
  refine ⟨R, rfl, hR3.far hset (fun k hk e => ?_) (fun k hk e => hsn (by rw [hk, e])), Htx.out, hx3.setCell (by simp) _, hn2, hsv⟩
  rcases hk with hk | hk
  · exact hrbn k hk e.symm
  · exact hdn (e.symm.trans hk)

set_option maxHeartbeats 1600000 in
set_option maxRecDepth 1000000 in
theorem awake4_any (w : World) : Calls Try.prog 41 #[] w fun e w' => e = .returned (.bool true) ∧ Ext w w' := by
  go_enter Try.func41, Try.ntmps41
  go_wp2_with fail
  refine (linesof_any ⟨#[97, 98, 10, 9, 99]⟩ _ (by decide)).mono ?_
  rintro e u1 ⟨R, rfl, hR, htx, hx, _⟩
  have htx2 : R.text = [97, 98, 10, 9, 99] := htx
  have h1 := fun v (hv : Ext u1 v) => start_yes R 1 v (hR.ext hv) (by rw [htx2]; decide)
  rw [htx2, show lineN [97, 98, 10, 9, 99] 1 = 3 from by decide] at h1
  have h2 := fun v (hv : Ext u1 v) => indent_yes R 1 v (hR.ext hv) (by rw [htx2]; decide)
  unfold IndentPost at h2
  rw [htx2, show bs (blanks (cut [97, 98, 10, 9, 99] (lineN [97, 98, 10, 9, 99] 1) (lineE [97, 98, 10, 9, 99] 1))) = ⟨#[9]⟩ from by decide] at h2
  have h3 := fun v (hv : Ext u1 v) => offset_yes R 0 9 0 v (hR.ext hv) (by decide) (by rw [htx2]; decide)
  unfold OffsetPost at h3
  rw [htx2, show offN [97, 98, 10, 9, 99] 0 9 0 = 2 from by decide] at h3
  have h4 := fun v (hv : Ext u1 v) => many_any R v (hR.ext hv)
  rw [htx2, show brk [97, 98, 10, 9, 99] = 1 from by decide] at h4
  have H1 := Lib.hid h1
  have H2 := Lib.hid h2
  have H3 := Lib.hid h3
  have H4 := Lib.hid h4
  clear h1 h2 h3 h4 htx htx2
  have ha : Ext u1 (u1.alloc (.cells #[.pointer (some ⟨R.rb, 0, none⟩)] 64)) := (Mod.refl _ u1).alloc _
  go_wp2_with fail
  refine (H1.out _ ha).mono ?_
  rintro e u2 ⟨rfl, y2⟩
  have k2 := box_cell y2
  go_wp2_with fail
  refine (H2.out _ (ha.ext_trans y2)).mono ?_
  rintro e u3 ⟨rfl, y3⟩
  have y3 := y2.ext_trans y3
  have k3 := box_cell y3
  clear k2
  go_wp2_with fail
  refine (H3.out _ (ha.ext_trans y3)).mono ?_
  rintro e u4 ⟨rfl, y4⟩
  have y4 := y3.ext_trans y4
  have k4 := box_cell y4
  clear k3
  go_wp2_with fail
  refine (H4.out _ (ha.ext_trans y4)).mono ?_
  rintro e u5 ⟨rfl, y5⟩
  have y5 := y4.ext_trans y5
  go_wp2_with fail
  go_ret
  exact ⟨rfl, (hx.ext_trans ha).ext_trans y5⟩

end Go.Proofs.Ytbcjlbapgidhiaa

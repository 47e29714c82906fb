/- The small functions of gimletlaw9: of, awake. Conditions: none. -/
import Derived.Test.YtmecdhbiinpepaaGimOne
namespace Go.Proofs.Ytmecdhbiinpepaa
open Go.RowKit Go.Gim

theorem linesSize9 : (Try.prog.info? 35).map (·.size) = some 1 := by kernel_rfl
/-- Lines of a text: a rope of it, all new. -/
def OfPost9 (s : List UInt8) (w : World) (e : Ending) (w' : World) : Prop := ∃ R : Rp, e = .returned (.tuple #[.agg #[.pointer (some ⟨R.rb, 0, none⟩)], .bool true]) ∧ RopeAt w' R ∧ R.text = s ∧ Ext w w' ∧ R.New w ∧ ∀ k, R.D.sv.ownBlock = some k → w.heap.size ≤ k

set_option maxHeartbeats 1600000 in
set_option maxRecDepth 1000000 in
theorem of9_any (s : ByteArray) (w : World) (hs : s.size ≤ 65536) : Calls Try.prog 19 #[.string s] w (OfPost9 s.data.toList w) := by
  go_enter Try.func19, Try.ntmps19
  go_wp2_with fail
  obtain ⟨wa, hwa⟩ : ∃ wa, wa = w.alloc (.cells #[.pointer none] 35) := ⟨_, rfl⟩
  have hxa : Ext w wa := by rw [hwa]; exact (Mod.refl _ w).alloc _
  have hba : Blk wa w.heap.size 35 #[.pointer none] := by rw [hwa]; exact Blk.new _ _ _
  rw [show w.heap.size + 1 = wa.heap.size from by rw [hwa]; simp, ← hwa]
  clear hwa
  refine (dice_lit wa [4, 1] #[.int .u32 4, .int .u32 1] rfl (by simp) (by simp)).mono ?_
  rintro e u1 ⟨D1, rfl, hD1⟩
  go_wp2_with fail
  refine (rope_one D1 s _ hD1.dice hs).mono ?_
  rintro e u2 ⟨R, rfl, hF⟩
  obtain ⟨hx2, hn2⟩ := hF.based hxa hD1
  have hR := hF.rope
  have hlt := hba.lt
  have hb2 : Blk u2 w.heap.size 35 #[.pointer none] := (hba.mod hD1.ext (fun f => f)).mod hF.mod (fun e => by have := hD1.d; omega)
  have hrbn : ∀ k ∈ R.all, w.heap.size ≠ k := fun k hk => by have := hF.new k hk; have := hD1.ext.size; omega
  have hdn : w.heap.size ≠ R.D.d := by rw [hF.dice]; have := hD1.d; omega
  have hsn : R.D.sv.ownBlock ≠ some w.heap.size := by rw [hF.dice]; intro e; have := hD1.sv _ e; omega
  have hsv : ∀ k, R.D.sv.ownBlock = some k → w.heap.size ≤ k := fun k hk => Nat.le_trans hxa.size (hD1.sv k (by rw [← hF.dice]; exact hk))
  have htx := hF.text
  have Htx := Lib.hid htx
  clear hF hba htx
  go_wp2_with fail
  refine (linesOf_any _ _).mono ?_
  rintro e u3 ⟨rfl, y3⟩
  have hb3 := hb2.mod y3 (fun f => f)
  have hR3 := hR.ext y3
  have hx3 := hx2.ext_trans y3
  have c0 := hb3.cell 0
  have f0 := hb3.free 0
  have hl3 := hb3.lt
  go_wp2_with fail
  have hset : Mod (· = w.heap.size) u3 (u3.setCell ⟨w.heap.size, 0, none⟩ (.pointer (some ⟨R.rb, 0, none⟩))) := (Mod.refl (· = w.heap.size) u3).setCell (p := ⟨w.heap.size, 0, none⟩) (fun _ => rfl) _
  refine bodyPost_ret (results_cell_row2 rfl _ _ w.heap.size _ #[.pointer (some ⟨R.rb, 0, none⟩)] (0, 0) _ rfl (hb3.set 0 _) Try.underlying35 rfl linesSize9) rfl ?_
  refine ⟨R, rfl, hR3.far hset (fun k hk e => ?_) (fun k hk e => hsn (by rw [hk, e])), Htx.out, hx3.setCell (by simp) _, hn2, hsv⟩
  rcases hk with hk | hk
  · exact hrbn k hk e.symm
  · exact hdn (e.symm.trans hk)

theorem awake9_steps (R : Rp) (v : World) (hv : RopeAt v R) (ht : R.text = (⟨#[97, 98, 32, 99, 100, 195, 169]⟩ : ByteArray).data.toList) :
    (Calls Try.prog 16 #[.agg #[.pointer (some ⟨R.rb, 0, none⟩)], .int .i64 5, .int .i64 9] v fun e w' => e = .returned (.tuple #[.int .i64 3, .int .i64 0]) ∧ Ext v w') ∧
    (Calls Try.prog 16 #[.agg #[.pointer (some ⟨R.rb, 0, none⟩)], .int .i64 7, .int .i64 1] v fun e w' => e = .returned (.tuple #[.int .i64 5, .int .i64 0]) ∧ Ext v w') := by
  have h1 := step_yes R ⟨#[97, 98, 32, 99, 100, 195, 169]⟩ 5 9 v hv ht (by decide) (by omega) (by omega)
  have h2 := step_yes R ⟨#[97, 98, 32, 99, 100, 195, 169]⟩ 7 1 v hv ht (by decide) (by omega) (by omega)
  rw [show stepN (⟨#[97, 98, 32, 99, 100, 195, 169]⟩ : ByteArray).data.toList 5 9 = 3 from by decide] at h1
  rw [show stepN (⟨#[97, 98, 32, 99, 100, 195, 169]⟩ : ByteArray).data.toList 7 1 = 5 from by decide] at h2
  exact ⟨h1, h2⟩

set_option maxHeartbeats 1600000 in
set_option maxRecDepth 1000000 in
theorem awake9_any (w : World) : Calls Try.prog 18 #[] w fun e w' => e = .returned (.bool true) ∧ Ext w w' := by
  go_enter Try.func18, Try.ntmps18
  go_wp2_with fail
  refine (of9_any _ _ (by decide)).mono ?_
  rintro e u1 ⟨R, rfl, hR, htx, hx, _⟩
  have ha : Ext u1 (u1.alloc (.cells #[.pointer (some ⟨R.rb, 0, none⟩)] 35)) := (Mod.refl _ u1).alloc _
  have hRa := hR.ext ha
  have hxa := hx.ext_trans ha
  have hS := fun v hv => awake9_steps R v hv htx
  have HS := Lib.hid hS
  have hG := fun v hv b off cap hr => go_one R ⟨#[97, 98, 32, 99, 100, 195, 169]⟩ b off cap 1 2 4 v hv htx hr (by omega) (by decide) (by omega) (by omega) (by decide)
  rw [show stepN (⟨#[97, 98, 32, 99, 100, 195, 169]⟩ : ByteArray).data.toList 2 4 = 7 from by decide] at hG
  have HG := Lib.hid hG
  clear hS hG htx
  go_wp2_with fail
  refine (HS.out _ hRa).1.mono ?_
  rintro e u2 ⟨rfl, y⟩
  have c := box_cell y
  go_wp2_with fail
  refine (HS.out _ (hRa.ext y)).2.mono ?_
  rintro e u3 ⟨rfl, y2⟩
  have y3 := y.ext_trans y2
  have c3 := box_cell y3
  have lt3 := World.block_lt_of_cell? u3 _ c3
  clear c
  go_wp2_with fail
  have y4 := y3.alloc (.cells #[.int .i64 1, .int .i64 2] 47)
  have hb4 := Blk.new u3 47 #[.int .i64 1, .int .i64 2]
  have hG := HG.out (u3.alloc (.cells #[.int .i64 1, .int .i64 2] 47)) (hRa.ext y4) u3.heap.size 0 1 (reads_of_cells (hb4.cell 0) (hb4.cell 1))
  clear hb4
  refine hG.mono ?_
  rintro e u5 ⟨g, cp, rfl, hown, y5⟩
  obtain ⟨cs, hbg, k0, k1, _⟩ := one_blk hown
  have l0 : u5.cell? ⟨g, 0, none⟩ = some (.int .i64 1) := (hbg.cell 0).trans k0
  have l1 : u5.cell? ⟨g, 1, none⟩ = some (.int .i64 7) := (hbg.cell 1).trans k1
  clear hown hbg hG
  go_wp2_with fail
  go_ret
  exact ⟨rfl, (hxa.ext_trans y4).ext_trans y5⟩

end Go.Proofs.Ytmecdhbiinpepaa

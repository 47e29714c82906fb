/- vars.Place, refused: nil lines, a selection out of the text. Conditions: none. -/
import Derived.Test.YtmecdhbiinpepaaDoorGimLaw23
import Derived.Test.YtmecdhbiinpepaaDoorGimSortP
import Derived.Test.YtmecdhbiinpepaaDoorGimPackZ
import Derived.Test.YtmecdhbiinpepaaDoorGimRope1
namespace Go.Gim
def mayV (x : Int × Int) (n : Int) : Bool := decide (0 ≤ x.1 ∧ x.1 ≤ x.2 ∧ x.2 ≤ n)
end Go.Gim
namespace Go.Proofs.YtmecdhbiinpepaaDoor
open Go.RowKit Go.Gim

set_option maxHeartbeats 800000 in
set_option maxRecDepth 1000000 in
theorem spanV_any (x : Int × Int) (w : World) : Calls Tryd.prog 32 #[.agg #[.int .i64 x.1, .int .i64 x.2]] w fun e w' => e = .returned (.agg #[.int .i64 (spanI x).1, .int .i64 (spanI x).2]) ∧ Ext w w' := by
  obtain ⟨p, q⟩ := x
  simp only [spanI]
  by_cases h : p < q
  · rw [show min p q = p by omega, show max p q = q by omega]
    have h1 : ¬ q < p := by omega
    have h4 : ¬ q ≤ p := by omega
    have h5 : p ≤ q := by omega
    go_enter Tryd.func32, Tryd.ntmps32
    go_wp2_with fail
    go_returns
    exact ⟨rfl, ((Mod.refl _ w).alloc _).alloc _⟩
  · by_cases h0 : p = q
    · subst h0
      rw [show min p p = p by omega, show max p p = p by omega]
      have h1 : p ≤ p := Int.le_refl _
      have h2 : ¬ p < p := by omega
      go_enter Tryd.func32, Tryd.ntmps32
      go_wp2_with fail
      go_returns
      exact ⟨rfl, ((Mod.refl _ w).alloc _).alloc _⟩
    · have h1 : q < p := by omega
      have h2 : ¬ p ≤ q := by omega
      have h3 : q ≤ p := by omega
      rw [show min p q = q by omega, show max p q = p by omega]
      clear h h0
      go_enter Tryd.func32, Tryd.ntmps32
      go_wp2_with fail
      go_returns
      exact ⟨rfl, ((Mod.refl _ w).alloc _).alloc _⟩
set_option maxHeartbeats 800000 in
set_option maxRecDepth 1000000 in
theorem mayV_any (x : Int × Int) (n : Int) (w : World) : Calls Tryd.prog 33 #[.agg #[.int .i64 x.1, .int .i64 x.2], .int .i64 n] w fun e w' => e = .returned (.bool (mayV x n)) ∧ Ext w w' := by
  obtain ⟨p, q⟩ := x
  simp only [mayV]
  go_enter Tryd.func33, Tryd.ntmps33
  go_wp2_with fail
  all_goals
    go_ret
    exact ⟨ret_bool (by rw [Bool.eq_iff_iff]; simp; try omega), (Mod.refl _ w).alloc _⟩

set_option maxHeartbeats 1600000 in
set_option maxRecDepth 1000000 in
theorem vplace_nil (x : Int × Int) (v : Value) (w : World) :
    Calls Tryd.prog 13 #[.agg #[.pointer none], .agg #[.int .i64 x.1, .int .i64 x.2], v] w fun e w' => e = .returned (.tuple #[.slice none 0 0, .int .i64 1]) ∧ Ext w w' := by
  go_enter Tryd.func13, Tryd.ntmps13
  go_wp2_with fail
  go_ret2
  exact ⟨rfl, ((Mod.refl _ w).alloc _).alloc _⟩
set_option maxHeartbeats 3200000 in
set_option maxRecDepth 1000000 in
theorem vplace_no (R : Rp) (x : Int × Int) (v : Value) (w : World) (h : RopeAt w R) (hn : mayV (spanI x) R.t.size = false) :
    Calls Tryd.prog 13 #[.agg #[.pointer (some ⟨R.rb, 0, none⟩)], .agg #[.int .i64 x.1, .int .i64 x.2], v] w fun e w' => e = .returned (.tuple #[.slice none 0 0, .int .i64 3]) ∧ Ext w w' := by
  have Hn := Lib.hid hn
  clear hn
  obtain ⟨wa, hwa⟩ : ∃ wa, wa = (w.alloc (.cells #[.pointer (some ⟨R.rb, 0, none⟩)] 29)).alloc (.cells #[.int .i64 x.1, .int .i64 x.2] 23) := ⟨_, rfl⟩
  have hxa : Ext w wa := by rw [hwa]; exact ((Mod.refl _ w).alloc _).alloc _
  have hb2 : Blk wa w.heap.size 29 #[.pointer (some ⟨R.rb, 0, none⟩)] := by rw [hwa]; exact (Blk.new _ _ _).alloc _
  have hb4 : Blk wa (w.heap.size + 1) 23 #[.int .i64 x.1, .int .i64 x.2] := by
    have e4 : (w.alloc (.cells #[.pointer (some ⟨R.rb, 0, none⟩)] 29)).heap.size = w.heap.size + 1 := by simp
    rw [hwa, ← e4]; exact Blk.new _ _ _
  have hs2 : wa.heap.size = w.heap.size + 2 := by rw [hwa]; simp
  go_enter Tryd.func13, Tryd.ntmps13
  go_wp2_with fail
  rw [← hwa]
  clear hwa
  refine (spanV_any x wa).mono ?_
  rintro e w1 ⟨rfl, hx1⟩
  go_wp2_with fail
  obtain ⟨u, hu⟩ : ∃ u, u = w1.alloc (.cells #[.int .i64 (spanI x).1, .int .i64 (spanI x).2] 65) := ⟨_, rfl⟩
  have hx2 : Ext w1 u := by rw [hu]; exact (Mod.refl _ _).alloc _
  have hbs : Blk u w1.heap.size 65 #[.int .i64 (spanI x).1, .int .i64 (spanI x).2] := by rw [hu]; exact Blk.new _ _ _
  rw [← hu]
  clear hu
  have hxu := hxa.ext_trans (hx1.ext_trans hx2)
  have hbu := (hb2.mod (hx1.ext_trans hx2) (fun f => f))
  have hbv := (hb4.mod (hx1.ext_trans hx2) (fun f => f))
  have HR := Lib.hid (fun w' (h' : Ext u w') => h.ext (hxu.ext_trans h'))
  have HS := Lib.hid (fun w' (hw' : Ext u w') => (⟨(hw'.cell hbu.lt (fun f => f)).trans (hbu.cell 0), (hw'.cell hbs.lt (fun f => f)).trans (hbs.cell 0), (hw'.cell hbs.lt (fun f => f)).trans (hbs.cell 1), (hw'.cell hbv.lt (fun f => f)).trans (hbv.cell 0), (hw'.cell hbv.lt (fun f => f)).trans (hbv.cell 1), trivial⟩ :
    w'.cell? ⟨w.heap.size, 0, none⟩ = some (.pointer (some ⟨R.rb, 0, none⟩)) ∧ w'.cell? ⟨w1.heap.size, 0, none⟩ = some (.int .i64 (spanI x).1) ∧ w'.cell? ⟨w1.heap.size, 1, none⟩ = some (.int .i64 (spanI x).2) ∧ w'.cell? ⟨w.heap.size + 1, 0, none⟩ = some (.int .i64 x.1) ∧ w'.cell? ⟨w.heap.size + 1, 1, none⟩ = some (.int .i64 x.2) ∧ True))
  clear hb2 hb4 hs2 hbs hbu hbv hx1 hx2
  have HLen := Lib.hid (fun w' (h' : Ext u w') => Calls.same_ext (len_any R _ (HR.out w' h')))
  have HMay := Lib.hid (fun w' => mayV_any (spanI x) R.t.size w')
  refine wp_region_E (by kernel_rfl) ?_
  refine wpE_take 0 28 (v := ?_) rfl rfl (by kernel_rfl) (by kernel_rfl) (by kernel_rfl) (fun _ _ _ h => h) (by first | exact ext_draw _ | assumption) rfl ?_ ?_
  rotate_left
  · intro w' hw'
    obtain ⟨r0, r1, r2, r3⟩ := HS.out w' hw'
    refine qat_value ?_
    go_simp
    rfl
  simp only [Act.put, List.setIfInBounds_toArray, List.set_cons_zero, List.set_cons_succ]
  refine wpE_take 1 29 (v := ?_) rfl rfl (by kernel_rfl) (by kernel_rfl) (by kernel_rfl) (fun _ _ _ h => h) (by first | exact ext_draw _ | assumption) rfl ?_ ?_
  rotate_left
  · intro w' hw'
    refine qat_value ?_
    go_simp
    rfl
  simp only [Act.put, List.setIfInBounds_toArray, List.set_cons_zero, List.set_cons_succ]
  refine wpE_take 2 30 (v := ?_) rfl rfl (by kernel_rfl) (by kernel_rfl) (by kernel_rfl) (fun _ _ _ h => h) (by first | exact ext_draw _ | assumption) rfl ?_ ?_
  rotate_left
  · intro w' hw'
    obtain ⟨r0, r1, r2, r3⟩ := HS.out w' hw'
    refine qat_value ?_
    go_simp
    rfl
  simp only [Act.put, List.setIfInBounds_toArray, List.set_cons_zero, List.set_cons_succ]
  refine wpE_take 3 31 (v := ?_) rfl rfl (by kernel_rfl) (by kernel_rfl) (by kernel_rfl) (fun _ _ _ h => h) (by first | exact ext_draw _ | assumption) rfl ?_ ?_
  rotate_left
  · intro w' hw'
    refine qat_enter (by go_simp; exact ⟨rfl, rfl⟩) ?_
    exact HLen.out _ hw'
  simp only [Act.put, List.setIfInBounds_toArray, List.set_cons_zero, List.set_cons_succ]
  refine wpE_take 4 32 (v := ?_) rfl rfl (by kernel_rfl) (by kernel_rfl) (by kernel_rfl) (fun _ _ _ h => h) (by first | exact ext_draw _ | assumption) rfl ?_ ?_
  rotate_left
  · intro w' hw'
    refine qat_enter (by go_simp; exact ⟨rfl, rfl⟩) ?_
    exact HMay.out _
  simp only [Act.put, List.setIfInBounds_toArray, List.set_cons_zero, List.set_cons_succ]
  refine wpE_take 5 33 (v := ?_) rfl rfl (by kernel_rfl) (by kernel_rfl) (by kernel_rfl) (fun _ _ _ h => h) (by first | exact ext_draw _ | assumption) rfl ?_ ?_
  rotate_left
  · intro w' hw'
    refine qat_value ?_
    go_simp
    rfl
  simp only [Act.put, List.setIfInBounds_toArray, List.set_cons_zero, List.set_cons_succ]
  refine wpE_done (by kernel_rfl) (fun u5 hu5 => ?_) _
  rw [Hn.out]
  go_wp2_with fail
  go_ret2
  exact ⟨rfl, hxu.ext_trans ((ext_draw _).ext_trans hu5)⟩
end Go.Proofs.YtmecdhbiinpepaaDoor

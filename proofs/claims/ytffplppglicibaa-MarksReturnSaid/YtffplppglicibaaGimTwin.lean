/- marks.Table's Twin: another table of the same ranges. Conditions: none. -/
import Derived.Test.YtffplppglicibaaGimTabW
namespace Go.Proofs.Ytffplppglicibaa
open Go.RowKit Go.Gim Go.Shelf

theorem tclone_any (mb : Nat) (L : Tb) (w : World) (h : MapIs Try.prog 3 w mb L) :
    Calls Try.prog 35 #[.map (some mb)] w fun e w' => ∃ m2, e = .returned (.map (some m2)) ∧ w.heap.size ≤ m2 ∧ MapIs Try.prog 3 w' m2 L ∧ Ext w w' := by
  obtain ⟨D, hown, hT⟩ := h
  have hcon := AnyW.maps_Clone_owns Try.cloneM 3 rgR mb L.length D w hown
  change Calls Try.prog 35 _ _ _ at hcon
  refine hcon.mono ?_
  rintro e w' ⟨rfl, h1, _, hB⟩
  exact ⟨w.heap.size, rfl, Nat.le_refl _, ⟨D, h1, hT⟩, Mod.of_below hB⟩
/-- Behind Twin: another table, all new. -/
def TwinPost (L : Tb) (last : Int) (w : World) (e : Ending) (w' : World) : Prop :=
  ∃ t2 m2, e = .returned (.pointer (some ⟨t2, 0, none⟩)) ∧ TabAt w' t2 m2 L last ∧ w.heap.size ≤ t2 ∧ w.heap.size ≤ m2 ∧ Ext w w'

set_option maxHeartbeats 1600000 in
set_option maxRecDepth 1000000 in
theorem ttwin_any (tb mb : Nat) (L : Tb) (last : Int) (w : World) (h : TabAt w tb mb L last) :
    Calls Try.prog 20 #[.pointer (some ⟨tb, 0, none⟩)] w (TwinPost L last w) := by
  have H := Lib.hid h
  have HS := Lib.hid (fun w' (h' : Ext w w') => (⟨(h.ext h').blk.cell 0, (h.ext h').blk.cell 1, trivial, trivial⟩ :
    w'.cell? ⟨tb, 0, none⟩ = some (.map (some mb)) ∧ w'.cell? ⟨tb, 1, none⟩ = some (.int .i64 last) ∧ True ∧ True))
  have HC := Lib.hid (fun w' (h' : Ext w w') => tclone_any mb L w' (h.ext h').map)
  clear h
  unfold TwinPost
  go_enter Try.func20, Try.ntmps20
  go_upto_region 3 with fail
  refine wp_region_E (by kernel_rfl) ?_
  refine wpE_take 0 5 (v := ?_) rfl rfl (by kernel_rfl) (by kernel_rfl) (by kernel_rfl) (fun _ _ _ h => h) (by first | exact ext_draw _ | assumption) rfl ?_ ?_
  rotate_left
  · intro w' hw'
    refine qat_value ?_
    go_simp
    rfl
  simp only [Act.put, List.setIfInBounds_toArray, List.set_cons_zero, List.set_cons_succ]
  refine wpE_take 1 6 (v := ?_) rfl rfl (by kernel_rfl) (by kernel_rfl) (by kernel_rfl) (fun _ _ _ h => h) (by first | exact ext_draw _ | assumption) rfl ?_ ?_
  rotate_left
  · intro w' hw'
    refine qat_value ?_
    go_simp
    rfl
  simp only [Act.put, List.setIfInBounds_toArray, List.set_cons_zero, List.set_cons_succ]
  refine wpE_take 2 7 (v := ?_) rfl rfl (by kernel_rfl) (by kernel_rfl) (by kernel_rfl) (fun _ _ _ h => h) (by first | exact ext_draw _ | assumption) rfl ?_ ?_
  rotate_left
  · intro w' hw'
    refine qat_value ?_
    go_simp
    rfl
  simp only [Act.put, List.setIfInBounds_toArray, List.set_cons_zero, List.set_cons_succ]
  refine wpE_take 3 8 (v := ?_) rfl rfl (by kernel_rfl) (by kernel_rfl) (by kernel_rfl) (fun _ _ _ h => h) (by first | exact ext_draw _ | assumption) rfl ?_ ?_
  rotate_left
  · intro w' hw'
    obtain ⟨r0, r1, r2, r3⟩ := HS.out w' hw'
    refine qat_value ?_
    go_simp
    rfl
  simp only [Act.put, List.setIfInBounds_toArray, List.set_cons_zero, List.set_cons_succ]
  refine wpE_take 5 10 (v := ?_) rfl rfl (by kernel_rfl) (by kernel_rfl) (by kernel_rfl) (fun _ _ _ h => h) (by first | exact ext_draw _ | assumption) rfl ?_ ?_
  rotate_left
  · intro w' hw'
    refine qat_value ?_
    go_simp
    rfl
  simp only [Act.put, List.setIfInBounds_toArray, List.set_cons_zero, List.set_cons_succ]
  refine wpE_take 6 11 (v := ?_) rfl rfl (by kernel_rfl) (by kernel_rfl) (by kernel_rfl) (fun _ _ _ h => h) (by first | exact ext_draw _ | assumption) rfl ?_ ?_
  rotate_left
  · intro w' hw'
    refine qat_value ?_
    go_simp
    rfl
  simp only [Act.put, List.setIfInBounds_toArray, List.set_cons_zero, List.set_cons_succ]
  refine wpE_take 7 12 (v := ?_) rfl rfl (by kernel_rfl) (by kernel_rfl) (by kernel_rfl) (fun _ _ _ h => h) (by first | exact ext_draw _ | assumption) rfl ?_ ?_
  rotate_left
  · intro w' hw'
    refine qat_value ?_
    go_simp
    rfl
  simp only [Act.put, List.setIfInBounds_toArray, List.set_cons_zero, List.set_cons_succ]
  refine wpE_take 8 13 (v := ?_) rfl rfl (by kernel_rfl) (by kernel_rfl) (by kernel_rfl) (fun _ _ _ h => h) (by first | exact ext_draw _ | assumption) rfl ?_ ?_
  rotate_left
  · intro w' hw'
    obtain ⟨r0, r1, r2, r3⟩ := HS.out w' hw'
    refine qat_value ?_
    go_simp
    rfl
  simp only [Act.put, List.setIfInBounds_toArray, List.set_cons_zero, List.set_cons_succ]
  refine wpE_call1 4 9 rfl rfl rfl (by kernel_rfl) (fun w' => by go_simp; exact ⟨rfl, rfl⟩) ?_
  intro v1 hv1
  have hv2 := (ext_draw w).ext_trans hv1
  refine (HC.out v1 hv2).mono ?_
  rintro e w6 ⟨m2, rfl, hm2, hmap, y6⟩
  refine ⟨_, rfl, hv2.ext_trans y6, ?_⟩
  have hv6 := hv2.ext_trans y6
  simp only [Act.put, List.setIfInBounds_toArray, List.set_cons_zero, List.set_cons_succ]
  refine wpE_take 9 14 (v := ?_) rfl rfl (by kernel_rfl) (by kernel_rfl) (by kernel_rfl) (fun _ _ _ h => h) (by first | exact ext_draw _ | assumption) rfl ?_ ?_
  rotate_left
  · intro w' hw'
    refine qat_value ?_
    go_simp
    rfl
  simp only [Act.put, List.setIfInBounds_toArray, List.set_cons_zero, List.set_cons_succ]
  refine wpE_one 10 15 rfl rfl rfl (by kernel_rfl) (fun w7 hw7 => ⟨.pointer (some ⟨w7.heap.size, 0, none⟩), w7.alloc (.cells #[.map (some m2), .int .i64 last] 74), by go_simp, (hv6.ext_trans hw7).alloc _, ?_⟩)
  simp only [Act.put, List.setIfInBounds_toArray, List.set_cons_zero, List.set_cons_succ]
  have hx8 := (hv6.ext_trans hw7).alloc (.cells #[.map (some m2), .int .i64 last] 74)
  have hb8 := Blk.new w7 74 #[.map (some m2), .int .i64 last]
  have hm8 := (hmap.mod hw7 (fun f => f)).mod ((Mod.refl (fun _ => False) w7).alloc (.cells #[.map (some m2), .int .i64 last] 74)) (fun f => f)
  have hml := (hmap.mod hw7 (fun f => f)).lt
  generalize w7.alloc (.cells #[.map (some m2), .int .i64 last] 74) = w8 at *
  refine wpE_take 11 2 (v := ?_) rfl rfl (by kernel_rfl) (by kernel_rfl) (by kernel_rfl) (fun _ _ _ h => h) (by first | exact ext_draw _ | assumption) rfl ?_ ?_
  rotate_left
  · intro w' hw'
    refine qat_value ?_
    go_simp
    rfl
  simp only [Act.put, List.setIfInBounds_toArray, List.set_cons_zero, List.set_cons_succ]
  refine wpE_done (by kernel_rfl) (fun w9 hu9 => ?_) _
  have hb9 := Lib.hid (hb8.mod hu9 (fun f => f))
  have hm9 := Lib.hid (hm8.mod hu9 (fun f => f))
  have hx9 := hx8.ext_trans hu9
  have hle := (hv6.ext_trans hw7).size
  have hle2 := hv2.size
  clear HS HC hb8 hm8 hmap hu9 hx8 y6 hv6 hv1
  go_wp2_with fail
  go_ret
  exact ⟨_, m2, rfl, ⟨hb9.out, hm9.out, by omega⟩, hle, by omega, hx9⟩
end Go.Proofs.Ytffplppglicibaa

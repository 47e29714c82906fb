/- What motion.Step computes. Conditions: a rope of at most 65536 bytes. -/
import Derived.Test.YtmecdhbiinpepaaGimMotion2
namespace Go.Proofs.Ytmecdhbiinpepaa
open Go.RowKit Go.Gim

theorem place_col (R : Rp) (a : Nat) (w : World) (hR : RopeAt w R) (ha : a ≤ R.t.size) :
    Calls Try.prog 25 #[.agg #[.pointer (some ⟨R.rb, 0, none⟩)], .int .i64 a, .int .i64 1] w fun e w' => e = .returned (.tuple #[.int .i64 (lnN R.text a : Nat), .int .i64 (colN R.text a : Nat), .int .i64 0]) ∧ Ext w w' := by
  have h := place_yes R a 1 w hR (by decide) (rises_of ⟨by omega, by omega, by omega⟩)
  have hl := lineN_le R.text a
  have hq := byW_seg 1 R.text _ a hl
  unfold PlacePost at h
  rw [Int.toNat_natCast, ← Int.ofNat_sub (by omega)] at h
  exact h

set_option maxHeartbeats 1600000 in
set_option maxRecDepth 1000000 in
theorem up_any (R : Rp) (a : Nat) (w : World) (hR : RopeAt w R) (ha : a ≤ R.t.size) :
    Calls Try.prog 68 #[.agg #[.pointer (some ⟨R.rb, 0, none⟩)], .int .i64 a, .int .i64 (-1)] w fun e w' => e = .returned (.int .i64 (upN R.text a : Nat)) ∧ Ext w w' := by
  have hx0 : Ext w (w.alloc (.cells #[.pointer (some ⟨R.rb, 0, none⟩)] 35)) := (Mod.refl _ w).alloc _
  have h0 := hR.ext hx0
  have hp := place_col R a _ h0 ha
  have hb := lnN_le R.text a
  have hbs := brk_small hR
  unfold upN
  generalize hcol : colN R.text a = col at *
  cases hln : lnN R.text a with
  | zero =>
    rw [if_pos rfl]
    rw [hln] at hp
    clear hln hb hcol
    go_enter Try.func68, Try.ntmps68
    go_wp2_with fail
    refine hp.mono ?_
    rintro e w1 ⟨rfl, hx⟩
    go_wp2_with fail
    go_ret
    exact ⟨rfl, hx0.ext_trans hx⟩
  | succ j =>
    rw [if_neg (by omega), Nat.add_sub_cancel]
    rw [hln] at hp hb
    have hm := fun v (hv : RopeAt v R) => many_any R v hv
    have ho := fun v (hv : RopeAt v R) => offset_yes R j col 1 v hv (by decide) (has_of ⟨by omega, by omega⟩)
    unfold OffsetPost at ho
    generalize offN R.text j col 1 = U at *
    rw [show (j : Int) = (j : Int) + 1 + -1 from by omega] at ho
    have hj1 : ¬ (j : Int) < 0 := by omega
    have hj2 : ¬ ((brk R.text + 1 : Nat) : Int) ≤ (j : Int) := by omega
    have hj3 : ¬ (brk R.text : Int) + 1 ≤ (j : Int) := by omega
    have hj4 : (j : Int) ≤ 65536 := by omega
    have Hm := Lib.hid hm
    have Ho := Lib.hid ho
    clear hln hcol hm ho hb
    go_enter Try.func68, Try.ntmps68
    go_wp2_with fail
    refine hp.mono ?_
    rintro e w1 ⟨rfl, hx⟩
    have c := box_cell hx
    go_wp2_with fail
    refine (Hm.out _ (h0.ext hx)).mono ?_
    rintro e w2 ⟨rfl, hx2⟩
    have hx3 := hx.ext_trans hx2
    have c2 := box_cell hx3
    clear c
    go_wp2_with fail
    refine (Ho.out _ (h0.ext hx3)).mono ?_
    rintro e w3 ⟨rfl, hx4⟩
    go_wp2_with fail
    go_ret
    exact ⟨rfl, (hx0.ext_trans hx3).ext_trans hx4⟩

set_option maxHeartbeats 1600000 in
set_option maxRecDepth 1000000 in
theorem below_any (R : Rp) (a : Nat) (w : World) (hR : RopeAt w R) (ha : a ≤ R.t.size) :
    Calls Try.prog 68 #[.agg #[.pointer (some ⟨R.rb, 0, none⟩)], .int .i64 a, .int .i64 1] w fun e w' => e = .returned (.int .i64 (belowN R.text a : Nat)) ∧ Ext w w' := by
  have hx0 : Ext w (w.alloc (.cells #[.pointer (some ⟨R.rb, 0, none⟩)] 35)) := (Mod.refl _ w).alloc _
  have h0 := hR.ext hx0
  have hp := place_col R a _ h0 ha
  have hb := lnN_le R.text a
  have hbs := brk_small hR
  have hl : R.text.length = R.t.size := rfl
  have hm := fun v (hv : RopeAt v R) => many_any R v hv
  have Hm := Lib.hid hm
  clear hm
  unfold belowN
  generalize hcol : colN R.text a = col at *
  obtain ⟨j, hln⟩ : ∃ j, lnN R.text a = j := ⟨_, rfl⟩
  rw [hln] at hp hb ⊢
  have hj1 : ¬ (j : Int) + 1 < 0 := by omega
  have hj4 : (j : Int) + 1 ≤ 65537 := by omega
  by_cases hj : j + 1 ≤ brk R.text
  · rw [if_pos hj]
    have ho := fun v (hv : RopeAt v R) => offset_yes R (j + 1) col 1 v hv (by decide) (has_of ⟨by omega, by omega⟩)
    unfold OffsetPost at ho
    generalize offN R.text (j + 1) col 1 = U at *
    have hj2 : ¬ ((brk R.text + 1 : Nat) : Int) ≤ (j : Int) + 1 := by omega
    have hj3 : ¬ (brk R.text : Int) + 1 ≤ (j : Int) + 1 := by omega
    have hj5 : ¬ (brk R.text : Int) ≤ (j : Int) := by omega
    have hj6 : ¬ brk R.text ≤ j := by omega
    rw [show ((j + 1 : Nat) : Int) = (j : Int) + 1 from by omega] at ho
    have Ho := Lib.hid ho
    clear hln hcol ho hb hj
    go_enter Try.func68, Try.ntmps68
    go_wp2_with fail
    refine hp.mono ?_
    rintro e w1 ⟨rfl, hx⟩
    have c := box_cell hx
    go_wp2_with fail
    refine (Hm.out _ (h0.ext hx)).mono ?_
    rintro e w2 ⟨rfl, hx2⟩
    have hx3 := hx.ext_trans hx2
    have c2 := box_cell hx3
    clear c
    go_wp2_with fail
    refine (Ho.out _ (h0.ext hx3)).mono ?_
    rintro e w3 ⟨rfl, hx4⟩
    go_wp2_with fail
    go_ret
    exact ⟨rfl, (hx0.ext_trans hx3).ext_trans hx4⟩
  · rw [if_neg hj, hl]
    have hln2 := fun v (hv : RopeAt v R) => len_any R v hv
    have Hl := Lib.hid hln2
    have hj2 : ((brk R.text + 1 : Nat) : Int) ≤ (j : Int) + 1 := by omega
    have hj3 : (brk R.text : Int) + 1 ≤ (j : Int) + 1 := by omega
    have hj5 : (brk R.text : Int) ≤ (j : Int) := by omega
    have hj6 : brk R.text ≤ j := by omega
    clear hln hcol hb hj hln2
    go_enter Try.func68, Try.ntmps68
    go_wp2_with fail
    refine hp.mono ?_
    rintro e w1 ⟨rfl, hx⟩
    have c := box_cell hx
    go_wp2_with fail
    refine (Hm.out _ (h0.ext hx)).mono ?_
    rintro e w2 ⟨rfl, hx2⟩
    have hx3 := hx.ext_trans hx2
    have c2 := box_cell hx3
    clear c
    go_wp2_with fail
    refine (Hl.out _ (h0.ext hx3)).mono ?_
    rintro e w3 ⟨rfl, rfl⟩
    go_wp2_with fail
    go_ret
    exact ⟨rfl, hx0.ext_trans hx3⟩

set_option maxHeartbeats 3200000 in
set_option maxRecDepth 1000000 in
theorem stepIn_any (R : Rp) (s : ByteArray) (a : Nat) (way : Int) (w : World) (hR : RopeAt w R) (ht : R.text = s.data.toList) (ha : a ≤ s.size) (hw1 : 1 ≤ way) (hw2 : way ≤ 10) :
    Calls Try.prog 38 #[.agg #[.pointer (some ⟨R.rb, 0, none⟩)], .string s, .int .i64 a, .int .i64 way] w fun e w' => e = .returned (.int .i64 (stepN s.data.toList a way : Nat)) ∧ Ext w w' := by
  have hz := size_text ht
  have hs := hR.size
  have hh : hasB R.text (lnN s.data.toList a : Nat) = true := by rw [← ht]; exact has_of ⟨by omega, by have := lnN_le R.text a; omega⟩
  have hw : way = 1 ∨ way = 2 ∨ way = 3 ∨ way = 4 ∨ way = 5 ∨ way = 6 ∨ way = 7 ∨ way = 8 ∨ way = 9 ∨ way = 10 := by omega
  clear hw1 hw2
  rcases hw with rfl | rfl | rfl | rfl | rfl | rfl | rfl | rfl | rfl | rfl
  · show Calls _ _ _ _ fun e w' => e = .returned (.int .i64 (leftN s.data.toList a : Nat)) ∧ Ext w w'
    have hx0 : Ext w (w.alloc (.cells #[.pointer (some ⟨R.rb, 0, none⟩)] 35)) := (Mod.refl _ w).alloc _
    have h0 := hR.ext hx0
    have hat := at_yes R (a : Nat) _ h0 (rises_of ⟨by omega, by omega, by omega⟩)
    rw [Int.toNat_natCast, ht] at hat
    go_enter Try.func38, Try.ntmps38
    go_wp2_with fail
    refine hat.mono ?_
    rintro e w1 ⟨rfl, hx⟩
    have hcell := box_cell hx
    have h1 := h0.ext hx
    have hx1 := hx0.ext_trans hx
    clear hat
    go_wp2_with fail
    refine (left_any s a _ ha (by omega)).mono ?_
    rintro e w2 ⟨rfl, rfl⟩
    go_wp2_with fail
    go_ret
    exact ⟨rfl, hx1⟩
  · show Calls _ _ _ _ fun e w' => e = .returned (.int .i64 (rightN s.data.toList a : Nat)) ∧ Ext w w'
    have hx0 : Ext w (w.alloc (.cells #[.pointer (some ⟨R.rb, 0, none⟩)] 35)) := (Mod.refl _ w).alloc _
    have h0 := hR.ext hx0
    have hat := at_yes R (a : Nat) _ h0 (rises_of ⟨by omega, by omega, by omega⟩)
    rw [Int.toNat_natCast, ht] at hat
    go_enter Try.func38, Try.ntmps38
    go_wp2_with fail
    refine hat.mono ?_
    rintro e w1 ⟨rfl, hx⟩
    have hcell := box_cell hx
    have h1 := h0.ext hx
    have hx1 := hx0.ext_trans hx
    clear hat
    go_wp2_with fail
    refine (right_any s a _ ha (by omega)).mono ?_
    rintro e w2 ⟨rfl, rfl⟩
    go_wp2_with fail
    go_ret
    exact ⟨rfl, hx1⟩
  · show Calls _ _ _ _ fun e w' => e = .returned (.int .i64 (lineN s.data.toList (lnN s.data.toList a) : Nat)) ∧ Ext w w'
    have hst := fun v (hv : RopeAt v R) => start_yes R (lnN s.data.toList a) v hv hh
    rw [ht] at hst
    unfold lnN at hst ⊢
    have Hst := Lib.hid hst
    clear hst hh
    have hx0 : Ext w (w.alloc (.cells #[.pointer (some ⟨R.rb, 0, none⟩)] 35)) := (Mod.refl _ w).alloc _
    have h0 := hR.ext hx0
    have hat := at_yes R (a : Nat) _ h0 (rises_of ⟨by omega, by omega, by omega⟩)
    rw [Int.toNat_natCast, ht] at hat
    go_enter Try.func38, Try.ntmps38
    go_wp2_with fail
    refine hat.mono ?_
    rintro e w1 ⟨rfl, hx⟩
    have hcell := box_cell hx
    have h1 := h0.ext hx
    have hx1 := hx0.ext_trans hx
    clear hat
    go_wp2_with fail
    refine (Hst.out _ h1).mono ?_
    rintro e w2 ⟨rfl, hx2⟩
    go_wp2_with fail
    go_ret
    exact ⟨rfl, hx1.ext_trans hx2⟩
  · show Calls _ _ _ _ fun e w' => e = .returned (.int .i64 (lineE s.data.toList (lnN s.data.toList a) : Nat)) ∧ Ext w w'
    have hst := fun v (hv : RopeAt v R) => end_yes R (lnN s.data.toList a) v hv hh
    rw [ht] at hst
    unfold lnN at hst ⊢
    have Hst := Lib.hid hst
    clear hst hh
    have hx0 : Ext w (w.alloc (.cells #[.pointer (some ⟨R.rb, 0, none⟩)] 35)) := (Mod.refl _ w).alloc _
    have h0 := hR.ext hx0
    have hat := at_yes R (a : Nat) _ h0 (rises_of ⟨by omega, by omega, by omega⟩)
    rw [Int.toNat_natCast, ht] at hat
    go_enter Try.func38, Try.ntmps38
    go_wp2_with fail
    refine hat.mono ?_
    rintro e w1 ⟨rfl, hx⟩
    have hcell := box_cell hx
    have h1 := h0.ext hx
    have hx1 := hx0.ext_trans hx
    clear hat
    go_wp2_with fail
    refine (Hst.out _ h1).mono ?_
    rintro e w2 ⟨rfl, hx2⟩
    go_wp2_with fail
    go_ret
    exact ⟨rfl, hx1.ext_trans hx2⟩
  · show Calls _ _ _ _ fun e w' => e = .returned (.int .i64 (upN s.data.toList a : Nat)) ∧ Ext w w'
    have hst := fun v (hv : RopeAt v R) => up_any R a v hv (by omega)
    rw [ht] at hst
    have Hst := Lib.hid hst
    clear hst hh
    have hx0 : Ext w (w.alloc (.cells #[.pointer (some ⟨R.rb, 0, none⟩)] 35)) := (Mod.refl _ w).alloc _
    have h0 := hR.ext hx0
    have hat := at_yes R (a : Nat) _ h0 (rises_of ⟨by omega, by omega, by omega⟩)
    rw [Int.toNat_natCast, ht] at hat
    go_enter Try.func38, Try.ntmps38
    go_wp2_with fail
    refine hat.mono ?_
    rintro e w1 ⟨rfl, hx⟩
    have hcell := box_cell hx
    have h1 := h0.ext hx
    have hx1 := hx0.ext_trans hx
    clear hat
    go_wp2_with fail
    refine (Hst.out _ h1).mono ?_
    rintro e w2 ⟨rfl, hx2⟩
    go_wp2_with fail
    go_ret
    exact ⟨rfl, hx1.ext_trans hx2⟩
  · show Calls _ _ _ _ fun e w' => e = .returned (.int .i64 (belowN s.data.toList a : Nat)) ∧ Ext w w'
    have hst := fun v (hv : RopeAt v R) => below_any R a v hv (by omega)
    rw [ht] at hst
    have Hst := Lib.hid hst
    clear hst hh
    have hx0 : Ext w (w.alloc (.cells #[.pointer (some ⟨R.rb, 0, none⟩)] 35)) := (Mod.refl _ w).alloc _
    have h0 := hR.ext hx0
    have hat := at_yes R (a : Nat) _ h0 (rises_of ⟨by omega, by omega, by omega⟩)
    rw [Int.toNat_natCast, ht] at hat
    go_enter Try.func38, Try.ntmps38
    go_wp2_with fail
    refine hat.mono ?_
    rintro e w1 ⟨rfl, hx⟩
    have hcell := box_cell hx
    have h1 := h0.ext hx
    have hx1 := hx0.ext_trans hx
    clear hat
    go_wp2_with fail
    refine (Hst.out _ h1).mono ?_
    rintro e w2 ⟨rfl, hx2⟩
    go_wp2_with fail
    go_ret
    exact ⟨rfl, hx1.ext_trans hx2⟩
  · show Calls _ _ _ _ fun e w' => e = .returned (.int .i64 (0 : Nat)) ∧ Ext w w'
    have hx0 : Ext w (w.alloc (.cells #[.pointer (some ⟨R.rb, 0, none⟩)] 35)) := (Mod.refl _ w).alloc _
    have h0 := hR.ext hx0
    have hat := at_yes R (a : Nat) _ h0 (rises_of ⟨by omega, by omega, by omega⟩)
    rw [Int.toNat_natCast, ht] at hat
    go_enter Try.func38, Try.ntmps38
    go_wp2_with fail
    refine hat.mono ?_
    rintro e w1 ⟨rfl, hx⟩
    have hcell := box_cell hx
    have h1 := h0.ext hx
    have hx1 := hx0.ext_trans hx
    clear hat
    go_wp2_with fail
    go_ret
    exact ⟨rfl, hx1⟩
  · show Calls _ _ _ _ fun e w' => e = .returned (.int .i64 (s.data.toList.length : Nat)) ∧ Ext w w'
    rw [toList_length]
    have hx0 : Ext w (w.alloc (.cells #[.pointer (some ⟨R.rb, 0, none⟩)] 35)) := (Mod.refl _ w).alloc _
    have h0 := hR.ext hx0
    have hat := at_yes R (a : Nat) _ h0 (rises_of ⟨by omega, by omega, by omega⟩)
    rw [Int.toNat_natCast, ht] at hat
    go_enter Try.func38, Try.ntmps38
    go_wp2_with fail
    refine hat.mono ?_
    rintro e w1 ⟨rfl, hx⟩
    have hcell := box_cell hx
    have h1 := h0.ext hx
    have hx1 := hx0.ext_trans hx
    clear hat
    go_wp2_with fail
    go_ret
    exact ⟨rfl, hx1⟩
  · show Calls _ _ _ _ fun e w' => e = .returned (.int .i64 (wordLN s.data.toList a : Nat)) ∧ Ext w w'
    have hx0 : Ext w (w.alloc (.cells #[.pointer (some ⟨R.rb, 0, none⟩)] 35)) := (Mod.refl _ w).alloc _
    have h0 := hR.ext hx0
    have hat := at_yes R (a : Nat) _ h0 (rises_of ⟨by omega, by omega, by omega⟩)
    rw [Int.toNat_natCast, ht] at hat
    go_enter Try.func38, Try.ntmps38
    go_wp2_with fail
    refine hat.mono ?_
    rintro e w1 ⟨rfl, hx⟩
    have hcell := box_cell hx
    have h1 := h0.ext hx
    have hx1 := hx0.ext_trans hx
    clear hat
    go_wp2_with fail
    refine (wordLeft_any s a _ ha (by omega)).mono ?_
    rintro e w2 ⟨rfl, rfl⟩
    go_wp2_with fail
    go_ret
    exact ⟨rfl, hx1⟩
  · show Calls _ _ _ _ fun e w' => e = .returned (.int .i64 (wordRN s.data.toList a : Nat)) ∧ Ext w w'
    have hx0 : Ext w (w.alloc (.cells #[.pointer (some ⟨R.rb, 0, none⟩)] 35)) := (Mod.refl _ w).alloc _
    have h0 := hR.ext hx0
    have hat := at_yes R (a : Nat) _ h0 (rises_of ⟨by omega, by omega, by omega⟩)
    rw [Int.toNat_natCast, ht] at hat
    go_enter Try.func38, Try.ntmps38
    go_wp2_with fail
    refine hat.mono ?_
    rintro e w1 ⟨rfl, hx⟩
    have hcell := box_cell hx
    have h1 := h0.ext hx
    have hx1 := hx0.ext_trans hx
    clear hat
    go_wp2_with fail
    refine (wordRight_any s a _ ha (by omega)).mono ?_
    rintro e w2 ⟨rfl, rfl⟩
    go_wp2_with fail
    go_ret
    exact ⟨rfl, hx1⟩

end Go.Proofs.Ytmecdhbiinpepaa

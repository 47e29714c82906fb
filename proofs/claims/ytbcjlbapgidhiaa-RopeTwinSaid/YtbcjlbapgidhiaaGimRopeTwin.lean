/- A twin has the text, and goes on by itself; what was cut off does, too: the walk. Conditions: none. -/
import Derived.Test.YtbcjlbapgidhiaaGimRopes
namespace Go.Proofs.Ytbcjlbapgidhiaa
open Go.RowKit Go.Gim

set_option maxHeartbeats 3200000 in
set_option maxRecDepth 1000000 in
theorem ropeTwin_any (w : World) (s : ByteArray) (a : Int) (c : ByteArray) (h1 : s.size ≤ 300) (h2 : c.size ≤ 100) :
    Calls Try.prog 6 #[.string s, .int .i64 a, .string c] w fun e w' => e = .returned (.bool true) ∧ Ext w w' := by
  have i1 : ¬ (300 : Int) < (s.size : Int) := by omega
  have i2 : ¬ (100 : Int) < (c.size : Int) := by omega
  have lp := lowN_lt a (s.size + 1) (by omega)
  go_enter Try.func6, Try.ntmps6
  go_wp2_with fail
  refine (low_any a ((s.size : Int) + 1) _ (by omega) (by omega)).mono ?_
  rintro e w1 ⟨rfl, rfl⟩
  rw [show ((s.size : Int) + 1).toNat = s.size + 1 from by omega]
  generalize lowN a (s.size + 1) = p at *
  go_wp2_with fail
  refine (dice_lit _ [2, 7, 1] #[.int .u32 2, .int .u32 7, .int .u32 1] rfl (by simp) (by simp)).mono ?_
  rintro e u1 ⟨D1, rfl, hD1⟩
  go_wp2_with fail
  refine (rope_one D1 s _ hD1.dice (by omega)).mono ?_
  rintro e u2 ⟨R, rfl, hF1⟩
  obtain ⟨hx2, hn2⟩ := hF1.based (Mod.refl _ w1) hD1
  have hR2 := hF1.rope
  have hs2 := hF1.size
  have ht2 := hF1.text
  rw [toList_length] at hs2
  have hs2' : R.t.size ≤ s.size ∧ s.size ≤ R.t.size := by omega
  have Ht2 := Lib.hid ht2
  clear hF1 hs2 ht2
  go_wp2_with fail
  refine (dice_lit _ [8] #[.int .u32 8] rfl (by simp) (by simp)).mono ?_
  rintro e u3 ⟨D2, rfl, hD2⟩
  go_wp2_with fail
  refine (twin_any R D2 _ (hR2.ext hD2.ext) hD2.dice).mono ?_
  rintro e u4 ⟨T, rfl, hF2⟩
  obtain ⟨hx4, hn4⟩ := hF2.based hx2 hD2
  obtain ⟨hR4, ha4⟩ := hF2.with hD2 hR2
  have hT4 := hF2.rope
  have hst := hF2.size
  have htt := hF2.text.trans Ht2.out
  rw [Ht2.out, toList_length] at hst
  have hst' : T.t.size ≤ s.size ∧ s.size ≤ T.t.size := by omega
  have hbs : bs T.text = s := bs_eq htt
  have Htt := Lib.hid htt
  have Hbs := Lib.hid hbs
  clear hF2 hst htt hbs
  have b1 : (s.toList == s.toList) = true := str_eq rfl
  have hc1 := text_rope T u4 hT4
  rw [Hbs.out] at hc1
  go_wp2_with fail
  refine hc1.mono ?_
  rintro e u5 ⟨rfl, y5⟩
  have hR5 := hR4.ext y5
  have hT5 := hT4.ext y5
  have hx5 := hx4.ext_trans y5
  go_wp2_with fail
  refine (insert_yes R p c _ hR5 (rises_of ⟨by omega, by omega, by omega⟩) (by omega)).mono ?_
  rintro e u6 ⟨rfl, R6, hd6⟩
  obtain ⟨hx6, hn6⟩ := hd6.base hx5 hn2
  obtain ⟨hT6, ha6⟩ := hd6.aside ha4 hT5
  have Hd6 := Lib.hid hd6
  have hc2 := text_rope T u6 hT6
  rw [Hbs.out] at hc2
  clear hd6 hc1
  go_wp2_with fail
  refine hc2.mono ?_
  rintro e u7 ⟨rfl, y7⟩
  have hR7 := Hd6.out.rope.ext y7
  have hT7 := hT6.ext y7
  have hx7 := hx6.ext_trans y7
  clear hc2
  go_wp2_with fail
  refine (cut_any T p _ hT7 (rises_of ⟨by omega, by omega, by omega⟩)).mono ?_
  rintro e u8 ⟨T8, O, rfl, hC8⟩
  obtain ⟨hx8, hnT8, hnO8⟩ := hC8.base hx7 hn4
  obtain ⟨hR8, haT8, haO8⟩ := hC8.aside ha6.symm hR7
  have hO8 := hC8.other
  have hTO8 := hC8.apart
  have hsz8 := hC8.sizes
  rw [Htt.out, List.length_take, List.length_drop, toList_length] at hsz8
  have hso8 : O.t.size ≤ 400 ∧ T8.t.size ≤ p ∧ p ≤ T8.t.size := by omega
  have HC8 := Lib.hid hC8
  clear hC8 hsz8
  go_wp2_with fail
  refine (insert_yes O 0 c _ hO8 (rises_of ⟨by omega, by omega, by omega⟩) (by omega)).mono ?_
  rintro e u9 ⟨rfl, O9, hd9⟩
  obtain ⟨hx9, hn9⟩ := hd9.base hx8 hnO8
  obtain ⟨hR9, haR9⟩ := hd9.aside haO8 hR8
  obtain ⟨hT9, haT9⟩ := hd9.aside hTO8.symm HC8.out.rope
  have Hd9 := Lib.hid hd9
  have hc3 := delete_yes T8 0 p _ hT9 (rises_of ⟨by omega, by omega, by omega⟩)
  rw [HC8.out.grew.1] at hc3
  clear hd9
  go_wp2_with fail
  refine hc3.mono ?_
  rintro e ua ⟨rfl, Ta, hda⟩
  obtain ⟨hxa, hna⟩ := hda.base hx9 hnT8
  obtain ⟨hRa, haRa⟩ := hda.aside haT8 hR9
  obtain ⟨hOa, haOa⟩ := hda.aside haT9.symm Hd9.out.rope
  have Hda := Lib.hid hda
  clear hda hc3
  go_wp2_with fail
  have q1 : bs R6.text = s.extract 0 p ++ c ++ s.extract p s.size := by
    rw [← bs_of (s.extract 0 p ++ c ++ s.extract p s.size)]
    congr 1
    rw [Hd6.out.text, Ht2.out]
    simp only [splice, Int.toNat_natCast, ByteArray.data_append, Array.toList_append, ByteArray.data_extract, Array.toList_extract, List.extract_eq_take_drop, List.append_assoc, Nat.sub_zero, List.drop_zero]
    rw [List.take_of_length_le (l := s.data.toList.drop p) (by simp)]
  have q2 : bs Ta.text = ⟨#[]⟩ := by
    rw [Hda.out.text, HC8.out.text, Htt.out]
    simp [splice]
    rfl
  have q3 : bs O9.text = c ++ s.extract p s.size := by
    rw [← bs_of (c ++ s.extract p s.size)]
    congr 1
    rw [Hd9.out.text, HC8.out.rest, Htt.out]
    simp only [splice, Int.toNat_natCast, ByteArray.data_append, Array.toList_append, ByteArray.data_extract, Array.toList_extract, List.extract_eq_take_drop, Int.toNat_zero, List.take_zero, List.drop_zero, List.nil_append]
    rw [List.take_of_length_le (l := s.data.toList.drop p) (by simp)]
  have c1 := fun v (hv : Ext ua v) => text_rope R6 v (hRa.ext hv)
  rw [q1, Hd6.out.grew.1] at c1
  have c2 := fun v (hv : Ext ua v) => text_rope Ta v (Hda.out.rope.ext hv)
  rw [q2, Hda.out.grew.1, HC8.out.grew.1] at c2
  have c3 := fun v (hv : Ext ua v) => text_rope O9 v (hOa.ext hv)
  rw [q3, Hd9.out.grew.1] at c3
  have c4 := fun v (hv : Ext ua v) => whole_any O9 v (hOa.ext hv)
  rw [Hd9.out.grew.1] at c4
  have C1 := Lib.hid c1
  have C2 := Lib.hid c2
  have C3 := Lib.hid c3
  have C4 := Lib.hid c4
  have w0 : (0 : Int) ≤ (p : Int) := by omega
  have w1 : (p : Int) ≤ (s.size : Int) := by omega
  clear q1 q2 q3 c1 c2 c3 c4
  refine wp_region_ext_lit (by kernel_rfl) (by kernel_rfl) ?_
  repeat (go_big_quiet_step (first | (with_reducible exact Calls.ext_of (C1.out _ (Mod.of_below (ext_below _ _)))) | (with_reducible exact Calls.ext_of (C2.out _ (Mod.of_below (ext_below _ _)))) | (with_reducible exact Calls.ext_of (C3.out _ (Mod.of_below (ext_below _ _)))) | (with_reducible exact Calls.ext_of (C4.out _ (Mod.of_below (ext_below _ _)))) | (with_reducible exact Calls.ext_of (awake3_any _))))
  refine wpQuiet_nil ?_
  intro we hxe
  go_wp2_with fail
  go_ret
  exact ⟨rfl, hxa.ext_trans hxe⟩

set_option maxHeartbeats 1600000 in
set_option maxRecDepth 1000000 in
theorem ropeTwin_calls (w : World) (s : ByteArray) (ws : s.size ≤ 9223372036854775807) (a : Int) (wa : (Lit.int .i64 a).wf = true) (c : ByteArray) (wc : c.size ≤ 9223372036854775807) :
    Calls Try.prog 6 #[.string s, .int .i64 a, .string c] w fun e w' => e = .returned (.bool true) ∧ Ext w w' := by
  clear ws wa wc
  by_cases h1 : s.size ≤ 300
  · have i1 : decide ((300 : Int) < (s.size : Int)) = false := by simp; omega
    have j1 : ¬ (300 : Int) < (s.size : Int) := by omega
    by_cases h2 : c.size ≤ 100
    · exact ropeTwin_any w s a c h1 h2
    · have j2 : (100 : Int) < (c.size : Int) := by omega
      go_enter Try.func6, Try.ntmps6
      go_wp2_with fail
      refine (awake3_any _).mono ?_
      rintro e w1 ⟨rfl, hx⟩
      go_wp2_with fail
      go_ret
      exact ⟨rfl, hx⟩
  · have j1 : (300 : Int) < (s.size : Int) := by omega
    go_enter Try.func6, Try.ntmps6
    go_wp2_with fail
    refine (awake3_any _).mono ?_
    rintro e w1 ⟨rfl, hx⟩
    go_wp2_with fail
    go_ret
    exact ⟨rfl, hx⟩

end Go.Proofs.Ytbcjlbapgidhiaa

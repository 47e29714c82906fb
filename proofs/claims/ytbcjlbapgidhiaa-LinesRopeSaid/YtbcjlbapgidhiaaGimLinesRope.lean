/- Lines have their rope's calls; what is put in by them is in the rope, its lines follow: the walk. Conditions: none. -/
import Derived.Test.YtbcjlbapgidhiaaGimLinesSame
namespace Go.Proofs.Ytbcjlbapgidhiaa
open Go.RowKit Go.Gim

set_option maxHeartbeats 3200000 in
set_option maxRecDepth 1000000 in
theorem linesRope_any (w : World) (s : ByteArray) (a : Int) (c : ByteArray) (h1 : s.size ≤ 200) (h2 : c.size ≤ 60) :
    Calls Try.prog 21 #[.string s, .int .i64 a, .string c] w fun e w' => e = .returned (.bool true) ∧ Ext w w' := by
  have i1 : ¬ (200 : Int) < (s.size : Int) := by omega
  have i2 : ¬ (60 : Int) < (c.size : Int) := by omega
  have lp := lowN_lt a (s.size + 1) (by omega)
  go_enter Try.func21, Try.ntmps21
  go_wp2_with fail
  refine (dice_lit _ [1] #[.int .u32 1] rfl (by simp) (by simp)).mono ?_
  rintro e u1 ⟨D1, rfl, hD1⟩
  go_wp2_with fail
  refine (rope_one D1 s _ hD1.dice (by omega)).mono ?_
  rintro e u2 ⟨R, rfl, hF1⟩
  obtain ⟨hx2, hn2⟩ := hF1.based (Mod.refl _ w) hD1
  have hR2 := hF1.rope
  have hs2 := hF1.size
  have ht2 := hF1.text
  rw [toList_length] at hs2
  have hs2' : R.t.size ≤ s.size ∧ s.size ≤ R.t.size := by omega
  have Ht2 := Lib.hid ht2
  clear hF1 hs2 ht2
  go_wp2_with fail
  refine (linesOf_any _ _).mono ?_
  rintro e u3 ⟨rfl, y3⟩
  have ha : Ext u3 (u3.alloc (.cells #[.pointer (some ⟨R.rb, 0, none⟩)] 64)) := (Mod.refl _ u3).alloc _
  have hRa := (hR2.ext y3).ext ha
  have hxa := (hx2.ext_trans y3).ext_trans ha
  go_wp2_with fail
  refine (low_any a ((s.size : Int) + 1) _ (by omega) (by omega)).mono ?_
  rintro e w1 ⟨rfl, rfl⟩
  rw [show ((s.size : Int) + 1).toNat = s.size + 1 from by omega]
  generalize lowN a (s.size + 1) = p at *
  go_wp2_with fail
  refine (insert_yes R p c _ hRa (rises_of ⟨by omega, by omega, by omega⟩) (by omega)).mono ?_
  rintro e u4 ⟨rfl, R4, hd4⟩
  have hbox : Blk (u3.alloc (.cells #[.pointer (some ⟨R.rb, 0, none⟩)] 64)) u3.heap.size 64 #[.pointer (some ⟨R.rb, 0, none⟩)] := Blk.new _ _ _
  have hlt := (hR2.ext y3).flt
  have hbox4 := hbox.mod hd4.mod (fun hf => Nat.lt_irrefl _ (hlt _ hf))
  obtain ⟨hx4, hn4⟩ := hd4.base hxa hn2
  have q1 : R4.text = (s.extract 0 p ++ c ++ s.extract p s.size).data.toList := by
    rw [hd4.text, Ht2.out]
    simp only [splice, Int.toNat_natCast, ByteArray.data_append, Array.toList_append, ByteArray.data_extract, Array.toList_extract, List.extract_eq_take_drop, List.append_assoc, Nat.sub_zero, List.drop_zero]
    rw [List.take_of_length_le (l := s.data.toList.drop p) (by simp)]
  have q2 : (s.extract 0 p ++ c ++ s.extract p s.size).size ≤ 65536 := by
    have e1 : (s.extract 0 p ++ c ++ s.extract p s.size).size = (s.extract 0 p).size + c.size + (s.extract p s.size).size := by rw [ByteArray.size_append, ByteArray.size_append]
    rw [e1, ByteArray.size_extract, ByteArray.size_extract]
    omega
  have q3 := size_text q1
  have q4 : bs R4.text = s.extract 0 p ++ c ++ s.extract p s.size := by rw [q1, bs_of]
  obtain ⟨m, M1, M2⟩ := many_same R4 _ q2 q1
  have C1 := fun v (hv : RopeAt v R4) => text_rope R4 v hv
  have C2 := fun v (hv : RopeAt v R4) => len_any R4 v hv
  rw [q4, hd4.grew.1] at C1
  rw [q3, hd4.grew.1] at C2
  rw [hd4.grew.1] at M1
  have C1 := Lib.hid C1
  have C2 := Lib.hid C2
  have M1 := Lib.hid M1
  have M2 := Lib.hid M2
  have hR4 := hd4.rope
  have w0 : (0 : Int) ≤ (p : Int) := by omega
  have w1' : (p : Int) ≤ (s.size : Int) := by omega
  clear hd4 hbox q1 q3 q4 hlt
  go_wp2_with (go_quiet (fail))
  refine (C1.out _ (hR4.drewN _)).mono ?_
  rintro e u5 ⟨rfl, y⟩
  replace y := Mod.of_drewN y
  have k : u5.cell? ⟨u3.heap.size, 0, none⟩ = some (.pointer (some ⟨R.rb, 0, none⟩)) := by simpa using (hbox4.mod y (fun f => f)).cell 0
  go_wp2_with fail
  refine (C1.out _ (hR4.ext y)).mono ?_
  rintro e u6 ⟨rfl, y'⟩
  replace y := y.ext_trans y'
  have k : u6.cell? ⟨u3.heap.size, 0, none⟩ = some (.pointer (some ⟨R.rb, 0, none⟩)) := by simpa using (hbox4.mod y (fun f => f)).cell 0
  clear y'
  go_wp2_with fail
  refine (C2.out _ (hR4.ext y)).mono ?_
  rintro e u7 ⟨rfl, rfl⟩
  go_wp2_with fail
  refine (M1.out _ (hR4.ext y)).mono ?_
  rintro e u8 ⟨rfl, y'⟩
  replace y := y.ext_trans y'
  clear y' k
  go_wp2_with fail
  refine (M2.out _).mono ?_
  rintro e u9 ⟨rfl, y'⟩
  replace y := y.ext_trans y'
  clear y'
  go_wp2_with fail
  refine (awake4_any _).mono ?_
  rintro e ua ⟨rfl, y'⟩
  go_wp2_with fail
  go_ret
  exact ⟨rfl, (hx4.ext_trans y).ext_trans y'⟩

set_option maxHeartbeats 1600000 in
set_option maxRecDepth 1000000 in
theorem linesRope_calls (w : World) (s : ByteArray) (ws : s.size ≤ 9223372036854775807) (a : Int) (wa : (Lit.int .i64 a).wf = true) (c : ByteArray) (wc : c.size ≤ 9223372036854775807) :
    Calls Try.prog 21 #[.string s, .int .i64 a, .string c] w fun e w' => e = .returned (.bool true) ∧ Ext w w' := by
  clear ws wa wc
  by_cases h1 : s.size ≤ 200
  · have i1 : decide ((200 : Int) < (s.size : Int)) = false := by simp; omega
    have j1 : ¬ (200 : Int) < (s.size : Int) := by omega
    by_cases h2 : c.size ≤ 60
    · exact linesRope_any w s a c h1 h2
    · have j2 : (60 : Int) < (c.size : Int) := by omega
      go_enter Try.func21, Try.ntmps21
      go_wp2_with fail
      refine (awake4_any _).mono ?_
      rintro e w1 ⟨rfl, hx⟩
      go_wp2_with fail
      go_ret
      exact ⟨rfl, hx⟩
  · have j1 : (200 : Int) < (s.size : Int) := by omega
    go_enter Try.func21, Try.ntmps21
    go_wp2_with fail
    refine (awake4_any _).mono ?_
    rintro e w1 ⟨rfl, hx⟩
    go_wp2_with fail
    go_ret
    exact ⟨rfl, hx⟩

end Go.Proofs.Ytbcjlbapgidhiaa

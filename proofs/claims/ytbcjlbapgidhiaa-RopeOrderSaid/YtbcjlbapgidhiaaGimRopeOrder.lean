/- Two texts put in at two places stand there whichever of them comes first: the walk. Conditions: none. -/
import Derived.Test.YtbcjlbapgidhiaaGimRopes
import Derived.Deep.DeepCutAuto
import Derived.Outline
namespace Go.Proofs.Ytbcjlbapgidhiaa
open Go.RowKit Go.Gim

theorem order_plain (s x y : List UInt8) (p q : Nat) (hpq : p ≤ q) (hq : q ≤ s.length) :
    splice (splice s (q : Int) (q : Int) y) (p : Int) (p : Int) x = s.take p ++ (x ++ ((s.drop p).take (q - p) ++ (y ++ s.drop q))) ∧
    splice (splice s (p : Int) (p : Int) x) ((q : Int) + (x.length : Int)) ((q : Int) + (x.length : Int)) y = s.take p ++ (x ++ ((s.drop p).take (q - p) ++ (y ++ s.drop q))) := by
  unfold splice
  rw [show ((q : Int) + (x.length : Int)).toNat = q + x.length from by omega]
  simp only [Int.toNat_natCast]
  constructor
  · rw [List.take_append_of_le_length (by rw [List.length_take]; omega), List.take_take, Nat.min_eq_left hpq, List.drop_append_of_le_length (by rw [List.length_take]; omega), List.drop_take]
  · have e1 : (s.take p).length = p := by rw [List.length_take]; omega
    rw [List.take_append, List.drop_append, e1, List.take_append, List.drop_append, List.take_of_length_le (l := s.take p) (by omega), List.take_of_length_le (l := x) (by omega), List.drop_of_length_le (l := s.take p) (by omega), List.drop_of_length_le (l := x) (by omega)]
    rw [show q + x.length - p - x.length = q - p from by omega, List.drop_drop]
    simp only [List.nil_append, List.append_assoc, show p + (q - p) = q from by omega]

set_option maxHeartbeats 3200000 in
set_option maxRecDepth 1000000 in
theorem ropeOrder_any (w : World) (s x y : ByteArray) (a b : Int) (h1 : s.size ≤ 200) (h2 : x.size ≤ 200) (h3 : y.size ≤ 200) :
    Calls Try.prog 4 #[.string s, .string x, .string y, .int .i64 a, .int .i64 b] w fun e w' => e = .returned (.bool true) ∧ Ext w w' := by
  have i1 : ¬ (200 : Int) < (s.size : Int) := by omega
  have i2 : ¬ (200 : Int) < (x.size : Int) := by omega
  have i3 : ¬ (200 : Int) < (y.size : Int) := by omega
  have lp := lowN_lt a (s.size + 1) (by omega)
  have lq := lowN_lt b (s.size + 1) (by omega)
  go_enter Try.func4, Try.ntmps4
  go_wp2_with fail
  refine (low_any a ((s.size : Int) + 1) _ (by omega) (by omega)).mono ?_
  rintro e w1 ⟨rfl, rfl⟩
  rw [show ((s.size : Int) + 1).toNat = s.size + 1 from by omega]
  generalize lowN a (s.size + 1) = p0 at *
  go_wp2_with fail
  refine (low_any b ((s.size : Int) + 1) _ (by omega) (by omega)).mono ?_
  rintro e w1 ⟨rfl, rfl⟩
  rw [show ((s.size : Int) + 1).toNat = s.size + 1 from by omega]
  generalize lowN b (s.size + 1) = q0 at *
  go_upto_region 4 with fail
  go_cut [11, 12] (fun s1 s2 wx => ∃ p q : Nat, s1 = .int .i64 p ∧ s2 = .int .i64 q ∧ w1 = wx ∧ p ≤ q ∧ q ≤ s.size)
  case first =>
    by_cases hpq : (p0 : Int) < (q0 : Int)
    · go_wp2_with fail
      go_meet
      case rel => exact ⟨p0, q0, rfl, rfl, rfl, by omega, by omega⟩
    · by_cases hpq2 : p0 = q0
      · subst hpq2
        go_wp2_with fail
        go_meet
        case rel => exact ⟨p0, p0, rfl, rfl, rfl, by omega, by omega⟩
      · have hqp : (q0 : Int) < (p0 : Int) := by omega
        go_wp2_with fail
        go_meet
        case rel => exact ⟨q0, p0, rfl, rfl, rfl, by omega, by omega⟩
  case rest =>
    obtain ⟨p, q, rfl, rfl, rfl, hpq, hqs⟩ := hcut
    obtain ⟨hv1, hv2⟩ := order_plain s.data.toList x.data.toList y.data.toList p q hpq (by rw [toList_length]; exact hqs)
    rw [toList_length] at hv2
    have Hv1 := Lib.hid hv1
    have Hv2 := Lib.hid hv2
    clear hv1 hv2 lp lq
    go_wp2_with fail
    refine (dice_lit _ [3] #[.int .u32 3] rfl (by simp) (by simp)).mono ?_
    rintro e u1 ⟨D1, rfl, hD1⟩
    go_wp2_with fail
    refine (rope_one D1 s _ hD1.dice (by omega)).mono ?_
    rintro e u2 ⟨R, rfl, hF1⟩
    obtain ⟨hx2, hn2⟩ := hF1.based (Mod.refl _ w1) hD1
    have hR2 := hF1.rope
    have hs2 := hF1.size
    have ht2 := hF1.text
    go_wp2_with fail
    refine (dice_lit _ [4, 1] #[.int .u32 4, .int .u32 1] rfl (by simp) (by simp)).mono ?_
    rintro e u3 ⟨D2, rfl, hD2⟩
    go_wp2_with fail
    refine (rope_one D2 s _ hD2.dice (by omega)).mono ?_
    rintro e u4 ⟨O, rfl, hF2⟩
    obtain ⟨hx4, hn4⟩ := hF2.based hx2 hD2
    obtain ⟨hR4, ha4⟩ := hF2.with hD2 hR2
    have hO4 := hF2.rope
    have hso := hF2.size
    have hto := hF2.text
    rw [toList_length] at hs2 hso
    have Ht2 := Lib.hid ht2
    have Hto := Lib.hid hto
    have hs2' : R.t.size ≤ s.size ∧ s.size ≤ R.t.size := by omega
    have hso' : O.t.size ≤ s.size ∧ s.size ≤ O.t.size := by omega
    clear ht2 hto hs2 hso hF1 hF2
    go_wp2_with fail
    refine (insert_yes R q y _ hR4 (rises_of ⟨by omega, by omega, by omega⟩) (by omega)).mono ?_
    rintro e u5 ⟨rfl, R5, hd5⟩
    obtain ⟨hx5, hn5⟩ := hd5.base hx4 hn2
    obtain ⟨hO5, ha5⟩ := hd5.aside ha4 hO4
    have hb5 := hd5.grew.1
    have hs5 := hd5.size
    have hl5 := splice_len R.text q q y.data.toList (by omega) (by omega) (by rw [Ht2.out, toList_length]; omega)
    have hl2 : R.text.length = R.t.size := rfl
    rw [toList_length, hl2] at hl5
    have hc6 := insert_yes R5 p x _ hd5.rope (rises_of ⟨by omega, by omega, by omega⟩) (by omega)
    rw [hb5] at hc6
    have Hb5 := Lib.hid hb5
    have Hd5 := Lib.hid hd5
    clear hb5 hs5 hl5 hl2 hd5
    go_wp2_with fail
    refine hc6.mono ?_
    rintro e u6 ⟨rfl, R6, hd6⟩
    obtain ⟨hx6, hn6⟩ := hd6.base hx5 hn5
    obtain ⟨hO6, ha6⟩ := hd6.aside ha5 hO5
    have ht6 : R6.text = s.data.toList.take p ++ (x.data.toList ++ ((s.data.toList.drop p).take (q - p) ++ (y.data.toList ++ s.data.toList.drop q))) := by
      rw [hd6.text, Hd5.out.text, Ht2.out, Hv1.out]
    have Ht6 := Lib.hid ht6
    have Hd6 := Lib.hid hd6
    clear ht6 hd6 hc6
    go_wp2_with fail
    refine (insert_yes O p x _ hO6 (rises_of ⟨by omega, by omega, by omega⟩) (by omega)).mono ?_
    rintro e u7 ⟨rfl, O7, hd7⟩
    obtain ⟨hx7, hn7⟩ := hd7.base hx6 hn4
    obtain ⟨hR7, ha7⟩ := hd7.aside ha6.symm Hd6.out.rope
    have hb7 := hd7.grew.1
    have hs7 := hd7.size
    have hl7 := splice_len O.text p p x.data.toList (by omega) (by omega) (by rw [Hto.out, toList_length]; omega)
    have hl2 : O.text.length = O.t.size := rfl
    rw [toList_length, hl2] at hl7
    have hc8 := insert_yes O7 ((q : Int) + (x.size : Int)) y _ hd7.rope (rises_of ⟨by omega, by omega, by omega⟩) (by omega)
    rw [hb7] at hc8
    have Hb7 := Lib.hid hb7
    have Hd7 := Lib.hid hd7
    clear hb7 hs7 hl7 hl2 hd7
    go_wp2_with fail
    refine hc8.mono ?_
    rintro e u8 ⟨rfl, O8, hd8⟩
    obtain ⟨hx8, hn8⟩ := hd8.base hx7 hn7
    obtain ⟨hR8, ha8⟩ := hd8.aside ha7 hR7
    have ht8 : O8.text = s.data.toList.take p ++ (x.data.toList ++ ((s.data.toList.drop p).take (q - p) ++ (y.data.toList ++ s.data.toList.drop q))) := by
      rw [hd8.text, Hd7.out.text, Hto.out, Hv2.out]
    have Ht8 := Lib.hid ht8
    have Hd8 := Lib.hid hd8
    clear ht8 hd8 hc8
    have w0 : (0 : Int) ≤ (p : Int) := by omega
    have w1 : (p : Int) ≤ (s.size : Int) := by omega
    have w2 : (q : Int) ≤ (s.size : Int) := by omega
    have w3 : (p : Int) ≤ (q : Int) := by omega
    go_wp2_with fail
    go_quiet (fail)
    have hw : s.extract 0 p ++ x ++ s.extract p q ++ y ++ s.extract q s.size = bs (s.data.toList.take p ++ (x.data.toList ++ ((s.data.toList.drop p).take (q - p) ++ (y.data.toList ++ s.data.toList.drop q)))) := by
      rw [← bs_of (s.extract 0 p ++ x ++ s.extract p q ++ y ++ s.extract q s.size)]
      congr 1
      simp only [ByteArray.data_append, Array.toList_append, ByteArray.data_extract, Array.toList_extract, List.extract_eq_take_drop, List.append_assoc, Nat.sub_zero, List.drop_zero]
      rw [List.take_of_length_le (l := s.data.toList.drop q) (by simp)]
    rw [hw]
    clear hw w0 w1 w2 w3
    generalize s.data.toList.take p ++ (x.data.toList ++ ((s.data.toList.drop p).take (q - p) ++ (y.data.toList ++ s.data.toList.drop q))) = W at *
    have hRq := hR8.drewN nq
    have hOq := Hd8.out.rope.drewN nq
    have hxq : Ext w1 (u8.drewN nq) := hx8.drewN nq
    generalize u8.drewN nq = u9 at *
    have b1 : ((bs W).toList == (bs W).toList) = true := str_eq rfl
    have hb6 : R6.rb = R.rb := Hd6.out.grew.1.trans Hb5.out
    have hb8 : O8.rb = O.rb := Hd8.out.grew.1.trans Hb7.out
    have c1 := text_rope R6 u9 hRq
    rw [hb6, Ht6.out] at c1
    have c2 := fun v (hv : Ext u9 v) => text_rope O8 v (hOq.ext hv)
    rw [hb8, Ht8.out] at c2
    have c3 := fun v (hv : Ext u9 v) => whole_any R6 v (hRq.ext hv)
    rw [hb6] at c3
    have c4 := fun v (hv : Ext u9 v) => whole_any O8 v (hOq.ext hv)
    rw [hb8] at c4
    have C2 := Lib.hid c2
    have C3 := Lib.hid c3
    have C4 := Lib.hid c4
    clear c2 c3 c4 hb6 hb8
    go_wp2_with fail
    refine c1.mono ?_
    rintro e v1 ⟨rfl, y1⟩
    go_wp2_with fail
    refine (C2.out v1 y1).mono ?_
    rintro e v2 ⟨rfl, y2⟩
    go_wp2_with fail
    refine (C3.out v2 (y1.ext_trans y2)).mono ?_
    rintro e v3 ⟨rfl, y3⟩
    go_wp2_with fail
    refine (C4.out v3 ((y1.ext_trans y2).ext_trans y3)).mono ?_
    rintro e v4 ⟨rfl, y4⟩
    go_wp2_with fail
    refine (awake3_any _).mono ?_
    rintro e v5 ⟨rfl, y5⟩
    go_wp2_with fail
    go_ret
    exact ⟨rfl, ((((hxq.ext_trans y1).ext_trans y2).ext_trans y3).ext_trans y4).ext_trans y5⟩

set_option maxHeartbeats 1600000 in
set_option maxRecDepth 1000000 in
theorem ropeOrder_calls (w : World) (s : ByteArray) (ws : s.size ≤ 9223372036854775807) (x : ByteArray) (wx : x.size ≤ 9223372036854775807) (y : ByteArray) (wy : y.size ≤ 9223372036854775807) (a : Int) (wa : (Lit.int .i64 a).wf = true) (b : Int) (wb : (Lit.int .i64 b).wf = true) :
    Calls Try.prog 4 #[.string s, .string x, .string y, .int .i64 a, .int .i64 b] w fun e w' => e = .returned (.bool true) ∧ Ext w w' := by
  clear ws wx wy wa wb
  by_cases h1 : s.size ≤ 200
  · have i1 : decide ((200 : Int) < (s.size : Int)) = false := by simp; omega
    have j1 : ¬ (200 : Int) < (s.size : Int) := by omega
    by_cases h2 : x.size ≤ 200
    · have i2 : decide ((200 : Int) < (x.size : Int)) = false := by simp; omega
      have j2 : ¬ (200 : Int) < (x.size : Int) := by omega
      by_cases h3 : y.size ≤ 200
      · exact ropeOrder_any w s x y a b h1 h2 h3
      · have j3 : (200 : Int) < (y.size : Int) := by omega
        go_enter Try.func4, Try.ntmps4
        go_wp2_with fail
        refine (awake3_any _).mono ?_
        rintro e w1 ⟨rfl, hx⟩
        go_wp2_with fail
        go_ret
        exact ⟨rfl, hx⟩
    · have j2 : (200 : Int) < (x.size : Int) := by omega
      go_enter Try.func4, Try.ntmps4
      go_wp2_with fail
      refine (awake3_any _).mono ?_
      rintro e w1 ⟨rfl, hx⟩
      go_wp2_with fail
      go_ret
      exact ⟨rfl, hx⟩
  · have j1 : (200 : Int) < (s.size : Int) := by omega
    go_enter Try.func4, Try.ntmps4
    go_wp2_with fail
    refine (awake3_any _).mono ?_
    rintro e w1 ⟨rfl, hx⟩
    go_wp2_with fail
    go_ret
    exact ⟨rfl, hx⟩

end Go.Proofs.Ytbcjlbapgidhiaa

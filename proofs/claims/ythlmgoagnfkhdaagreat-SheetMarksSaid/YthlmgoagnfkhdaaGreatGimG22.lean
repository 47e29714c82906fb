/- GoWordR goes over bytes that are in no word and then over a whole run of those that are, and no further; GoWordL likewise back: the plain law and the walk. Conditions: none. -/
import Derived.Test.YthlmgoagnfkhdaaGreatGimG21
set_option maxHeartbeats 6400000
set_option maxRecDepth 1000000
set_option linter.unusedVariables false
set_option linter.unusedSimpArgs false
namespace Go.Gim
end Go.Gim
namespace Go.Proofs.YthlmgoagnfkhdaaGreat
open Go.RowKit Go.Gim
theorem refWord9_any (c : UInt8) (w : World) : Calls Tryz.prog 133 #[.int .u8 c.toNat] w fun e w' => e = .returned (.bool (wordB c)) ∧ w' = w := by
 have hall : wordB c = (decide ((48 : Int) ≤ (c.toNat : Int)) && decide ((c.toNat : Int) ≤ 57) || decide ((65 : Int) ≤ (c.toNat : Int)) && decide ((c.toNat : Int) ≤ 90) || decide ((97 : Int) ≤ (c.toNat : Int)) && decide ((c.toNat : Int) ≤ 122) || ((c.toNat : Int) == 95) || decide ((128 : Int) ≤ (c.toNat : Int))) := by
  unfold wordB
  rw [Bool.eq_iff_iff]
  simp only [Bool.or_eq_true, Bool.and_eq_true, decide_eq_true_eq, beq_iff_eq]
  omega
 rw [hall]
 clear hall
 go_enter Tryz.func133, Tryz.ntmps133
 by_cases h1 : (48 : Int) ≤ (c.toNat : Int)
 ·by_cases h2 : (c.toNat : Int) ≤ 57
  ·go_wp2_with fail
   go_ret
   exact ⟨ret_bool (by simp [h1, h2]), rfl⟩
  ·by_cases h3 : (65 : Int) ≤ (c.toNat : Int)
   ·by_cases h4 : (c.toNat : Int) ≤ 90
    ·go_wp2_with fail
     go_ret
     exact ⟨ret_bool (by simp <;> omega), rfl⟩
    ·by_cases h5 : (97 : Int) ≤ (c.toNat : Int)
     ·by_cases h6 : (c.toNat : Int) ≤ 122
      ·go_wp2_with fail
       go_ret
       exact ⟨ret_bool (by simp <;> omega), rfl⟩
      ·by_cases h7 : ((c.toNat : Int) == 95) = true
       ·go_wp2_with fail
        go_ret
        exact ⟨ret_bool (by simp at h7 ⊢ <;> omega), rfl⟩
       ·have h7' : ((c.toNat : Int) == 95) = false := by simpa using h7
        by_cases h8 : (128 : Int) ≤ (c.toNat : Int)
        ·go_wp2_with fail
         go_ret
         exact ⟨ret_bool (by simp <;> omega), rfl⟩
        ·go_wp2_with fail
         go_ret
         exact ⟨ret_bool (by simp at h7' ⊢ <;> omega), rfl⟩
     ·by_cases h7 : ((c.toNat : Int) == 95) = true
      ·go_wp2_with fail
       go_ret
       exact ⟨ret_bool (by simp at h7 ⊢ <;> omega), rfl⟩
      ·have h7' : ((c.toNat : Int) == 95) = false := by simpa using h7
       by_cases h8 : (128 : Int) ≤ (c.toNat : Int)
       ·go_wp2_with fail
        go_ret
        exact ⟨ret_bool (by simp <;> omega), rfl⟩
       ·go_wp2_with fail
        go_ret
        exact ⟨ret_bool (by simp at h7' ⊢ <;> omega), rfl⟩
   ·by_cases h5 : (97 : Int) ≤ (c.toNat : Int)
    ·by_cases h6 : (c.toNat : Int) ≤ 122
     ·go_wp2_with fail
      go_ret
      exact ⟨ret_bool (by simp <;> omega), rfl⟩
     ·by_cases h7 : ((c.toNat : Int) == 95) = true
      ·go_wp2_with fail
       go_ret
       exact ⟨ret_bool (by simp at h7 ⊢ <;> omega), rfl⟩
      ·have h7' : ((c.toNat : Int) == 95) = false := by simpa using h7
       by_cases h8 : (128 : Int) ≤ (c.toNat : Int)
       ·go_wp2_with fail
        go_ret
        exact ⟨ret_bool (by simp <;> omega), rfl⟩
       ·go_wp2_with fail
        go_ret
        exact ⟨ret_bool (by simp at h7' ⊢ <;> omega), rfl⟩
    ·by_cases h7 : ((c.toNat : Int) == 95) = true
     ·go_wp2_with fail
      go_ret
      exact ⟨ret_bool (by simp at h7 ⊢ <;> omega), rfl⟩
     ·have h7' : ((c.toNat : Int) == 95) = false := by simpa using h7
      by_cases h8 : (128 : Int) ≤ (c.toNat : Int)
      ·go_wp2_with fail
       go_ret
       exact ⟨ret_bool (by simp <;> omega), rfl⟩
      ·go_wp2_with fail
       go_ret
       exact ⟨ret_bool (by simp at h7' ⊢ <;> omega), rfl⟩
 ·by_cases h3 : (65 : Int) ≤ (c.toNat : Int)
  ·by_cases h4 : (c.toNat : Int) ≤ 90
   ·go_wp2_with fail
    go_ret
    exact ⟨ret_bool (by simp <;> omega), rfl⟩
   ·by_cases h5 : (97 : Int) ≤ (c.toNat : Int)
    ·by_cases h6 : (c.toNat : Int) ≤ 122
     ·go_wp2_with fail
      go_ret
      exact ⟨ret_bool (by simp <;> omega), rfl⟩
     ·by_cases h7 : ((c.toNat : Int) == 95) = true
      ·go_wp2_with fail
       go_ret
       exact ⟨ret_bool (by simp at h7 ⊢ <;> omega), rfl⟩
      ·have h7' : ((c.toNat : Int) == 95) = false := by simpa using h7
       by_cases h8 : (128 : Int) ≤ (c.toNat : Int)
       ·go_wp2_with fail
        go_ret
        exact ⟨ret_bool (by simp <;> omega), rfl⟩
       ·go_wp2_with fail
        go_ret
        exact ⟨ret_bool (by simp at h7' ⊢ <;> omega), rfl⟩
    ·by_cases h7 : ((c.toNat : Int) == 95) = true
     ·go_wp2_with fail
      go_ret
      exact ⟨ret_bool (by simp at h7 ⊢ <;> omega), rfl⟩
     ·have h7' : ((c.toNat : Int) == 95) = false := by simpa using h7
      by_cases h8 : (128 : Int) ≤ (c.toNat : Int)
      ·go_wp2_with fail
       go_ret
       exact ⟨ret_bool (by simp <;> omega), rfl⟩
      ·go_wp2_with fail
       go_ret
       exact ⟨ret_bool (by simp at h7' ⊢ <;> omega), rfl⟩
  ·by_cases h5 : (97 : Int) ≤ (c.toNat : Int)
   ·by_cases h6 : (c.toNat : Int) ≤ 122
    ·go_wp2_with fail
     go_ret
     exact ⟨ret_bool (by simp <;> omega), rfl⟩
    ·by_cases h7 : ((c.toNat : Int) == 95) = true
     ·go_wp2_with fail
      go_ret
      exact ⟨ret_bool (by simp at h7 ⊢ <;> omega), rfl⟩
     ·have h7' : ((c.toNat : Int) == 95) = false := by simpa using h7
      by_cases h8 : (128 : Int) ≤ (c.toNat : Int)
      ·go_wp2_with fail
       go_ret
       exact ⟨ret_bool (by simp <;> omega), rfl⟩
      ·go_wp2_with fail
       go_ret
       exact ⟨ret_bool (by simp at h7' ⊢ <;> omega), rfl⟩
   ·by_cases h7 : ((c.toNat : Int) == 95) = true
    ·go_wp2_with fail
     go_ret
     exact ⟨ret_bool (by simp at h7 ⊢ <;> omega), rfl⟩
    ·have h7' : ((c.toNat : Int) == 95) = false := by simpa using h7
     by_cases h8 : (128 : Int) ≤ (c.toNat : Int)
     ·go_wp2_with fail
      go_ret
      exact ⟨ret_bool (by simp <;> omega), rfl⟩
     ·go_wp2_with fail
      go_ret
      exact ⟨ret_bool (by simp at h7' ⊢ <;> omega), rfl⟩
theorem ret_pair {a b : Int} (h : a = b) : Ending.returned (.tuple #[.int .i64 a, .int .i64 0]) = .returned (.tuple #[.int .i64 b, .int .i64 0]) := by rw [h]
theorem ref9right_any (s : ByteArray) (a : Nat) (w : World) (ha : a ≤ s.size) (hs : s.size ≤ 65536) :
  Calls Tryz.prog 128 #[.string s, .int .i64 a] w fun e w' => e = .returned (.int .i64 (rightN s.data.toList a : Nat)) ∧ w' = w := by
 obtain ⟨U, hU⟩ : ∃ U, U = rightN s.data.toList a := ⟨_, rfl⟩
 rw [← hU]
 have hst : Hid (∀ k, a + 1 ≤ k → k ≤ s.size + 1 → fwdN inB s.data.toList k = fwdN inB s.data.toList (a + 1) → fwdN inB s.data.toList k = k → (k ≤ s.size → k = U) ∧ (s.size < k → s.size = U)) := Lib.hid (by
  intro k h1 h2 h3 h4
  unfold rightN at hU
  rw [toList_length] at hU
  by_cases h : a < s.size
  ·rw [if_pos h] at hU
   have hle := fwdN_le inB s.data.toList (a + 1) (by rw [toList_length]; omega)
   rw [toList_length] at hle
   exact ⟨fun _ => by omega, fun _ => by omega⟩
  ·rw [if_neg h] at hU
   exact ⟨fun _ => by omega, fun _ => by omega⟩)
 clear hU
 go_enter Tryz.func128, Tryz.ntmps128
 go_wp2_with fail
 go_loop [1] (fun i => ∃ k : Nat, a + 1 ≤ k ∧ k ≤ s.size + 1 ∧ i = .int .i64 k ∧ Hid (fwdN inB s.data.toList k = fwdN inB s.data.toList (a + 1))) (fun i => s.size + 1 - (intOf i).toNat)
 case atStart => exact ⟨a + 1, by omega, by omega, by go_num, Lib.hid rfl⟩
 case round =>
  obtain ⟨k, hk0, hk, rfl, HK⟩ := hrel
  by_cases hkt : k < s.size
  ·have hk1 : (k : Int) < (s.size : Int) := by omega
   have hk2 : (0 : Int) ≤ (k : Int) := by omega
   cases hin : inB s[k] with
   | true =>
    have hd := fwdN_in inB s.data.toList k (by rw [toList_length]; exact hkt) (by rw [toList_get s k hkt]; exact hin)
    have Hd := Lib.hid (hd.symm.trans HK.out)
    have Hin := Lib.hid hin
    clear hd hin
    go_wp2_with fail
    refine (lead_any s[k] _).mono ?_
    rintro e w' ⟨rfl, rfl⟩
    rw [Hin.out]
    go_wp2_with fail
    go_round
    case rel => exact ⟨k + 1, by omega, by omega, by go_num, Hd⟩
    case measure => simp [intOf] <;> omega
   | false =>
    have hd := fwdN_stop inB s.data.toList k (by rw [toList_length]; exact hkt) (by rw [toList_get s k hkt]; exact hin)
    have hkU := (hst.out k hk0 hk HK.out hd).1 (by omega)
    have HkU := Lib.hid hkU
    have Hin := Lib.hid hin
    have m1 : ¬ (s.size : Int) < (k : Int) := by omega
    have m2 : ¬ (s.size : Int) ≤ (k : Int) := by omega
    have m3 : (k : Int) ≤ (s.size : Int) := by omega
    clear hd hin hkU
    go_wp2_with fail
    refine (lead_any s[k] _).mono ?_
    rintro e w' ⟨rfl, rfl⟩
    rw [Hin.out]
    go_wp2_with fail
    go_ret
    exact ⟨ret_int (by rw [← HkU.out]), rfl⟩
  ·have hk1 : ¬ (k : Int) < (s.size : Int) := by omega
   have hd := fwdN_over inB s.data.toList k (by rw [toList_length]; omega)
   by_cases he : k = s.size
   ·have hkU := (hst.out k hk0 hk HK.out hd).1 (by omega)
    subst he
    have HkU := Lib.hid hkU
    clear hd hkU
    go_wp2_with fail
    go_ret
    exact ⟨ret_int (by rw [← HkU.out]), rfl⟩
   ·have hkU := (hst.out k hk0 hk HK.out hd).2 (by omega)
    have HkU := Lib.hid hkU
    have m1 : (s.size : Int) < (k : Int) := by omega
    have m2 : (s.size : Int) ≤ (k : Int) := by omega
    have m3 : ¬ (k : Int) ≤ (s.size : Int) := by omega
    clear hd hkU
    go_wp2_with fail
    go_ret
    exact ⟨ret_int (by rw [← HkU.out]), rfl⟩
theorem ref9left_any (s : ByteArray) (a : Nat) (w : World) (ha : a ≤ s.size) (hs : s.size ≤ 65536) :
  Calls Tryz.prog 127 #[.string s, .int .i64 a] w fun e w' => e = .returned (.int .i64 (leftN s.data.toList a : Nat)) ∧ w' = w := by
 obtain ⟨U, hU⟩ : ∃ U, U = leftN s.data.toList a := ⟨_, rfl⟩
 rw [← hU]
 by_cases h0 : a = 0
 ·subst h0
  have hU0 : U = 0 := hU
  subst hU0
  clear hU
  go_enter Tryz.func127, Tryz.ntmps127
  go_wp2_with fail
  refine wp_loop_rounds 1 ?_
  rw [rounds_succ]
  go_wp2_with fail
  go_ret
  exact ⟨rfl, rfl⟩
 ·have hU2 : downN inB s.data.toList (a - 1) = U := by rw [hU, leftN, if_neg h0]
  have HU := Lib.hid hU2
  have h0' : 0 < a := by omega
  clear hU hU2 h0
  go_enter Tryz.func127, Tryz.ntmps127
  go_wp2_with fail
  go_loop [1] (fun i => ∃ j : Nat, j < s.size ∧ i = .int .i64 j ∧ Hid (downN inB s.data.toList j = U)) (fun i => (intOf i).toNat)
  case atStart => exact ⟨a - 1, by omega, by rw [show ((a - 1 : Nat) : Int) = (a : Int) - 1 from by omega], HU⟩
  case round =>
   obtain ⟨j, hj, rfl, HJ⟩ := hrel
   have n1 : ¬ (j : Int) < 0 := by omega
   have n2 : (0 : Int) ≤ (j : Int) := by omega
   by_cases hj0 : 0 < j
   ·have hj0' : (0 : Int) < (j : Int) := by omega
    have hj2 : (j : Int) < (s.size : Int) := by omega
    have hd := downN_pos inB s.data.toList j hj0 (by rw [toList_length]; exact hj)
    rw [toList_get s j hj] at hd
    cases hin : inB s[j] with
    | true =>
     rw [if_pos hin] at hd
     have Hd := Lib.hid (hd.symm.trans HJ.out)
     have Hin := Lib.hid hin
     clear hd hin
     go_wp2_with fail
     refine (lead_any s[j] _).mono ?_
     rintro e w' ⟨rfl, rfl⟩
     rw [Hin.out]
     go_wp2_with fail
     go_round
     case rel => exact ⟨j - 1, by omega, by rw [show ((j - 1 : Nat) : Int) = (j : Int) - 1 from by omega], Hd⟩
     case measure => simp [intOf]; omega
    | false =>
     rw [if_neg (by rw [hin]; decide)] at hd
     have Hd := Lib.hid (hd.symm.trans HJ.out)
     have Hin := Lib.hid hin
     have n3 : ¬ (j : Int) ≤ 0 := by omega
     clear hd hin
     go_wp2_with fail
     refine (lead_any s[j] _).mono ?_
     rintro e w' ⟨rfl, rfl⟩
     rw [Hin.out]
     go_wp2_with fail
     go_ret
     exact ⟨ret_int (by rw [← Hd.out]), rfl⟩
   ·obtain rfl : j = 0 := by omega
    have HJ2 := Lib.hid (show (0 : Nat) = U from HJ.out)
    go_wp2_with fail
    go_ret
    exact ⟨ret_int (by rw [← HJ2.out]; rfl), rfl⟩
theorem refPlace_col (s : ByteArray) (a : Nat) (w : World) (hs : s.size ≤ 65536) (ha : a ≤ s.size) :
  Calls Tryz.prog 126 #[.string s, .int .i64 a, .int .i64 1] w fun e w' => e = .returned (.tuple #[.int .i64 (lnN s.data.toList a : Nat), .int .i64 (colN s.data.toList a : Nat), .int .i64 0]) ∧ Ext w w' := by
 have h := refPlace_yes s a 1 w hs (by decide) (rises_of ⟨by omega, by omega, by omega⟩)
 have hl := lineN_le s.data.toList a
 have hq := byW_seg 1 s.data.toList _ a hl
 unfold PlacePost at h
 rw [Int.toNat_natCast, ← Int.ofNat_sub (by omega)] at h
 exact h
def RStep (U : Nat) (w : World) (e : Ending) (w' : World) : Prop := e = .returned (.tuple #[.int .i64 (U : Nat), .int .i64 0]) ∧ Ext w w'
theorem refStep_r (s : ByteArray) (a : Nat) (w : World) (hs : s.size ≤ 65536) (ha : a ≤ s.size) :
  Calls Tryz.prog 93 #[.string s, .int .i64 a, .int .i64 10] w (RStep (wordRN s.data.toList a) w) := by
 obtain ⟨U, hU⟩ : ∃ U, wordRN s.data.toList a = U := ⟨_, rfl⟩
 rw [hU]
 obtain ⟨V, hV⟩ : ∃ V, fwdN noWordB s.data.toList a = V := ⟨_, rfl⟩
 rw [wordRN, hV] at hU
 have HU := Lib.hid hU
 have HV := Lib.hid hV
 clear hU hV
 have hp := refPlace_col s a w hs ha
 have i1 : ¬ (a : Int) < 0 := by omega
 have i2 : ¬ (s.size : Int) < (a : Int) := by omega
 go_enter Tryz.func93, Tryz.ntmps93
 go_wp2_with fail
 refine hp.mono ?_
 rintro e w1 ⟨rfl, hx⟩
 clear hp
 go_wp2_with fail
 go_loop [1] (fun i => ∃ k : Nat, k ≤ s.size ∧ i = .int .i64 k ∧ Hid (fwdN noWordB s.data.toList k = V)) (fun i => s.size - (intOf i).toNat)
 case atStart => exact ⟨a, ha, rfl, HV⟩
 case round =>
  obtain ⟨k, hk, rfl, HK⟩ := hrel
  by_cases hkt : k < s.size
  ·have hk1 : (k : Int) < (s.size : Int) := by omega
   have hk2 : (0 : Int) ≤ (k : Int) := by omega
   cases hin : wordB s[k] with
   | false =>
    have hd := fwdN_in noWordB s.data.toList k (by rw [toList_length]; exact hkt) (by rw [toList_get s k hkt]; simp [noWordB, hin])
    have Hd := Lib.hid (hd.symm.trans HK.out)
    have Hin := Lib.hid hin
    clear hd hin
    go_wp2_with fail
    refine (refWord9_any s[k] _).mono ?_
    rintro e w' ⟨rfl, rfl⟩
    rw [Hin.out]
    go_wp2_with fail
    go_round
    case rel => exact ⟨k + 1, by omega, by go_num, Hd⟩
    case measure => simp [intOf] <;> omega
   | true =>
    have hd := fwdN_stop noWordB s.data.toList k (by rw [toList_length]; exact hkt) (by rw [toList_get s k hkt]; simp [noWordB, hin])
    have hkV := hd.symm.trans HK.out
    have HkU := Lib.hid (show fwdN wordB s.data.toList k = U from by rw [hkV]; exact HU.out)
    have Hin := Lib.hid hin
    clear hd hin hkV
    go_wp2_with fail
    refine (refWord9_any s[k] _).mono ?_
    rintro e w' ⟨rfl, rfl⟩
    rw [Hin.out]
    go_wp2_with fail
    go_loop [1] (fun i => ∃ k : Nat, k ≤ s.size ∧ i = .int .i64 k ∧ Hid (fwdN wordB s.data.toList k = U)) (fun i => s.size - (intOf i).toNat)
    case atStart => exact ⟨k, by omega, rfl, HkU⟩
    case round =>
     clear HkU HK HV HU
     obtain ⟨j, hj, rfl, HJ⟩ := hrel
     by_cases hjt : j < s.size
     ·have hj1 : (j : Int) < (s.size : Int) := by omega
      have hj2 : (0 : Int) ≤ (j : Int) := by omega
      cases hin : wordB s[j] with
      | true =>
       have hd := fwdN_in wordB s.data.toList j (by rw [toList_length]; exact hjt) (by rw [toList_get s j hjt]; exact hin)
       have Hd := Lib.hid (hd.symm.trans HJ.out)
       have Hin := Lib.hid hin
       clear hd hin
       go_wp2_with fail
       refine (refWord9_any s[j] _).mono ?_
       rintro e w' ⟨rfl, rfl⟩
       rw [Hin.out]
       go_wp2_with fail
       go_round
       case rel => exact ⟨j + 1, by omega, by go_num, Hd⟩
       case measure => simp [intOf] <;> omega
      | false =>
       have hd := fwdN_stop wordB s.data.toList j (by rw [toList_length]; exact hjt) (by rw [toList_get s j hjt]; exact hin)
       have Hd := Lib.hid (hd.symm.trans HJ.out)
       have Hin := Lib.hid hin
       clear hd hin
       go_wp2_with fail
       refine (refWord9_any s[j] _).mono ?_
       rintro e w' ⟨rfl, rfl⟩
       rw [Hin.out]
       go_wp2_with fail
       go_ret2
       exact ⟨ret_pair (by rw [← Hd.out]), hx⟩
     ·have hj1 : ¬ (j : Int) < (s.size : Int) := by omega
      have hd := fwdN_over wordB s.data.toList j (by rw [toList_length]; omega)
      have Hd := Lib.hid (hd.symm.trans HJ.out)
      clear hd
      go_wp2_with fail
      go_ret2
      exact ⟨ret_pair (by rw [← Hd.out]), hx⟩
  ·have hk1 : ¬ (k : Int) < (s.size : Int) := by omega
   have hd := fwdN_over noWordB s.data.toList k (by rw [toList_length]; omega)
   have hkV := hd.symm.trans HK.out
   have HkU := Lib.hid (show fwdN wordB s.data.toList k = U from by rw [hkV]; exact HU.out)
   clear hd hkV
   go_wp2_with fail
   go_loop [1] (fun i => ∃ k : Nat, k ≤ s.size ∧ i = .int .i64 k ∧ Hid (fwdN wordB s.data.toList k = U)) (fun i => s.size - (intOf i).toNat)
   case atStart => exact ⟨k, by omega, rfl, HkU⟩
   case round =>
    clear HkU HK HV HU
    obtain ⟨j, hj, rfl, HJ⟩ := hrel
    by_cases hjt : j < s.size
    ·have hj1 : (j : Int) < (s.size : Int) := by omega
     have hj2 : (0 : Int) ≤ (j : Int) := by omega
     cases hin : wordB s[j] with
     | true =>
      have hd := fwdN_in wordB s.data.toList j (by rw [toList_length]; exact hjt) (by rw [toList_get s j hjt]; exact hin)
      have Hd := Lib.hid (hd.symm.trans HJ.out)
      have Hin := Lib.hid hin
      clear hd hin
      go_wp2_with fail
      refine (refWord9_any s[j] _).mono ?_
      rintro e w' ⟨rfl, rfl⟩
      rw [Hin.out]
      go_wp2_with fail
      go_round
      case rel => exact ⟨j + 1, by omega, by go_num, Hd⟩
      case measure => simp [intOf] <;> omega
     | false =>
      have hd := fwdN_stop wordB s.data.toList j (by rw [toList_length]; exact hjt) (by rw [toList_get s j hjt]; exact hin)
      have Hd := Lib.hid (hd.symm.trans HJ.out)
      have Hin := Lib.hid hin
      clear hd hin
      go_wp2_with fail
      refine (refWord9_any s[j] _).mono ?_
      rintro e w' ⟨rfl, rfl⟩
      rw [Hin.out]
      go_wp2_with fail
      go_ret2
      exact ⟨ret_pair (by rw [← Hd.out]), hx⟩
    ·have hj1 : ¬ (j : Int) < (s.size : Int) := by omega
     have hd := fwdN_over wordB s.data.toList j (by rw [toList_length]; omega)
     have Hd := Lib.hid (hd.symm.trans HJ.out)
     clear hd
     go_wp2_with fail
     go_ret2
     exact ⟨ret_pair (by rw [← Hd.out]), hx⟩
theorem refStep_l (s : ByteArray) (a : Nat) (w : World) (hs : s.size ≤ 65536) (ha : a ≤ s.size) :
  Calls Tryz.prog 93 #[.string s, .int .i64 a, .int .i64 9] w (RStep (wordLN s.data.toList a) w) := by
 obtain ⟨U, hU⟩ : ∃ U, wordLN s.data.toList a = U := ⟨_, rfl⟩
 rw [hU]
 obtain ⟨V, hV⟩ : ∃ V, backN noWordB s.data.toList a = V := ⟨_, rfl⟩
 rw [wordLN, hV] at hU
 have HU := Lib.hid hU
 have HV := Lib.hid hV
 clear hU hV
 have hp := refPlace_col s a w hs ha
 have i1 : ¬ (a : Int) < 0 := by omega
 have i2 : ¬ (s.size : Int) < (a : Int) := by omega
 go_enter Tryz.func93, Tryz.ntmps93
 go_wp2_with fail
 refine hp.mono ?_
 rintro e w1 ⟨rfl, hx⟩
 clear hp
 go_wp2_with fail
 go_loop [1] (fun i => ∃ k : Nat, k ≤ s.size ∧ i = .int .i64 k ∧ Hid (backN noWordB s.data.toList k = V)) (fun i => (intOf i).toNat)
 case atStart => exact ⟨a, ha, rfl, HV⟩
 case round =>
  obtain ⟨j, hj, rfl, HK⟩ := hrel
  by_cases hj0 : 0 < j
  ·obtain ⟨k, rfl⟩ : ∃ k, j = k + 1 := ⟨j - 1, by omega⟩
   have hk1 : (k : Int) < (s.size : Int) := by omega
   have hk2 : (0 : Int) ≤ (k : Int) := by omega
   have hkt : k < s.size := by omega
   have hd := backN_pos noWordB s.data.toList k (by rw [toList_length]; exact hkt)
   rw [toList_get s k hkt] at hd
   cases hin : wordB s[k] with
   | false =>
    rw [if_pos (by simp [noWordB, hin])] at hd
    have Hd := Lib.hid (hd.symm.trans HK.out)
    have Hin := Lib.hid hin
    clear hd hin
    go_wp2_with fail
    refine (refWord9_any s[k] _).mono ?_
    rintro e w' ⟨rfl, rfl⟩
    rw [Hin.out]
    go_wp2_with fail
    go_round
    case rel => exact ⟨k, by omega, by go_num, Hd⟩
    case measure => simp [intOf] <;> omega
   | true =>
    rw [if_neg (by simp [noWordB, hin])] at hd
    have hkV := hd.symm.trans HK.out
    have HkU := Lib.hid (show backN wordB s.data.toList (k + 1) = U from by rw [hkV]; exact HU.out)
    have Hin := Lib.hid hin
    clear hd hin hkV
    go_wp2_with fail
    refine (refWord9_any s[k] _).mono ?_
    rintro e w' ⟨rfl, rfl⟩
    rw [Hin.out]
    go_wp2_with fail
    go_loop [1] (fun i => ∃ k : Nat, k ≤ s.size ∧ i = .int .i64 k ∧ Hid (backN wordB s.data.toList k = U)) (fun i => (intOf i).toNat)
    case atStart => exact ⟨k + 1, by omega, by go_num, HkU⟩
    case round =>
     clear HkU HK HV HU
     obtain ⟨i, hi, rfl, HJ⟩ := hrel
     by_cases hi0 : 0 < i
     ·obtain ⟨m, rfl⟩ : ∃ m, i = m + 1 := ⟨i - 1, by omega⟩
      have hj1 : (m : Int) < (s.size : Int) := by omega
      have hj2 : (0 : Int) ≤ (m : Int) := by omega
      have hmt : m < s.size := by omega
      have hd := backN_pos wordB s.data.toList m (by rw [toList_length]; exact hmt)
      rw [toList_get s m hmt] at hd
      cases hin : wordB s[m] with
      | true =>
       rw [if_pos hin] at hd
       have Hd := Lib.hid (hd.symm.trans HJ.out)
       have Hin := Lib.hid hin
       clear hd hin
       go_wp2_with fail
       refine (refWord9_any s[m] _).mono ?_
       rintro e w' ⟨rfl, rfl⟩
       rw [Hin.out]
       go_wp2_with fail
       go_round
       case rel => exact ⟨m, by omega, by go_num, Hd⟩
       case measure => simp [intOf] <;> omega
      | false =>
       rw [if_neg (by rw [hin]; decide)] at hd
       have Hd := Lib.hid (hd.symm.trans HJ.out)
       have Hin := Lib.hid hin
       clear hd hin
       go_wp2_with fail
       refine (refWord9_any s[m] _).mono ?_
       rintro e w' ⟨rfl, rfl⟩
       rw [Hin.out]
       go_wp2_with fail
       go_ret2
       exact ⟨ret_pair (by rw [← Hd.out]; go_num), hx⟩
     ·obtain rfl : i = 0 := by omega
      have Hd := Lib.hid (show (0 : Nat) = U from HJ.out)
      go_wp2_with fail
      go_ret2
      exact ⟨ret_pair (by rw [← Hd.out]; rfl), hx⟩
  ·obtain rfl : j = 0 := by omega
   have hkV : (0 : Nat) = V := HK.out
   have HkU := Lib.hid (show backN wordB s.data.toList 0 = U from by rw [hkV]; exact HU.out)
   clear hkV
   go_wp2_with fail
   go_loop [1] (fun i => ∃ k : Nat, k ≤ s.size ∧ i = .int .i64 k ∧ Hid (backN wordB s.data.toList k = U)) (fun i => (intOf i).toNat)
   case atStart => exact ⟨0, by omega, rfl, HkU⟩
   case round =>
    clear HkU HK HV HU
    obtain ⟨i, hi, rfl, HJ⟩ := hrel
    by_cases hi0 : 0 < i
    ·obtain ⟨m, rfl⟩ : ∃ m, i = m + 1 := ⟨i - 1, by omega⟩
     have hj1 : (m : Int) < (s.size : Int) := by omega
     have hj2 : (0 : Int) ≤ (m : Int) := by omega
     have hmt : m < s.size := by omega
     have hd := backN_pos wordB s.data.toList m (by rw [toList_length]; exact hmt)
     rw [toList_get s m hmt] at hd
     cases hin : wordB s[m] with
     | true =>
      rw [if_pos hin] at hd
      have Hd := Lib.hid (hd.symm.trans HJ.out)
      have Hin := Lib.hid hin
      clear hd hin
      go_wp2_with fail
      refine (refWord9_any s[m] _).mono ?_
      rintro e w' ⟨rfl, rfl⟩
      rw [Hin.out]
      go_wp2_with fail
      go_round
      case rel => exact ⟨m, by omega, by go_num, Hd⟩
      case measure => simp [intOf] <;> omega
     | false =>
      rw [if_neg (by rw [hin]; decide)] at hd
      have Hd := Lib.hid (hd.symm.trans HJ.out)
      have Hin := Lib.hid hin
      clear hd hin
      go_wp2_with fail
      refine (refWord9_any s[m] _).mono ?_
      rintro e w' ⟨rfl, rfl⟩
      rw [Hin.out]
      go_wp2_with fail
      go_ret2
      exact ⟨ret_pair (by rw [← Hd.out]; go_num), hx⟩
    ·obtain rfl : i = 0 := by omega
     have Hd := Lib.hid (show (0 : Nat) = U from HJ.out)
     go_wp2_with fail
     go_ret2
     exact ⟨ret_pair (by rw [← Hd.out]; rfl), hx⟩
theorem refStep_up (s : ByteArray) (a : Nat) (w : World) (hs : s.size ≤ 65536) (ha : a ≤ s.size) :
  Calls Tryz.prog 93 #[.string s, .int .i64 a, .int .i64 5] w (RStep (upN s.data.toList a) w) := by
 have hb := lnN_le s.data.toList a
 have hbb := brk_le s.data.toList
 rw [toList_length] at hbb
 have hcl : colN s.data.toList a ≤ 200000 := by
  have := byW_le 1 (s.data.toList.take a)
  have := List.length_take_le a s.data.toList
  unfold colN; omega
 unfold upN
 have hp := refPlace_col s a w hs ha
 have i1 : ¬ (a : Int) < 0 := by omega
 have i2 : ¬ (s.size : Int) < (a : Int) := by omega
 generalize colN s.data.toList a = col at *
 cases hln : lnN s.data.toList a with
 | zero =>
  rw [if_pos rfl]
  rw [hln] at hp
  go_enter Tryz.func93, Tryz.ntmps93
  go_wp2_with fail
  refine hp.mono ?_
  rintro e w1 ⟨rfl, hx⟩
  go_wp2_with fail
  go_ret2
  exact ⟨rfl, hx⟩
 | succ j =>
  rw [if_neg (by omega), Nat.add_sub_cancel]
  rw [hln] at hb hp
  have ho := fun v => refOffset_yes s j col 1 v hs (by decide) (has_of ⟨by omega, by omega⟩) (IsInt.small (by omega) (by omega))
  unfold OffsetPost at ho
  generalize offN s.data.toList j col 1 = U at *
  have Ho := Lib.hid ho
  have h1 : (0 : Int) < (j : Int) + 1 := by omega
  clear ho hln
  go_enter Tryz.func93, Tryz.ntmps93
  go_wp2_with fail
  refine hp.mono ?_
  rintro e w1 ⟨rfl, hx⟩
  clear hp
  go_wp2_with fail
  refine (Ho.out _).mono ?_
  rintro e w2 ⟨rfl, hx2⟩
  go_wp2_with fail
  go_ret2
  exact ⟨rfl, hx.ext_trans hx2⟩
theorem refStep_below (s : ByteArray) (a : Nat) (w : World) (hs : s.size ≤ 65536) (ha : a ≤ s.size) :
  Calls Tryz.prog 93 #[.string s, .int .i64 a, .int .i64 6] w (RStep (belowN s.data.toList a) w) := by
 have hb := lnN_le s.data.toList a
 have hbb := brk_le s.data.toList
 rw [toList_length] at hbb
 have hcl : colN s.data.toList a ≤ 200000 := by
  have := byW_le 1 (s.data.toList.take a)
  have := List.length_take_le a s.data.toList
  unfold colN; omega
 have hm := fun v => refMany_any s v (by omega)
 have hll : s.data.toList.length = s.size := rfl
 unfold belowN
 obtain ⟨M, m1, m2⟩ : ∃ M, M ≤ brk s.data.toList + 1 ∧ brk s.data.toList + 1 ≤ M := ⟨_, Nat.le_refl _, Nat.le_refl _⟩
 rw [show brk s.data.toList + 1 = M from by omega] at hm
 have Hm := Lib.hid hm
 clear hm
 by_cases hj : lnN s.data.toList a + 1 ≤ brk s.data.toList
 ·rw [if_pos hj]
  have ho := fun v => refOffset_yes s (lnN s.data.toList a + 1) (colN s.data.toList a) 1 v hs (by decide) (has_of ⟨by omega, by omega⟩) (IsInt.small (by omega) (by omega))
  unfold OffsetPost at ho
  generalize offN s.data.toList (lnN s.data.toList a + 1) (colN s.data.toList a) 1 = U at *
  rw [show ((lnN s.data.toList a + 1 : Nat) : Int) = (lnN s.data.toList a : Int) + 1 from by omega] at ho
  have Ho := Lib.hid ho
  have h1 : (lnN s.data.toList a : Int) + 1 < (M : Int) := by omega
  clear ho
  have hp := refPlace_col s a w hs ha
  have i1 : ¬ (a : Int) < 0 := by omega
  have i2 : ¬ (s.size : Int) < (a : Int) := by omega
  go_enter Tryz.func93, Tryz.ntmps93
  go_wp2_with fail
  refine hp.mono ?_
  rintro e w1 ⟨rfl, hx⟩
  clear hp
  go_wp2_with fail
  refine (Hm.out _).mono ?_
  rintro e w2 ⟨rfl, hx2⟩
  go_wp2_with fail
  refine (Ho.out _).mono ?_
  rintro e w3 ⟨rfl, hx3⟩
  go_wp2_with fail
  go_ret2
  exact ⟨rfl, (hx.ext_trans hx2).ext_trans hx3⟩
 ·rw [if_neg hj, hll]
  have h1 : ¬ (lnN s.data.toList a : Int) + 1 < (M : Int) := by omega
  have hp := refPlace_col s a w hs ha
  have i1 : ¬ (a : Int) < 0 := by omega
  have i2 : ¬ (s.size : Int) < (a : Int) := by omega
  go_enter Tryz.func93, Tryz.ntmps93
  go_wp2_with fail
  refine hp.mono ?_
  rintro e w1 ⟨rfl, hx⟩
  clear hp
  go_wp2_with fail
  refine (Hm.out _).mono ?_
  rintro e w2 ⟨rfl, hx2⟩
  go_wp2_with fail
  go_ret2
  exact ⟨rfl, hx.ext_trans hx2⟩
theorem refStep_yes (s : ByteArray) (a : Nat) (way : Int) (w : World) (hs : s.size ≤ 65536) (ha : a ≤ s.size) (hw1 : 1 ≤ way) (hw2 : way ≤ 10) :
  Calls Tryz.prog 93 #[.string s, .int .i64 a, .int .i64 way] w (RStep (stepN s.data.toList a way) w) := by
 have hh : hasB s.data.toList (lnN s.data.toList a : Nat) = true := has_of ⟨by omega, by have := lnN_le s.data.toList a; omega⟩
 have hw : way = 1 ∨ way = 2 ∨ way = 3 ∨ way = 4 ∨ way = 5 ∨ way = 6 ∨ way = 7 ∨ way = 8 ∨ way = 9 ∨ way = 10 := by omega
 clear hw1 hw2
 rcases hw with rfl | rfl | rfl | rfl | rfl | rfl | rfl | rfl | rfl | rfl
 ·show Calls _ _ _ _ (RStep (leftN s.data.toList a) w)
  have hp := refPlace_col s a w hs ha
  have i1 : ¬ (a : Int) < 0 := by omega
  have i2 : ¬ (s.size : Int) < (a : Int) := by omega
  go_enter Tryz.func93, Tryz.ntmps93
  go_wp2_with fail
  refine hp.mono ?_
  rintro e w1 ⟨rfl, hx⟩
  clear hp
  go_wp2_with fail
  refine (ref9left_any s a _ ha (by omega)).mono ?_
  rintro e w2 ⟨rfl, rfl⟩
  go_wp2_with fail
  go_ret2
  exact ⟨rfl, hx⟩
 ·show Calls _ _ _ _ (RStep (rightN s.data.toList a) w)
  have hp := refPlace_col s a w hs ha
  have i1 : ¬ (a : Int) < 0 := by omega
  have i2 : ¬ (s.size : Int) < (a : Int) := by omega
  go_enter Tryz.func93, Tryz.ntmps93
  go_wp2_with fail
  refine hp.mono ?_
  rintro e w1 ⟨rfl, hx⟩
  clear hp
  go_wp2_with fail
  refine (ref9right_any s a _ ha (by omega)).mono ?_
  rintro e w2 ⟨rfl, rfl⟩
  go_wp2_with fail
  go_ret2
  exact ⟨rfl, hx⟩
 ·show Calls _ _ _ _ (RStep (lineN s.data.toList (lnN s.data.toList a)) w)
  have Hst := Lib.hid (fun v => refStart_yes s (lnN s.data.toList a) v (by omega) hh)
  clear hh
  have hp := refPlace_col s a w hs ha
  have i1 : ¬ (a : Int) < 0 := by omega
  have i2 : ¬ (s.size : Int) < (a : Int) := by omega
  go_enter Tryz.func93, Tryz.ntmps93
  go_wp2_with fail
  refine hp.mono ?_
  rintro e w1 ⟨rfl, hx⟩
  clear hp
  go_wp2_with fail
  refine (Hst.out _).mono ?_
  rintro e w2 ⟨rfl, hx2⟩
  go_wp2_with fail
  go_ret2
  exact ⟨rfl, hx.ext_trans hx2⟩
 ·show Calls _ _ _ _ (RStep (lineE s.data.toList (lnN s.data.toList a)) w)
  have Hst := Lib.hid (fun v => refEnd_yes s (lnN s.data.toList a) v (by omega) hh)
  clear hh
  have hp := refPlace_col s a w hs ha
  have i1 : ¬ (a : Int) < 0 := by omega
  have i2 : ¬ (s.size : Int) < (a : Int) := by omega
  go_enter Tryz.func93, Tryz.ntmps93
  go_wp2_with fail
  refine hp.mono ?_
  rintro e w1 ⟨rfl, hx⟩
  clear hp
  go_wp2_with fail
  refine (Hst.out _).mono ?_
  rintro e w2 ⟨rfl, hx2⟩
  go_wp2_with fail
  go_ret2
  exact ⟨rfl, hx.ext_trans hx2⟩
 ·exact refStep_up s a w hs ha
 ·exact refStep_below s a w hs ha
 ·show Calls _ _ _ _ (RStep 0 w)
  have hp := refPlace_col s a w hs ha
  have i1 : ¬ (a : Int) < 0 := by omega
  have i2 : ¬ (s.size : Int) < (a : Int) := by omega
  go_enter Tryz.func93, Tryz.ntmps93
  go_wp2_with fail
  refine hp.mono ?_
  rintro e w1 ⟨rfl, hx⟩
  clear hp
  go_wp2_with fail
  go_ret2
  exact ⟨rfl, hx⟩
 ·show Calls _ _ _ _ (RStep s.data.toList.length w)
  rw [toList_length]
  have hp := refPlace_col s a w hs ha
  have i1 : ¬ (a : Int) < 0 := by omega
  have i2 : ¬ (s.size : Int) < (a : Int) := by omega
  go_enter Tryz.func93, Tryz.ntmps93
  go_wp2_with fail
  refine hp.mono ?_
  rintro e w1 ⟨rfl, hx⟩
  clear hp
  go_wp2_with fail
  go_ret2
  exact ⟨rfl, hx⟩
 ·exact refStep_l s a w hs ha
 ·exact refStep_r s a w hs ha
end Go.Proofs.YthlmgoagnfkhdaaGreat

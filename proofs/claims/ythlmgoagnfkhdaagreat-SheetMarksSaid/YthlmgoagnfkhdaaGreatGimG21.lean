/- What package motion's inner functions compute of a text's bytes: inside, wordByte, left, right, wordLeft, wordRight. Conditions: texts of at most 65536 bytes. -/
import Derived.Test.YthlmgoagnfkhdaaGreatGimG20
import Derived.Test.YthlmgoagnfkhdaaGreatGimG07
import Derived.Test.YthlmgoagnfkhdaaGreatGimG19
import Derived.Lib.SliceRun
set_option maxHeartbeats 6400000
set_option maxRecDepth 1000000
set_option linter.unusedVariables false
set_option linter.unusedSimpArgs false
namespace Go.Proofs.YthlmgoagnfkhdaaGreat
open Go.RowKit Go.Gim
theorem minside_any (c : UInt8) (w : World) : Calls Tryz.prog 147 #[.int .u8 c.toNat] w fun e w' => e = .returned (.bool (inB c)) ∧ w' = w := by
 by_cases h1 : (128 : Int) ≤ (c.toNat : Int)
 ·by_cases h2 : (c.toNat : Int) ≤ 191
  ·have h : inB c = true := by simp [inB]; omega
   rw [h]; clear h
   go_enter Tryz.func147, Tryz.ntmps147
   go_wp2
   go_ret
   exact ⟨rfl, rfl⟩
  ·have h : inB c = false := by simp [inB]; omega
   rw [h]; clear h
   go_enter Tryz.func147, Tryz.ntmps147
   go_wp2
   go_ret
   exact ⟨rfl, rfl⟩
 ·have h : inB c = false := by simp [inB]; omega
  rw [h]; clear h
  go_enter Tryz.func147, Tryz.ntmps147
  go_wp2
  go_ret
  exact ⟨rfl, rfl⟩
theorem right_any (s : ByteArray) (a : Nat) (w : World) (ha : a ≤ s.size) (hs : s.size ≤ 65536) :
  Calls Tryz.prog 114 #[.string s, .int .i64 a] w fun e w' => e = .returned (.int .i64 (rightN s.data.toList a : Nat)) ∧ w' = w := by
 obtain ⟨U, hU⟩ : ∃ U, U = rightN s.data.toList a := ⟨_, rfl⟩
 rw [← hU]
 have hst : ∃ k : Nat, k ≤ s.size ∧ (a < s.size → k = a + 1) ∧ (¬ a < s.size → k = a) ∧ fwdN inB s.data.toList k = U := by
  unfold rightN at hU
  rw [toList_length] at hU
  by_cases h : a < s.size
  ·rw [if_pos h] at hU
   exact ⟨a + 1, by omega, fun _ => rfl, fun h2 => absurd h h2, hU.symm⟩
  ·rw [if_neg h] at hU
   exact ⟨a, by omega, fun h2 => absurd h2 h, fun _ => rfl, by rw [fwdN_over _ _ _ (by rw [toList_length]; omega)]; exact hU.symm⟩
 obtain ⟨k0, hk0, e1, e2, HU⟩ := hst
 have HU := Lib.hid HU
 clear hU
 have key : Calls Tryz.prog 114 #[.string s, .int .i64 a] w fun e w' => e = .returned (.int .i64 U) ∧ w' = w := by
  by_cases hlt : a < s.size
  ·have hlt' : (a : Int) < (s.size : Int) := by omega
   obtain rfl := e1 hlt
   clear e1 e2
   go_enter Tryz.func114, Tryz.ntmps114
   go_wp2_with fail
   go_loop [1] (fun i => ∃ k : Nat, k ≤ s.size ∧ i = .int .i64 k ∧ Hid (fwdN inB s.data.toList k = U)) (fun i => s.size - (intOf i).toNat)
   case atStart => exact ⟨a + 1, hk0, by go_num, HU⟩
   case round =>
    obtain ⟨k, hk, rfl, HK⟩ := hrel
    by_cases hkt : k < s.size
    ·have hk1 : (k : Int) < (s.size : Int) := by omega
     have hk2 : (0 : Int) ≤ (k : Int) := by omega
     by_cases hin : inB s[k] = true
     ·have hd := fwdN_in inB s.data.toList k (by rw [toList_length]; exact hkt) (by rw [toList_get s k hkt]; exact hin)
      have Hd := Lib.hid hd
      have Hin := Lib.hid hin
      clear hd hin
      go_wp2_with fail
      refine (minside_any s[k] _).mono ?_
      rintro e w' ⟨rfl, rfl⟩
      rw [Hin.out]
      go_wp2_with fail
      go_round
      case rel => exact ⟨k + 1, by omega, by go_num, Lib.hid (Hd.out.symm.trans HK.out)⟩
      case measure => simp [intOf]; omega
     ·have hin2 : inB s[k] = false := by simpa using hin
      have hd := fwdN_stop inB s.data.toList k (by rw [toList_length]; exact hkt) (by rw [toList_get s k hkt]; exact hin2)
      have Hd := Lib.hid (hd.symm.trans HK.out)
      have Hin := Lib.hid hin2
      clear hd hin hin2
      go_wp2_with fail
      refine (minside_any s[k] _).mono ?_
      rintro e w' ⟨rfl, rfl⟩
      rw [Hin.out]
      go_wp2_with fail
      go_ret
      exact ⟨ret_int (by rw [← Hd.out]), rfl⟩
    ·have hk1 : ¬ (k : Int) < (s.size : Int) := by omega
     have hd := fwdN_over inB s.data.toList k (by rw [toList_length]; omega)
     have Hd := Lib.hid (hd.symm.trans HK.out)
     clear hd
     go_wp2_with fail
     go_ret
     exact ⟨ret_int (by rw [← Hd.out]), rfl⟩
  ·have hlt' : ¬ (a : Int) < (s.size : Int) := by omega
   obtain rfl := e2 hlt
   clear e1 e2
   go_enter Tryz.func114, Tryz.ntmps114
   go_wp2_with fail
   go_loop [1] (fun i => ∃ k : Nat, k ≤ s.size ∧ i = .int .i64 k ∧ Hid (fwdN inB s.data.toList k = U)) (fun i => s.size - (intOf i).toNat)
   case atStart => exact ⟨_, hk0, rfl, HU⟩
   case round =>
    obtain ⟨k, hk, rfl, HK⟩ := hrel
    by_cases hkt : k < s.size
    ·have hk1 : (k : Int) < (s.size : Int) := by omega
     have hk2 : (0 : Int) ≤ (k : Int) := by omega
     by_cases hin : inB s[k] = true
     ·have hd := fwdN_in inB s.data.toList k (by rw [toList_length]; exact hkt) (by rw [toList_get s k hkt]; exact hin)
      have Hd := Lib.hid hd
      have Hin := Lib.hid hin
      clear hd hin
      go_wp2_with fail
      refine (minside_any s[k] _).mono ?_
      rintro e w' ⟨rfl, rfl⟩
      rw [Hin.out]
      go_wp2_with fail
      go_round
      case rel => exact ⟨k + 1, by omega, by go_num, Lib.hid (Hd.out.symm.trans HK.out)⟩
      case measure => simp [intOf]; omega
     ·have hin2 : inB s[k] = false := by simpa using hin
      have hd := fwdN_stop inB s.data.toList k (by rw [toList_length]; exact hkt) (by rw [toList_get s k hkt]; exact hin2)
      have Hd := Lib.hid (hd.symm.trans HK.out)
      have Hin := Lib.hid hin2
      clear hd hin hin2
      go_wp2_with fail
      refine (minside_any s[k] _).mono ?_
      rintro e w' ⟨rfl, rfl⟩
      rw [Hin.out]
      go_wp2_with fail
      go_ret
      exact ⟨ret_int (by rw [← Hd.out]), rfl⟩
    ·have hk1 : ¬ (k : Int) < (s.size : Int) := by omega
     have hd := fwdN_over inB s.data.toList k (by rw [toList_length]; omega)
     have Hd := Lib.hid (hd.symm.trans HK.out)
     clear hd
     go_wp2_with fail
     go_ret
     exact ⟨ret_int (by rw [← Hd.out]), rfl⟩
 exact key
theorem left_any (s : ByteArray) (a : Nat) (w : World) (ha : a ≤ s.size) (hs : s.size ≤ 65536) :
  Calls Tryz.prog 113 #[.string s, .int .i64 a] w fun e w' => e = .returned (.int .i64 (leftN s.data.toList a : Nat)) ∧ w' = w := by
 obtain ⟨U, hU⟩ : ∃ U, U = leftN s.data.toList a := ⟨_, rfl⟩
 rw [← hU]
 by_cases h0 : a = 0
 ·subst h0
  have hU0 : U = 0 := hU
  subst hU0
  clear hU
  go_enter Tryz.func113, Tryz.ntmps113
  go_wp2_with fail
  refine wp_loop_rounds 1 ?_
  rw [rounds_succ]
  go_wp2_with fail
  go_ret
  exact ⟨rfl, rfl⟩
 ·have h0' : 0 < a := by omega
  have h0'' : (0 : Int) < (a : Int) := by omega
  have hU2 : downN inB s.data.toList (a - 1) = U := by rw [hU, leftN, if_neg h0]
  have HU := Lib.hid hU2
  clear hU hU2 h0
  go_enter Tryz.func113, Tryz.ntmps113
  go_wp2_with fail
  go_loop [1] (fun i => ∃ j : Nat, j < s.size ∧ i = .int .i64 j ∧ Hid (downN inB s.data.toList j = U)) (fun i => (intOf i).toNat)
  case atStart => exact ⟨a - 1, by omega, by rw [show ((a - 1 : Nat) : Int) = (a : Int) - 1 from by omega], HU⟩
  case round =>
   obtain ⟨j, hj, rfl, HJ⟩ := hrel
   by_cases hj0 : 0 < j
   ·have hj0' : (0 : Int) < (j : Int) := by omega
    have hj1 : (0 : Int) ≤ (j : Int) := by omega
    have hj2 : (j : Int) < (s.size : Int) := by omega
    have hd := downN_pos inB s.data.toList j hj0 (by rw [toList_length]; exact hj)
    rw [toList_get s j hj] at hd
    by_cases hin : inB s[j] = true
    ·rw [if_pos hin] at hd
     have Hd := Lib.hid hd
     have Hin := Lib.hid hin
     clear hd hin
     go_wp2_with fail
     refine (minside_any s[j] _).mono ?_
     rintro e w' ⟨rfl, rfl⟩
     rw [Hin.out]
     go_wp2_with fail
     go_round
     case rel => exact ⟨j - 1, by omega, by rw [show ((j - 1 : Nat) : Int) = (j : Int) - 1 from by omega], Lib.hid (Hd.out.symm.trans HJ.out)⟩
     case measure => simp [intOf]; omega
    ·rw [if_neg hin] at hd
     have Hd := Lib.hid (hd.symm.trans HJ.out)
     have Hin := Lib.hid (show inB s[j] = false from by simpa using hin)
     clear hd hin
     go_wp2_with fail
     refine (minside_any s[j] _).mono ?_
     rintro e w' ⟨rfl, rfl⟩
     rw [Hin.out]
     go_wp2_with fail
     go_ret
     exact ⟨ret_int (by rw [← Hd.out]), rfl⟩
   ·have hj0' : ¬ (0 : Int) < (j : Int) := by omega
    obtain rfl : j = 0 := by omega
    have HJ2 := Lib.hid (show (0 : Nat) = U from HJ.out)
    go_wp2_with fail
    go_ret
    exact ⟨ret_int (by rw [← HJ2.out]; rfl), rfl⟩
theorem wordByte_any (c : UInt8) (w : World) : Calls Tryz.prog 153 #[.int .u8 c.toNat] w fun e w' => e = .returned (.bool (wordB c)) ∧ w' = w := by
 have hW : ∀ b, wordB c = b → Calls Tryz.prog 153 #[.int .u8 c.toNat] w (fun e w' => e = .returned (.bool b) ∧ w' = w) → Calls Tryz.prog 153 #[.int .u8 c.toNat] w fun e w' => e = .returned (.bool (wordB c)) ∧ w' = w := fun b hb h => by rw [hb]; exact h
 have e97 : (decide ((97 : Int) ≤ (c.toNat : Int)) = true ∧ decide ((c.toNat : Int) ≤ 122) = true) ∨ (decide ((97 : Int) ≤ (c.toNat : Int)) = true ∧ decide ((c.toNat : Int) ≤ 122) = false) ∨ decide ((97 : Int) ≤ (c.toNat : Int)) = false := by
  simp only [decide_eq_true_eq, decide_eq_false_iff_not]; omega
 have hall : wordB c = (decide ((97 : Int) ≤ (c.toNat : Int)) && decide ((c.toNat : Int) ≤ 122) || decide ((65 : Int) ≤ (c.toNat : Int)) && decide ((c.toNat : Int) ≤ 90) || decide ((48 : Int) ≤ (c.toNat : Int)) && decide ((c.toNat : Int) ≤ 57) || ((c.toNat : Int) == 95) || decide ((128 : Int) ≤ (c.toNat : Int))) := by
  unfold wordB
  rw [Bool.eq_iff_iff]
  simp only [Bool.or_eq_true, Bool.and_eq_true, decide_eq_true_eq, beq_iff_eq]
  omega
 rw [hall]
 clear hall hW e97
 go_enter Tryz.func153, Tryz.ntmps153
 by_cases h1 : (97 : Int) ≤ (c.toNat : Int)
 ·by_cases h2 : (c.toNat : Int) ≤ 122
  ·go_wp2_with fail
   go_ret
   exact ⟨ret_bool (by simp [h1, h2]), rfl⟩
  ·by_cases h3 : (65 : Int) ≤ (c.toNat : Int)
   ·by_cases h4 : (c.toNat : Int) ≤ 90
    ·go_wp2_with fail
     go_ret
     exact ⟨ret_bool (by simp <;> omega), rfl⟩
    ·by_cases h5 : (48 : Int) ≤ (c.toNat : Int)
     ·by_cases h6 : (c.toNat : Int) ≤ 57
      ·go_wp2_with fail
       go_ret
       exact ⟨ret_bool (by simp <;> omega), rfl⟩
      ·by_cases h7 : ((c.toNat : Int) == 95) = true
       ·go_wp2_with fail
        go_ret
        exact ⟨ret_bool (by simp at h7 ⊢ <;> omega), rfl⟩
       ·have h7' : ((c.toNat : Int) == 95) = false := by simpa using h7
        by_cases h8 : (128 : Int) ≤ (c.toNat : Int)
        ·go_wp2_with fail
         go_ret
         exact ⟨ret_bool (by simp <;> omega), rfl⟩
        ·go_wp2_with fail
         go_ret
         exact ⟨ret_bool (by simp at h7' ⊢ <;> omega), rfl⟩
     ·by_cases h7 : ((c.toNat : Int) == 95) = true
      ·go_wp2_with fail
       go_ret
       exact ⟨ret_bool (by simp at h7 ⊢ <;> omega), rfl⟩
      ·have h7' : ((c.toNat : Int) == 95) = false := by simpa using h7
       by_cases h8 : (128 : Int) ≤ (c.toNat : Int)
       ·go_wp2_with fail
        go_ret
        exact ⟨ret_bool (by simp <;> omega), rfl⟩
       ·go_wp2_with fail
        go_ret
        exact ⟨ret_bool (by simp at h7' ⊢ <;> omega), rfl⟩
   ·by_cases h5 : (48 : Int) ≤ (c.toNat : Int)
    ·by_cases h6 : (c.toNat : Int) ≤ 57
     ·go_wp2_with fail
      go_ret
      exact ⟨ret_bool (by simp <;> omega), rfl⟩
     ·by_cases h7 : ((c.toNat : Int) == 95) = true
      ·go_wp2_with fail
       go_ret
       exact ⟨ret_bool (by simp at h7 ⊢ <;> omega), rfl⟩
      ·have h7' : ((c.toNat : Int) == 95) = false := by simpa using h7
       by_cases h8 : (128 : Int) ≤ (c.toNat : Int)
       ·go_wp2_with fail
        go_ret
        exact ⟨ret_bool (by simp <;> omega), rfl⟩
       ·go_wp2_with fail
        go_ret
        exact ⟨ret_bool (by simp at h7' ⊢ <;> omega), rfl⟩
    ·by_cases h7 : ((c.toNat : Int) == 95) = true
     ·go_wp2_with fail
      go_ret
      exact ⟨ret_bool (by simp at h7 ⊢ <;> omega), rfl⟩
     ·have h7' : ((c.toNat : Int) == 95) = false := by simpa using h7
      by_cases h8 : (128 : Int) ≤ (c.toNat : Int)
      ·go_wp2_with fail
       go_ret
       exact ⟨ret_bool (by simp <;> omega), rfl⟩
      ·go_wp2_with fail
       go_ret
       exact ⟨ret_bool (by simp at h7' ⊢ <;> omega), rfl⟩
 ·by_cases h3 : (65 : Int) ≤ (c.toNat : Int)
  ·by_cases h4 : (c.toNat : Int) ≤ 90
   ·go_wp2_with fail
    go_ret
    exact ⟨ret_bool (by simp <;> omega), rfl⟩
   ·by_cases h5 : (48 : Int) ≤ (c.toNat : Int)
    ·by_cases h6 : (c.toNat : Int) ≤ 57
     ·go_wp2_with fail
      go_ret
      exact ⟨ret_bool (by simp <;> omega), rfl⟩
     ·by_cases h7 : ((c.toNat : Int) == 95) = true
      ·go_wp2_with fail
       go_ret
       exact ⟨ret_bool (by simp at h7 ⊢ <;> omega), rfl⟩
      ·have h7' : ((c.toNat : Int) == 95) = false := by simpa using h7
       by_cases h8 : (128 : Int) ≤ (c.toNat : Int)
       ·go_wp2_with fail
        go_ret
        exact ⟨ret_bool (by simp <;> omega), rfl⟩
       ·go_wp2_with fail
        go_ret
        exact ⟨ret_bool (by simp at h7' ⊢ <;> omega), rfl⟩
    ·by_cases h7 : ((c.toNat : Int) == 95) = true
     ·go_wp2_with fail
      go_ret
      exact ⟨ret_bool (by simp at h7 ⊢ <;> omega), rfl⟩
     ·have h7' : ((c.toNat : Int) == 95) = false := by simpa using h7
      by_cases h8 : (128 : Int) ≤ (c.toNat : Int)
      ·go_wp2_with fail
       go_ret
       exact ⟨ret_bool (by simp <;> omega), rfl⟩
      ·go_wp2_with fail
       go_ret
       exact ⟨ret_bool (by simp at h7' ⊢ <;> omega), rfl⟩
  ·by_cases h5 : (48 : Int) ≤ (c.toNat : Int)
   ·by_cases h6 : (c.toNat : Int) ≤ 57
    ·go_wp2_with fail
     go_ret
     exact ⟨ret_bool (by simp <;> omega), rfl⟩
    ·by_cases h7 : ((c.toNat : Int) == 95) = true
     ·go_wp2_with fail
      go_ret
      exact ⟨ret_bool (by simp at h7 ⊢ <;> omega), rfl⟩
     ·have h7' : ((c.toNat : Int) == 95) = false := by simpa using h7
      by_cases h8 : (128 : Int) ≤ (c.toNat : Int)
      ·go_wp2_with fail
       go_ret
       exact ⟨ret_bool (by simp <;> omega), rfl⟩
      ·go_wp2_with fail
       go_ret
       exact ⟨ret_bool (by simp at h7' ⊢ <;> omega), rfl⟩
   ·by_cases h7 : ((c.toNat : Int) == 95) = true
    ·go_wp2_with fail
     go_ret
     exact ⟨ret_bool (by simp at h7 ⊢ <;> omega), rfl⟩
    ·have h7' : ((c.toNat : Int) == 95) = false := by simpa using h7
     by_cases h8 : (128 : Int) ≤ (c.toNat : Int)
     ·go_wp2_with fail
      go_ret
      exact ⟨ret_bool (by simp <;> omega), rfl⟩
     ·go_wp2_with fail
      go_ret
      exact ⟨ret_bool (by simp at h7' ⊢ <;> omega), rfl⟩
theorem wordRight_any (s : ByteArray) (a : Nat) (w : World) (ha : a ≤ s.size) (hs : s.size ≤ 65536) :
  Calls Tryz.prog 119 #[.string s, .int .i64 a] w fun e w' => e = .returned (.int .i64 (wordRN s.data.toList a : Nat)) ∧ w' = w := by
 obtain ⟨U, hU⟩ : ∃ U, wordRN s.data.toList a = U := ⟨_, rfl⟩
 rw [hU]
 obtain ⟨V, hV⟩ : ∃ V, fwdN noWordB s.data.toList a = V := ⟨_, rfl⟩
 rw [wordRN, hV] at hU
 have HU := Lib.hid hU
 have HV := Lib.hid hV
 clear hU hV
 go_enter Tryz.func119, Tryz.ntmps119
 go_wp2_with fail
 go_loop [1] (fun i => ∃ k : Nat, k ≤ s.size ∧ i = .int .i64 k ∧ Hid (fwdN noWordB s.data.toList k = V)) (fun i => s.size - (intOf i).toNat)
 case atStart => exact ⟨a, ha, rfl, HV⟩
 case round =>
  obtain ⟨k, hk, rfl, HK⟩ := hrel
  by_cases hkt : k < s.size
  ·have hk1 : (k : Int) < (s.size : Int) := by omega
   have hk2 : (0 : Int) ≤ (k : Int) := by omega
   by_cases hin : wordB s[k] = false
   ·have hd := fwdN_in noWordB s.data.toList k (by rw [toList_length]; exact hkt) (by rw [toList_get s k hkt]; simp [noWordB, hin])
    have Hd := Lib.hid (hd.symm.trans HK.out)
    have Hin := Lib.hid hin
    clear hd hin
    go_wp2_with fail
    refine (wordByte_any s[k] _).mono ?_
    rintro e w' ⟨rfl, rfl⟩
    rw [Hin.out]
    go_wp2_with fail
    go_round
    case rel => exact ⟨k + 1, by omega, by go_num, Hd⟩
    case measure => simp [intOf]; omega
   ·have hin2 : wordB s[k] = true := by simpa using hin
    have hd := fwdN_stop noWordB s.data.toList k (by rw [toList_length]; exact hkt) (by rw [toList_get s k hkt]; simp [noWordB, hin2])
    have hkV := hd.symm.trans HK.out
    have HkU := Lib.hid (show fwdN wordB s.data.toList k = U from by rw [hkV]; exact HU.out)
    have Hin := Lib.hid hin2
    clear hd hin hin2 hkV
    go_wp2_with fail
    refine (wordByte_any s[k] _).mono ?_
    rintro e w' ⟨rfl, rfl⟩
    rw [Hin.out]
    go_wp2_with fail
    go_loop [1] (fun i => ∃ k : Nat, k ≤ s.size ∧ i = .int .i64 k ∧ Hid (fwdN wordB s.data.toList k = U)) (fun i => s.size - (intOf i).toNat)
    case atStart => exact ⟨k, by omega, rfl, HkU⟩
    case round =>
     clear HkU HK HV HU
     obtain ⟨j, hj, rfl, HJ⟩ := hrel
     by_cases hjt : j < s.size
     ·have hj1 : (j : Int) < (s.size : Int) := by omega
      have hj2 : (0 : Int) ≤ (j : Int) := by omega
      by_cases hin : wordB s[j] = true
      ·have hd := fwdN_in wordB s.data.toList j (by rw [toList_length]; exact hjt) (by rw [toList_get s j hjt]; exact hin)
       have Hd := Lib.hid (hd.symm.trans HJ.out)
       have Hin := Lib.hid hin
       clear hd hin
       go_wp2_with fail
       refine (wordByte_any s[j] _).mono ?_
       rintro e w' ⟨rfl, rfl⟩
       rw [Hin.out]
       go_wp2_with fail
       go_round
       case rel => exact ⟨j + 1, by omega, by go_num, Hd⟩
       case measure => simp [intOf]; omega
      ·have hin2 : wordB s[j] = false := by simpa using hin
       have hd := fwdN_stop wordB s.data.toList j (by rw [toList_length]; exact hjt) (by rw [toList_get s j hjt]; exact hin2)
       have Hd := Lib.hid (hd.symm.trans HJ.out)
       have Hin := Lib.hid hin2
       clear hd hin hin2
       go_wp2_with fail
       refine (wordByte_any s[j] _).mono ?_
       rintro e w' ⟨rfl, rfl⟩
       rw [Hin.out]
       go_wp2_with fail
       go_ret
       exact ⟨ret_int (by rw [← Hd.out]), rfl⟩
     ·have hj1 : ¬ (j : Int) < (s.size : Int) := by omega
      have hd := fwdN_over wordB s.data.toList j (by rw [toList_length]; omega)
      have Hd := Lib.hid (hd.symm.trans HJ.out)
      clear hd
      go_wp2_with fail
      go_ret
      exact ⟨ret_int (by rw [← Hd.out]), rfl⟩
  ·have hk1 : ¬ (k : Int) < (s.size : Int) := by omega
   have hd := fwdN_over noWordB s.data.toList k (by rw [toList_length]; omega)
   have hkV := hd.symm.trans HK.out
   have HkU := Lib.hid (show fwdN wordB s.data.toList k = U from by rw [hkV]; exact HU.out)
   clear hd hkV
   go_wp2_with fail
   go_loop [1] (fun i => ∃ k : Nat, k ≤ s.size ∧ i = .int .i64 k ∧ Hid (fwdN wordB s.data.toList k = U)) (fun i => s.size - (intOf i).toNat)
   case atStart => exact ⟨k, by omega, rfl, HkU⟩
   case round =>
    clear HkU HK HV HU
    obtain ⟨j, hj, rfl, HJ⟩ := hrel
    by_cases hjt : j < s.size
    ·have hj1 : (j : Int) < (s.size : Int) := by omega
     have hj2 : (0 : Int) ≤ (j : Int) := by omega
     by_cases hin : wordB s[j] = true
     ·have hd := fwdN_in wordB s.data.toList j (by rw [toList_length]; exact hjt) (by rw [toList_get s j hjt]; exact hin)
      have Hd := Lib.hid (hd.symm.trans HJ.out)
      have Hin := Lib.hid hin
      clear hd hin
      go_wp2_with fail
      refine (wordByte_any s[j] _).mono ?_
      rintro e w' ⟨rfl, rfl⟩
      rw [Hin.out]
      go_wp2_with fail
      go_round
      case rel => exact ⟨j + 1, by omega, by go_num, Hd⟩
      case measure => simp [intOf]; omega
     ·have hin2 : wordB s[j] = false := by simpa using hin
      have hd := fwdN_stop wordB s.data.toList j (by rw [toList_length]; exact hjt) (by rw [toList_get s j hjt]; exact hin2)
      have Hd := Lib.hid (hd.symm.trans HJ.out)
      have Hin := Lib.hid hin2
      clear hd hin hin2
      go_wp2_with fail
      refine (wordByte_any s[j] _).mono ?_
      rintro e w' ⟨rfl, rfl⟩
      rw [Hin.out]
      go_wp2_with fail
      go_ret
      exact ⟨ret_int (by rw [← Hd.out]), rfl⟩
    ·have hj1 : ¬ (j : Int) < (s.size : Int) := by omega
     have hd := fwdN_over wordB s.data.toList j (by rw [toList_length]; omega)
     have Hd := Lib.hid (hd.symm.trans HJ.out)
     clear hd
     go_wp2_with fail
     go_ret
     exact ⟨ret_int (by rw [← Hd.out]), rfl⟩
theorem wordLeft_any (s : ByteArray) (a : Nat) (w : World) (ha : a ≤ s.size) (hs : s.size ≤ 65536) :
  Calls Tryz.prog 118 #[.string s, .int .i64 a] w fun e w' => e = .returned (.int .i64 (wordLN s.data.toList a : Nat)) ∧ w' = w := by
 obtain ⟨U, hU⟩ : ∃ U, wordLN s.data.toList a = U := ⟨_, rfl⟩
 rw [hU]
 obtain ⟨V, hV⟩ : ∃ V, backN noWordB s.data.toList a = V := ⟨_, rfl⟩
 rw [wordLN, hV] at hU
 have HU := Lib.hid hU
 have HV := Lib.hid hV
 clear hU hV
 go_enter Tryz.func118, Tryz.ntmps118
 go_wp2_with fail
 go_loop [1] (fun i => ∃ k : Nat, k ≤ s.size ∧ i = .int .i64 k ∧ Hid (backN noWordB s.data.toList k = V)) (fun i => (intOf i).toNat)
 case atStart => exact ⟨a, ha, rfl, HV⟩
 case round =>
  obtain ⟨j, hj, rfl, HK⟩ := hrel
  by_cases hj0 : 0 < j
  ·obtain ⟨k, rfl⟩ : ∃ k, j = k + 1 := ⟨j - 1, by omega⟩
   have hk1 : (k : Int) < (s.size : Int) := by omega
   have hk2 : (0 : Int) ≤ (k : Int) := by omega
   have hkt : k < s.size := by omega
   have hd := backN_pos noWordB s.data.toList k (by rw [toList_length]; exact hkt)
   rw [toList_get s k hkt] at hd
   by_cases hin : wordB s[k] = false
   ·rw [if_pos (by simp [noWordB, hin])] at hd
    have Hd := Lib.hid (hd.symm.trans HK.out)
    have Hin := Lib.hid hin
    clear hd hin
    go_wp2_with fail
    refine (wordByte_any s[k] _).mono ?_
    rintro e w' ⟨rfl, rfl⟩
    rw [Hin.out]
    go_wp2_with fail
    go_round
    case rel => exact ⟨k, by omega, by go_num, Hd⟩
    case measure => simp [intOf] <;> omega
   ·have hin2 : wordB s[k] = true := by simpa using hin
    rw [if_neg (by simp [noWordB, hin2])] at hd
    have hkV := hd.symm.trans HK.out
    have HkU := Lib.hid (show backN wordB s.data.toList (k + 1) = U from by rw [hkV]; exact HU.out)
    have Hin := Lib.hid hin2
    clear hd hin hin2 hkV
    go_wp2_with fail
    refine (wordByte_any s[k] _).mono ?_
    rintro e w' ⟨rfl, rfl⟩
    rw [Hin.out]
    go_wp2_with fail
    go_loop [1] (fun i => ∃ k : Nat, k ≤ s.size ∧ i = .int .i64 k ∧ Hid (backN wordB s.data.toList k = U)) (fun i => (intOf i).toNat)
    case atStart => exact ⟨k + 1, by omega, by go_num, HkU⟩
    case round =>
     clear HkU HK HV HU
     obtain ⟨i, hi, rfl, HJ⟩ := hrel
     by_cases hi0 : 0 < i
     ·obtain ⟨m, rfl⟩ : ∃ m, i = m + 1 := ⟨i - 1, by omega⟩
      have hj1 : (m : Int) < (s.size : Int) := by omega
      have hj2 : (0 : Int) ≤ (m : Int) := by omega
      have hmt : m < s.size := by omega
      have hd := backN_pos wordB s.data.toList m (by rw [toList_length]; exact hmt)
      rw [toList_get s m hmt] at hd
      by_cases hin : wordB s[m] = true
      ·rw [if_pos hin] at hd
       have Hd := Lib.hid (hd.symm.trans HJ.out)
       have Hin := Lib.hid hin
       clear hd hin
       go_wp2_with fail
       refine (wordByte_any s[m] _).mono ?_
       rintro e w' ⟨rfl, rfl⟩
       rw [Hin.out]
       go_wp2_with fail
       go_round
       case rel => exact ⟨m, by omega, by go_num, Hd⟩
       case measure => simp [intOf] <;> omega
      ·have hin2 : wordB s[m] = false := by simpa using hin
       rw [if_neg hin] at hd
       have Hd := Lib.hid (hd.symm.trans HJ.out)
       have Hin := Lib.hid hin2
       clear hd hin hin2
       go_wp2_with fail
       refine (wordByte_any s[m] _).mono ?_
       rintro e w' ⟨rfl, rfl⟩
       rw [Hin.out]
       go_wp2_with fail
       go_ret
       exact ⟨ret_int (by rw [← Hd.out]; go_num), rfl⟩
     ·obtain rfl : i = 0 := by omega
      have Hd := Lib.hid (show (0 : Nat) = U from HJ.out)
      go_wp2_with fail
      go_ret
      exact ⟨ret_int (by rw [← Hd.out]; rfl), rfl⟩
  ·obtain rfl : j = 0 := by omega
   have hkV : (0 : Nat) = V := HK.out
   have HkU := Lib.hid (show backN wordB s.data.toList 0 = U from by rw [hkV]; exact HU.out)
   clear hkV
   go_wp2_with fail
   go_loop [1] (fun i => ∃ k : Nat, k ≤ s.size ∧ i = .int .i64 k ∧ Hid (backN wordB s.data.toList k = U)) (fun i => (intOf i).toNat)
   case atStart => exact ⟨0, by omega, rfl, HkU⟩
   case round =>
    clear HkU HK HV HU
    obtain ⟨i, hi, rfl, HJ⟩ := hrel
    by_cases hi0 : 0 < i
    ·obtain ⟨m, rfl⟩ : ∃ m, i = m + 1 := ⟨i - 1, by omega⟩
     have hj1 : (m : Int) < (s.size : Int) := by omega
     have hj2 : (0 : Int) ≤ (m : Int) := by omega
     have hmt : m < s.size := by omega
     have hd := backN_pos wordB s.data.toList m (by rw [toList_length]; exact hmt)
     rw [toList_get s m hmt] at hd
     by_cases hin : wordB s[m] = true
     ·rw [if_pos hin] at hd
      have Hd := Lib.hid (hd.symm.trans HJ.out)
      have Hin := Lib.hid hin
      clear hd hin
      go_wp2_with fail
      refine (wordByte_any s[m] _).mono ?_
      rintro e w' ⟨rfl, rfl⟩
      rw [Hin.out]
      go_wp2_with fail
      go_round
      case rel => exact ⟨m, by omega, by go_num, Hd⟩
      case measure => simp [intOf] <;> omega
     ·have hin2 : wordB s[m] = false := by simpa using hin
      rw [if_neg hin] at hd
      have Hd := Lib.hid (hd.symm.trans HJ.out)
      have Hin := Lib.hid hin2
      clear hd hin hin2
      go_wp2_with fail
      refine (wordByte_any s[m] _).mono ?_
      rintro e w' ⟨rfl, rfl⟩
      rw [Hin.out]
      go_wp2_with fail
      go_ret
      exact ⟨ret_int (by rw [← Hd.out]; go_num), rfl⟩
    ·obtain rfl : i = 0 := by omega
     have Hd := Lib.hid (show (0 : Nat) = U from HJ.out)
     go_wp2_with fail
     go_ret
     exact ⟨ret_int (by rw [← Hd.out]; rfl), rfl⟩
theorem place_col (R : Rp) (a : Nat) (w : World) (hR : RopeAt w R) (ha : a ≤ R.t.size) :
  Calls Tryz.prog 150 #[.agg #[.pointer (some ⟨R.rb, 0, none⟩)], .int .i64 a, .int .i64 1] w fun e w' => e = .returned (.tuple #[.int .i64 (lnN R.text a : Nat), .int .i64 (colN R.text a : Nat), .int .i64 0]) ∧ Ext w w' := by
 have h := place_yes R a 1 w hR (by decide) (rises_of ⟨by omega, by omega, by omega⟩)
 have hl := lineN_le R.text a
 have hq := byW_seg 1 R.text _ a hl
 unfold PlacePost at h
 rw [Int.toNat_natCast, ← Int.ofNat_sub (by omega)] at h
 exact h
theorem up_any (R : Rp) (a : Nat) (w : World) (hR : RopeAt w R) (ha : a ≤ R.t.size) :
  Calls Tryz.prog 117 #[.agg #[.pointer (some ⟨R.rb, 0, none⟩)], .int .i64 a, .int .i64 (-1)] w fun e w' => e = .returned (.int .i64 (upN R.text a : Nat)) ∧ Ext w w' := by
 have hx0 : Ext w (w.alloc (.cells #[.pointer (some ⟨R.rb, 0, none⟩)] 42)) := (Mod.refl _ w).alloc _
 have h0 := hR.ext hx0
 have hp := place_col R a _ h0 ha
 have hb := lnN_le R.text a
 have hbs := brk_small hR
 unfold upN
 generalize hcol : colN R.text a = col at *
 cases hln : lnN R.text a with
 | zero =>
  rw [if_pos rfl]
  rw [hln] at hp
  clear hln hb hcol
  go_enter Tryz.func117, Tryz.ntmps117
  go_wp2_with fail
  refine hp.mono ?_
  rintro e w1 ⟨rfl, hx⟩
  go_wp2_with fail
  go_ret
  exact ⟨rfl, hx0.ext_trans hx⟩
 | succ j =>
  rw [if_neg (by omega), Nat.add_sub_cancel]
  rw [hln] at hp hb
  have hm := fun v (hv : RopeAt v R) => many_any R v hv
  have ho := fun v (hv : RopeAt v R) => offset_yes R j col 1 v hv (by decide) (has_of ⟨by omega, by omega⟩)
  unfold OffsetPost at ho
  generalize offN R.text j col 1 = U at *
  rw [show (j : Int) = (j : Int) + 1 + -1 from by omega] at ho
  have hj1 : ¬ (j : Int) < 0 := by omega
  have hj2 : ¬ ((brk R.text + 1 : Nat) : Int) ≤ (j : Int) := by omega
  have hj3 : ¬ (brk R.text : Int) + 1 ≤ (j : Int) := by omega
  have hj4 : (j : Int) ≤ 65536 := by omega
  have Hm := Lib.hid hm
  have Ho := Lib.hid ho
  clear hln hcol hm ho hb
  go_enter Tryz.func117, Tryz.ntmps117
  go_wp2_with fail
  refine hp.mono ?_
  rintro e w1 ⟨rfl, hx⟩
  have c := box_cell hx
  go_wp2_with fail
  refine (Hm.out _ (h0.ext hx)).mono ?_
  rintro e w2 ⟨rfl, hx2⟩
  have hx3 := hx.ext_trans hx2
  have c2 := box_cell hx3
  clear c
  go_wp2_with fail
  refine (Ho.out _ (h0.ext hx3)).mono ?_
  rintro e w3 ⟨rfl, hx4⟩
  go_wp2_with fail
  go_ret
  exact ⟨rfl, (hx0.ext_trans hx3).ext_trans hx4⟩
theorem below_any (R : Rp) (a : Nat) (w : World) (hR : RopeAt w R) (ha : a ≤ R.t.size) :
  Calls Tryz.prog 117 #[.agg #[.pointer (some ⟨R.rb, 0, none⟩)], .int .i64 a, .int .i64 1] w fun e w' => e = .returned (.int .i64 (belowN R.text a : Nat)) ∧ Ext w w' := by
 have hx0 : Ext w (w.alloc (.cells #[.pointer (some ⟨R.rb, 0, none⟩)] 42)) := (Mod.refl _ w).alloc _
 have h0 := hR.ext hx0
 have hp := place_col R a _ h0 ha
 have hb := lnN_le R.text a
 have hbs := brk_small hR
 have hl : R.text.length = R.t.size := rfl
 have hm := fun v (hv : RopeAt v R) => many_any R v hv
 have Hm := Lib.hid hm
 clear hm
 unfold belowN
 generalize hcol : colN R.text a = col at *
 obtain ⟨j, hln⟩ : ∃ j, lnN R.text a = j := ⟨_, rfl⟩
 rw [hln] at hp hb ⊢
 have hj1 : ¬ (j : Int) + 1 < 0 := by omega
 have hj4 : (j : Int) + 1 ≤ 65537 := by omega
 by_cases hj : j + 1 ≤ brk R.text
 ·rw [if_pos hj]
  have ho := fun v (hv : RopeAt v R) => offset_yes R (j + 1) col 1 v hv (by decide) (has_of ⟨by omega, by omega⟩)
  unfold OffsetPost at ho
  generalize offN R.text (j + 1) col 1 = U at *
  have hj2 : ¬ ((brk R.text + 1 : Nat) : Int) ≤ (j : Int) + 1 := by omega
  have hj3 : ¬ (brk R.text : Int) + 1 ≤ (j : Int) + 1 := by omega
  have hj5 : ¬ (brk R.text : Int) ≤ (j : Int) := by omega
  have hj6 : ¬ brk R.text ≤ j := by omega
  rw [show ((j + 1 : Nat) : Int) = (j : Int) + 1 from by omega] at ho
  have Ho := Lib.hid ho
  clear hln hcol ho hb hj
  go_enter Tryz.func117, Tryz.ntmps117
  go_wp2_with fail
  refine hp.mono ?_
  rintro e w1 ⟨rfl, hx⟩
  have c := box_cell hx
  go_wp2_with fail
  refine (Hm.out _ (h0.ext hx)).mono ?_
  rintro e w2 ⟨rfl, hx2⟩
  have hx3 := hx.ext_trans hx2
  have c2 := box_cell hx3
  clear c
  go_wp2_with fail
  refine (Ho.out _ (h0.ext hx3)).mono ?_
  rintro e w3 ⟨rfl, hx4⟩
  go_wp2_with fail
  go_ret
  exact ⟨rfl, (hx0.ext_trans hx3).ext_trans hx4⟩
 ·rw [if_neg hj, hl]
  have hln2 := fun v (hv : RopeAt v R) => len_any R v hv
  have Hl := Lib.hid hln2
  have hj2 : ((brk R.text + 1 : Nat) : Int) ≤ (j : Int) + 1 := by omega
  have hj3 : (brk R.text : Int) + 1 ≤ (j : Int) + 1 := by omega
  have hj5 : (brk R.text : Int) ≤ (j : Int) := by omega
  have hj6 : brk R.text ≤ j := by omega
  clear hln hcol hb hj hln2
  go_enter Tryz.func117, Tryz.ntmps117
  go_wp2_with fail
  refine hp.mono ?_
  rintro e w1 ⟨rfl, hx⟩
  have c := box_cell hx
  go_wp2_with fail
  refine (Hm.out _ (h0.ext hx)).mono ?_
  rintro e w2 ⟨rfl, hx2⟩
  have hx3 := hx.ext_trans hx2
  have c2 := box_cell hx3
  clear c
  go_wp2_with fail
  refine (Hl.out _ (h0.ext hx3)).mono ?_
  rintro e w3 ⟨rfl, rfl⟩
  go_wp2_with fail
  go_ret
  exact ⟨rfl, hx0.ext_trans hx3⟩
theorem stepIn_any (R : Rp) (s : ByteArray) (a : Nat) (way : Int) (w : World) (hR : RopeAt w R) (ht : R.text = s.data.toList) (ha : a ≤ s.size) (hw1 : 1 ≤ way) (hw2 : way ≤ 10) :
  Calls Tryz.prog 81 #[.agg #[.pointer (some ⟨R.rb, 0, none⟩)], .string s, .int .i64 a, .int .i64 way] w fun e w' => e = .returned (.int .i64 (stepN s.data.toList a way : Nat)) ∧ Ext w w' := by
 have hz := size_text ht
 have hs := hR.size
 have hh : hasB R.text (lnN s.data.toList a : Nat) = true := by rw [← ht]; exact has_of ⟨by omega, by have := lnN_le R.text a; omega⟩
 have hw : way = 1 ∨ way = 2 ∨ way = 3 ∨ way = 4 ∨ way = 5 ∨ way = 6 ∨ way = 7 ∨ way = 8 ∨ way = 9 ∨ way = 10 := by omega
 clear hw1 hw2
 rcases hw with rfl | rfl | rfl | rfl | rfl | rfl | rfl | rfl | rfl | rfl
 ·show Calls _ _ _ _ fun e w' => e = .returned (.int .i64 (leftN s.data.toList a : Nat)) ∧ Ext w w'
  have hx0 : Ext w (w.alloc (.cells #[.pointer (some ⟨R.rb, 0, none⟩)] 42)) := (Mod.refl _ w).alloc _
  have h0 := hR.ext hx0
  have hat := at_yes R (a : Nat) _ h0 (rises_of ⟨by omega, by omega, by omega⟩)
  rw [Int.toNat_natCast, ht] at hat
  go_enter Tryz.func81, Tryz.ntmps81
  go_wp2_with fail
  refine hat.mono ?_
  rintro e w1 ⟨rfl, hx⟩
  have hcell := box_cell hx
  have h1 := h0.ext hx
  have hx1 := hx0.ext_trans hx
  clear hat
  go_wp2_with fail
  refine (left_any s a _ ha (by omega)).mono ?_
  rintro e w2 ⟨rfl, rfl⟩
  go_wp2_with fail
  go_ret
  exact ⟨rfl, hx1⟩
 ·show Calls _ _ _ _ fun e w' => e = .returned (.int .i64 (rightN s.data.toList a : Nat)) ∧ Ext w w'
  have hx0 : Ext w (w.alloc (.cells #[.pointer (some ⟨R.rb, 0, none⟩)] 42)) := (Mod.refl _ w).alloc _
  have h0 := hR.ext hx0
  have hat := at_yes R (a : Nat) _ h0 (rises_of ⟨by omega, by omega, by omega⟩)
  rw [Int.toNat_natCast, ht] at hat
  go_enter Tryz.func81, Tryz.ntmps81
  go_wp2_with fail
  refine hat.mono ?_
  rintro e w1 ⟨rfl, hx⟩
  have hcell := box_cell hx
  have h1 := h0.ext hx
  have hx1 := hx0.ext_trans hx
  clear hat
  go_wp2_with fail
  refine (right_any s a _ ha (by omega)).mono ?_
  rintro e w2 ⟨rfl, rfl⟩
  go_wp2_with fail
  go_ret
  exact ⟨rfl, hx1⟩
 ·show Calls _ _ _ _ fun e w' => e = .returned (.int .i64 (lineN s.data.toList (lnN s.data.toList a) : Nat)) ∧ Ext w w'
  have hst := fun v (hv : RopeAt v R) => start_yes R (lnN s.data.toList a) v hv hh
  rw [ht] at hst
  unfold lnN at hst ⊢
  have Hst := Lib.hid hst
  clear hst hh
  have hx0 : Ext w (w.alloc (.cells #[.pointer (some ⟨R.rb, 0, none⟩)] 42)) := (Mod.refl _ w).alloc _
  have h0 := hR.ext hx0
  have hat := at_yes R (a : Nat) _ h0 (rises_of ⟨by omega, by omega, by omega⟩)
  rw [Int.toNat_natCast, ht] at hat
  go_enter Tryz.func81, Tryz.ntmps81
  go_wp2_with fail
  refine hat.mono ?_
  rintro e w1 ⟨rfl, hx⟩
  have hcell := box_cell hx
  have h1 := h0.ext hx
  have hx1 := hx0.ext_trans hx
  clear hat
  go_wp2_with fail
  refine (Hst.out _ h1).mono ?_
  rintro e w2 ⟨rfl, hx2⟩
  go_wp2_with fail
  go_ret
  exact ⟨rfl, hx1.ext_trans hx2⟩
 ·show Calls _ _ _ _ fun e w' => e = .returned (.int .i64 (lineE s.data.toList (lnN s.data.toList a) : Nat)) ∧ Ext w w'
  have hst := fun v (hv : RopeAt v R) => end_yes R (lnN s.data.toList a) v hv hh
  rw [ht] at hst
  unfold lnN at hst ⊢
  have Hst := Lib.hid hst
  clear hst hh
  have hx0 : Ext w (w.alloc (.cells #[.pointer (some ⟨R.rb, 0, none⟩)] 42)) := (Mod.refl _ w).alloc _
  have h0 := hR.ext hx0
  have hat := at_yes R (a : Nat) _ h0 (rises_of ⟨by omega, by omega, by omega⟩)
  rw [Int.toNat_natCast, ht] at hat
  go_enter Tryz.func81, Tryz.ntmps81
  go_wp2_with fail
  refine hat.mono ?_
  rintro e w1 ⟨rfl, hx⟩
  have hcell := box_cell hx
  have h1 := h0.ext hx
  have hx1 := hx0.ext_trans hx
  clear hat
  go_wp2_with fail
  refine (Hst.out _ h1).mono ?_
  rintro e w2 ⟨rfl, hx2⟩
  go_wp2_with fail
  go_ret
  exact ⟨rfl, hx1.ext_trans hx2⟩
 ·show Calls _ _ _ _ fun e w' => e = .returned (.int .i64 (upN s.data.toList a : Nat)) ∧ Ext w w'
  have hst := fun v (hv : RopeAt v R) => up_any R a v hv (by omega)
  rw [ht] at hst
  have Hst := Lib.hid hst
  clear hst hh
  have hx0 : Ext w (w.alloc (.cells #[.pointer (some ⟨R.rb, 0, none⟩)] 42)) := (Mod.refl _ w).alloc _
  have h0 := hR.ext hx0
  have hat := at_yes R (a : Nat) _ h0 (rises_of ⟨by omega, by omega, by omega⟩)
  rw [Int.toNat_natCast, ht] at hat
  go_enter Tryz.func81, Tryz.ntmps81
  go_wp2_with fail
  refine hat.mono ?_
  rintro e w1 ⟨rfl, hx⟩
  have hcell := box_cell hx
  have h1 := h0.ext hx
  have hx1 := hx0.ext_trans hx
  clear hat
  go_wp2_with fail
  refine (Hst.out _ h1).mono ?_
  rintro e w2 ⟨rfl, hx2⟩
  go_wp2_with fail
  go_ret
  exact ⟨rfl, hx1.ext_trans hx2⟩
 ·show Calls _ _ _ _ fun e w' => e = .returned (.int .i64 (belowN s.data.toList a : Nat)) ∧ Ext w w'
  have hst := fun v (hv : RopeAt v R) => below_any R a v hv (by omega)
  rw [ht] at hst
  have Hst := Lib.hid hst
  clear hst hh
  have hx0 : Ext w (w.alloc (.cells #[.pointer (some ⟨R.rb, 0, none⟩)] 42)) := (Mod.refl _ w).alloc _
  have h0 := hR.ext hx0
  have hat := at_yes R (a : Nat) _ h0 (rises_of ⟨by omega, by omega, by omega⟩)
  rw [Int.toNat_natCast, ht] at hat
  go_enter Tryz.func81, Tryz.ntmps81
  go_wp2_with fail
  refine hat.mono ?_
  rintro e w1 ⟨rfl, hx⟩
  have hcell := box_cell hx
  have h1 := h0.ext hx
  have hx1 := hx0.ext_trans hx
  clear hat
  go_wp2_with fail
  refine (Hst.out _ h1).mono ?_
  rintro e w2 ⟨rfl, hx2⟩
  go_wp2_with fail
  go_ret
  exact ⟨rfl, hx1.ext_trans hx2⟩
 ·show Calls _ _ _ _ fun e w' => e = .returned (.int .i64 (0 : Nat)) ∧ Ext w w'
  have hx0 : Ext w (w.alloc (.cells #[.pointer (some ⟨R.rb, 0, none⟩)] 42)) := (Mod.refl _ w).alloc _
  have h0 := hR.ext hx0
  have hat := at_yes R (a : Nat) _ h0 (rises_of ⟨by omega, by omega, by omega⟩)
  rw [Int.toNat_natCast, ht] at hat
  go_enter Tryz.func81, Tryz.ntmps81
  go_wp2_with fail
  refine hat.mono ?_
  rintro e w1 ⟨rfl, hx⟩
  have hcell := box_cell hx
  have h1 := h0.ext hx
  have hx1 := hx0.ext_trans hx
  clear hat
  go_wp2_with fail
  go_ret
  exact ⟨rfl, hx1⟩
 ·show Calls _ _ _ _ fun e w' => e = .returned (.int .i64 (s.data.toList.length : Nat)) ∧ Ext w w'
  rw [toList_length]
  have hx0 : Ext w (w.alloc (.cells #[.pointer (some ⟨R.rb, 0, none⟩)] 42)) := (Mod.refl _ w).alloc _
  have h0 := hR.ext hx0
  have hat := at_yes R (a : Nat) _ h0 (rises_of ⟨by omega, by omega, by omega⟩)
  rw [Int.toNat_natCast, ht] at hat
  go_enter Tryz.func81, Tryz.ntmps81
  go_wp2_with fail
  refine hat.mono ?_
  rintro e w1 ⟨rfl, hx⟩
  have hcell := box_cell hx
  have h1 := h0.ext hx
  have hx1 := hx0.ext_trans hx
  clear hat
  go_wp2_with fail
  go_ret
  exact ⟨rfl, hx1⟩
 ·show Calls _ _ _ _ fun e w' => e = .returned (.int .i64 (wordLN s.data.toList a : Nat)) ∧ Ext w w'
  have hx0 : Ext w (w.alloc (.cells #[.pointer (some ⟨R.rb, 0, none⟩)] 42)) := (Mod.refl _ w).alloc _
  have h0 := hR.ext hx0
  have hat := at_yes R (a : Nat) _ h0 (rises_of ⟨by omega, by omega, by omega⟩)
  rw [Int.toNat_natCast, ht] at hat
  go_enter Tryz.func81, Tryz.ntmps81
  go_wp2_with fail
  refine hat.mono ?_
  rintro e w1 ⟨rfl, hx⟩
  have hcell := box_cell hx
  have h1 := h0.ext hx
  have hx1 := hx0.ext_trans hx
  clear hat
  go_wp2_with fail
  refine (wordLeft_any s a _ ha (by omega)).mono ?_
  rintro e w2 ⟨rfl, rfl⟩
  go_wp2_with fail
  go_ret
  exact ⟨rfl, hx1⟩
 ·show Calls _ _ _ _ fun e w' => e = .returned (.int .i64 (wordRN s.data.toList a : Nat)) ∧ Ext w w'
  have hx0 : Ext w (w.alloc (.cells #[.pointer (some ⟨R.rb, 0, none⟩)] 42)) := (Mod.refl _ w).alloc _
  have h0 := hR.ext hx0
  have hat := at_yes R (a : Nat) _ h0 (rises_of ⟨by omega, by omega, by omega⟩)
  rw [Int.toNat_natCast, ht] at hat
  go_enter Tryz.func81, Tryz.ntmps81
  go_wp2_with fail
  refine hat.mono ?_
  rintro e w1 ⟨rfl, hx⟩
  have hcell := box_cell hx
  have h1 := h0.ext hx
  have hx1 := hx0.ext_trans hx
  clear hat
  go_wp2_with fail
  refine (wordRight_any s a _ ha (by omega)).mono ?_
  rintro e w2 ⟨rfl, rfl⟩
  go_wp2_with fail
  go_ret
  exact ⟨rfl, hx1⟩
theorem may_yes (r : Addr) (way : Int) (w : World) (h1 : 1 ≤ way) (h2 : way ≤ 10) :
  Calls Tryz.prog 80 #[.agg #[.pointer (some r)], .int .i64 way] w fun e w' => e = .returned (.int .i64 0) ∧ Ext w w' := by
 have j1 : ¬ way < 1 := by omega
 have j2 : ¬ 10 < way := by omega
 have i1 : decide (way < 1) = false := by simp; omega
 clear h1 h2
 go_enter Tryz.func80, Tryz.ntmps80
 go_wp2_with fail
 go_ret
 exact ⟨rfl, (Mod.refl _ w).alloc _⟩
theorem may_no (r : Option Addr) (way : Int) (w : World) (h : ¬ (1 ≤ way ∧ way ≤ 10)) :
  Calls Tryz.prog 80 #[.agg #[.pointer r], .int .i64 way] w fun e w' => e = .returned (.int .i64 2) ∧ Ext w w' := by
 by_cases h1 : way < 1
 ·clear h
  go_enter Tryz.func80, Tryz.ntmps80
  go_wp2_with fail
  go_ret
  exact ⟨rfl, (Mod.refl _ w).alloc _⟩
 ·have i1 : decide (way < 1) = false := by simpa using h1
  have h2 : 10 < way := by omega
  clear h
  go_enter Tryz.func80, Tryz.ntmps80
  go_wp2_with fail
  go_ret
  exact ⟨rfl, (Mod.refl _ w).alloc _⟩
theorem step_yes (R : Rp) (s : ByteArray) (a : Nat) (way : Int) (w : World) (hR : RopeAt w R) (ht : R.text = s.data.toList) (ha : a ≤ s.size) (h1 : 1 ≤ way) (h2 : way ≤ 10) :
  Calls Tryz.prog 53 #[.agg #[.pointer (some ⟨R.rb, 0, none⟩)], .int .i64 a, .int .i64 way] w fun e w' => e = .returned (.tuple #[.int .i64 (stepN s.data.toList a way : Nat), .int .i64 0]) ∧ Ext w w' := by
 have hx0 : Ext w (w.alloc (.cells #[.pointer (some ⟨R.rb, 0, none⟩)] 42)) := (Mod.refl _ w).alloc _
 have h0 := hR.ext hx0
 have hz := size_text ht
 have hm := may_yes ⟨R.rb, 0, none⟩ way (w.alloc (.cells #[.pointer (some ⟨R.rb, 0, none⟩)] 42)) h1 h2
 have hln := fun v (hv : RopeAt v R) => len_any R v hv
 rw [hz] at hln
 have htx := fun v (hv : RopeAt v R) => text_rope R v hv
 rw [bs_eq ht] at htx
 have hst := fun v (hv : RopeAt v R) => stepIn_any R s a way v hv ht ha h1 h2
 have Hl := Lib.hid hln
 have Ht := Lib.hid htx
 have Hs := Lib.hid hst
 have i1 : ¬ (a : Int) < 0 := by omega
 have i2 : ¬ (s.size : Int) < (a : Int) := by omega
 generalize stepN s.data.toList a way = U at *
 clear h1 h2 hln htx hst ht
 go_enter Tryz.func53, Tryz.ntmps53
 go_wp2_with fail
 refine hm.mono ?_
 rintro e w1 ⟨rfl, hx⟩
 have c := box_cell hx
 have h1 := h0.ext hx
 have hlt := World.block_lt_of_cell? w1 _ c
 go_wp2_with fail
 refine (Hl.out _ h1).mono ?_
 rintro e w2 ⟨rfl, rfl⟩
 go_wp2_with fail
 refine wp_region_ext_lit (by kernel_rfl) (by kernel_rfl) ?_
 repeat (go_big_quiet_step (first | (with_reducible exact Calls.ext_of (Ht.out _ (h1.ext (Mod.of_below (ext_below _ _))))) | (with_reducible exact Calls.ext_of (Hs.out _ (h1.ext (Mod.of_below (ext_below _ _)))))))
 refine wpQuiet_nil ?_
 intro we hxe
 go_wp2_with fail
 go_ret2
 exact ⟨rfl, (hx0.ext_trans hx).ext_trans hxe⟩
theorem span_rise (p q : Int) (w : World) (h : p < q) : Calls Tryz.prog 20 #[.agg #[.int .i64 p, .int .i64 q]] w fun e w' => e = .returned (.agg #[.int .i64 p, .int .i64 q]) ∧ Ext w w' := by
 have h1 : ¬ q < p := by omega
 have h4 : ¬ q ≤ p := by omega
 have h5 : p ≤ q := by omega
 have h2 : min p q = p := by omega
 have h3 : max p q = q := by omega
 go_enter Tryz.func20, Tryz.ntmps20
 go_wp2_with fail
 go_returns
 exact ⟨rfl, ((Mod.refl _ w).alloc _).alloc _⟩
theorem Tryz.info47 : (Tryz.prog.info? 47).map (fun i => (i.zero, i.size, i.bytes)) = some (some (.agg #[.int .i64 0, .int .i64 0]), 2, 16) := by kernel_rfl
theorem two_cells (p q : Int) : ∀ u ∈ [Value.int .i64 p, Value.int .i64 q], u.oneCell' = true := by
 intro u hu; simp only [List.mem_cons, List.not_mem_nil, or_false] at hu; rcases hu with rfl | rfl <;> rfl
structure Held (w0 : World) (D : Dice) (R : Rp) (s : ByteArray) (w : World) : Prop where
 rope : RopeAt w R
 text : R.text = s.data.toList
 ext : Ext w0 w
 new : R.New w0
 dice : R.D = D
theorem Held.size {w0 w : World} {D : Dice} {R : Rp} {s : ByteArray} (h : Held w0 D R s w) : R.t.size = s.size := by
 rw [T.size, show R.t.text = s.data.toList from h.text]; rfl
theorem Held.bs {w0 w : World} {D : Dice} {R : Rp} {s : ByteArray} (h : Held w0 D R s w) : bs R.text = s := bs_eq h.text
theorem Held.on {w0 w w' : World} {D : Dice} {R : Rp} {s : ByteArray} (h : Held w0 D R s w) (hx : Ext w w') : Held w0 D R s w' :=
 ⟨h.rope.ext hx, h.text, h.ext.ext_trans hx, h.new, h.dice⟩
theorem Held.drewN {w0 w : World} {D : Dice} {R : Rp} {s : ByteArray} (h : Held w0 D R s w) (n : Nat) : Held w0 D R s (w.drewN n) := h.on ((Mod.refl _ w).drewN n)
theorem Held.done {w0 w w' : World} {D : Dice} {R R' : Rp} {s s' : ByteArray} {l : List UInt8} (h : Held w0 D R s w) (hd : Done R R' l w w') (hl : l = s'.data.toList) : Held w0 D R' s' w' := by
 obtain ⟨h1, h2⟩ := hd.base h.ext h.new
 exact ⟨hd.rope, hd.text.trans hl, h1, h2, hd.grew.2.1.trans h.dice⟩
theorem Held.start {w0 w w' : World} {D : Dice} {R : Rp} {s : ByteArray} {l : List UInt8} (hx : Ext w0 w) (hd : w0.heap.size ≤ D.d) (hF : Fresh R D l w w') (hl : l = s.data.toList) : Held w0 D R s w' := by
 obtain ⟨h1, h2⟩ := hF.base hx hd
 exact ⟨hF.rope, hF.text.trans hl, h1, h2, hF.dice⟩
theorem Held.d {w0 w : World} {D : Dice} {R : Rp} {s : ByteArray} (h : Held w0 D R s w) : w0.heap.size ≤ D.d := by
 have := h.new.dice
 rwa [h.dice] at this
theorem Held.made {w0 w w' : World} {D : Dice} {R O : Rp} {s s' : ByteArray} {l : List UInt8} (h : Held w0 D R s w) (hF : Fresh O D l w w') (hl : l = s'.data.toList) : Held w0 D R s w' ∧ Held w0 D O s' w' ∧ Apart R O := by
 have ho := h.rope.off
 rw [h.dice] at ho
 have hl2 : Dice.Like R.D D := by rw [h.dice]; exact Dice.Like.refl D
 have hO := Held.start h.ext h.d hF hl
 exact ⟨⟨hF.old h.rope ho (.inl hl2), h.text, hO.ext, h.new, h.dice⟩, hO, hF.apart h.rope ho (.inl hl2)⟩
theorem Held.cut {w0 w w' : World} {D : Dice} {R R' O : Rp} {s a b : ByteArray} {l m : List UInt8} (h : Held w0 D R s w) (hC : CutTo R R' O l m w w') (hl : l = a.data.toList) (hm : m = b.data.toList) : Held w0 D R' a w' ∧ Held w0 D O b w' ∧ Apart R' O ∧ R'.rb = R.rb := by
 obtain ⟨h1, h2, h3⟩ := hC.base h.ext h.new
 exact ⟨⟨hC.rope, hC.text.trans hl, h1, h2, hC.grew.2.1.trans h.dice⟩, ⟨hC.other, hC.rest.trans hm, h1, h3, hC.odice.trans h.dice⟩, hC.apart, hC.grew.1⟩
end Go.Proofs.YthlmgoagnfkhdaaGreat

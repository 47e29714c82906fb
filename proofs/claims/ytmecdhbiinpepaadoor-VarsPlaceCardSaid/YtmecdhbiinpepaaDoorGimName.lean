/- Is a text a name? The program's answer and the document's. Conditions: none. -/
import Derived.Test.YtmecdhbiinpepaaDoorGimPackV
import Derived.Test.YtmecdhbiinpepaaDoorGimPackA
import Derived.Test.YtmecdhbiinpepaaDoorRows
namespace Go.Proofs.YtmecdhbiinpepaaDoor
open Go.RowKit Go.Gim

set_option maxHeartbeats 800000 in
set_option maxRecDepth 1000000 in
theorem nameByte_any (c : UInt8) (w : World) : Calls Tryd.prog 66 #[.int .u8 (c.toNat : Nat)] w fun e w' => e = .returned (.bool (nbB c)) ∧ w' = w := by
  have hc := c.toNat_lt
  unfold nbB
  generalize c.toNat = n at *
  go_enter Tryd.func66, Tryd.ntmps66
  go_wp2_with fail
  all_goals
    go_ret
    exact ⟨ret_bool (by rw [Bool.eq_iff_iff]; simp; omega), rfl⟩
set_option maxHeartbeats 800000 in
set_option maxRecDepth 1000000 in
theorem refLetter_any (c : UInt8) (w : World) : Calls Tryd.prog 67 #[.int .u8 (c.toNat : Nat)] w fun e w' => e = .returned (.bool (letB c)) ∧ w' = w := by
  have hc := c.toNat_lt
  unfold letB
  generalize c.toNat = n at *
  go_enter Tryd.func67, Tryd.ntmps67
  go_wp2_with fail
  all_goals
    go_ret
    exact ⟨ret_bool (by rw [Bool.eq_iff_iff]; simp; omega), rfl⟩
set_option maxHeartbeats 800000 in
set_option maxRecDepth 1000000 in
theorem refDigit_any (c : UInt8) (w : World) : Calls Tryd.prog 68 #[.int .u8 (c.toNat : Nat)] w fun e w' => e = .returned (.bool (digB c)) ∧ w' = w := by
  have hc := c.toNat_lt
  unfold digB
  generalize c.toNat = n at *
  go_enter Tryd.func68, Tryd.ntmps68
  go_wp2_with fail
  all_goals
    go_ret
    exact ⟨ret_bool (by rw [Bool.eq_iff_iff]; simp; try omega), rfl⟩

set_option maxHeartbeats 1600000 in
set_option maxRecDepth 1000000 in
theorem name_any (s : ByteArray) (w : World) (hs : s.size ≤ 9223372036854775807) : Calls Tryd.prog 47 #[.string s] w fun e w' => e = .returned (.bool (nameL s.data.toList)) ∧ w' = w := by
  generalize hX : nameL s.data.toList = X
  have HX := Lib.hid hX
  clear hX
  go_enter Tryd.func47, Tryd.ntmps47
  go_wp2_with fail
  go_loop [3] (fun i => ∃ k : Nat, k ≤ s.size ∧ i = .int .i64 k ∧ Hid ((decide (0 < s.size) && decide (s.size ≤ 64) && restB (s.data.toList.drop k) k) = X)) (fun i => s.size - (intOf i).toNat)
  case atStart => exact ⟨0, by omega, rfl, Lib.hid HX.out⟩
  case round =>
    obtain ⟨k, hk, rfl, HC⟩ := hrel
    by_cases hlt : k < s.size
    · have hlt' : (k : Int) < (s.size : Int) := by omega
      have hk0 : (0 : Int) ≤ (k : Int) := by omega
      have hd := restB_drop s.data.toList k (by rw [toList_length]; exact hlt)
      rw [show s.data.toList[k]'(by rw [toList_length]; exact hlt) = s[k] from toList_get s k hlt] at hd
      have HD := Lib.hid hd
      clear hd
      have hnb : nokB s[k] k = (nbB s[k] && (decide (0 < k) || decide (57 < s[k].toNat))) := rfl
      go_wp2_with fail
      refine (nameByte_any s[k] _).mono ?_
      rintro e w1 ⟨rfl, rfl⟩
      cases hb : nbB s[k] with
      | false =>
        have HF := Lib.hid (show X = false by rw [← HC.out, HD.out, hnb, hb]; simp)
        clear hb hnb
        go_wp2_with fail
        go_ret
        exact ⟨by rw [HF.out]; rfl, rfl⟩
      | true =>
        by_cases hz : k = 0
        · subst hz
          by_cases h57 : s[0].toNat ≤ 57
          · have HF := Lib.hid (show X = false by rw [← HC.out, HD.out, hnb, hb]; simp; intro _ _ h; omega)
            have b1 : decide ((s[0].toNat : Int) ≤ 57) = true := decide_eq_true (by omega)
            clear hb hnb
            go_wp2_with fail
            go_ret
            exact ⟨by rw [HF.out]; rfl, rfl⟩
          · have HN := Lib.hid (show (decide (0 < s.size) && decide (s.size ≤ 64) && restB (s.data.toList.drop 1) 1) = X by
              rw [← HC.out, HD.out, hnb, hb, decide_eq_true (show 57 < s[0].toNat by omega)]; simp)
            have b1 : decide ((s[0].toNat : Int) ≤ 57) = false := decide_eq_false (by omega)
            clear hb hnb
            go_wp2_with fail
            go_round
            case rel => exact ⟨1, by omega, rfl, HN⟩
            case measure => simp [intOf]; omega
        · have HN := Lib.hid (show (decide (0 < s.size) && decide (s.size ≤ 64) && restB (s.data.toList.drop (k + 1)) (k + 1)) = X by
            rw [← HC.out, HD.out, hnb, hb, decide_eq_true (show 0 < k by omega)]; simp)
          have b1 : ((k : Int) == 0) = false := by simp; omega
          clear hb hnb
          go_wp2_with fail
          go_round
          case rel => exact ⟨k + 1, by omega, by go_num, HN⟩
          case measure => simp [intOf]; omega
    · have hlt' : ¬ (k : Int) < (s.size : Int) := by omega
      have HF := Lib.hid (show (decide (0 < s.size) && decide (s.size ≤ 64)) = X by
        rw [← HC.out, List.drop_of_length_le (by rw [toList_length]; omega)]; simp [restB])
      by_cases h0 : s.size = 0
      · have b1 : s.toList.isEmpty = true := by rw [ByteArray.toList_eq, List.isEmpty_iff]; exact List.eq_nil_of_length_eq_zero h0
        go_wp2_with fail
        go_ret
        exact ⟨by rw [← HF.out, h0]; rfl, rfl⟩
      · have b1 : s.toList.isEmpty = false := by rw [ByteArray.toList_eq]; simpa using (List.length_pos_iff.1 (show 0 < s.data.toList.length by rw [toList_length]; omega))
        go_wp2_with fail
        go_ret
        exact ⟨by
          rw [← HF.out, decide_eq_true (show 0 < s.size by omega), Bool.true_and]
          exact ret_bool (decide_eq_decide.2 (by omega)), rfl⟩
set_option maxHeartbeats 1600000 in
set_option maxRecDepth 1000000 in
theorem refName_any (s : ByteArray) (w : World) (hs : s.size ≤ 9223372036854775807) : Calls Tryd.prog 51 #[.string s] w fun e w' => e = .returned (.bool (nameL s.data.toList)) ∧ w' = w := by
  generalize hX : nameL s.data.toList = X
  have HX := Lib.hid hX
  clear hX
  go_enter Tryd.func51, Tryd.ntmps51
  by_cases h0 : s.size = 0
  · go_wp2_with fail
    go_ret
    exact ⟨by rw [← HX.out]; unfold nameL; rw [toList_length, h0]; rfl, rfl⟩
  by_cases h64 : 64 < s.size
  · go_wp2_with fail
    go_ret
    exact ⟨by rw [← HX.out]; unfold nameL; rw [toList_length, decide_eq_false (show ¬ s.size ≤ 64 by omega)]; simp, rfl⟩
  have c0 : ((s.size : Int) == 0) = false := beq_eq_false_iff_ne.2 (by omega)
  have c1 : decide ((s.size : Int) > 64) = false := decide_eq_false (by omega)
  go_wp2_with fail
  go_loop [3] (fun i => ∃ k : Nat, k ≤ s.size ∧ i = .int .i64 k ∧ Hid (restB (s.data.toList.drop k) k = X)) (fun i => s.size - (intOf i).toNat)
  case atStart => exact ⟨0, by omega, rfl, Lib.hid (by rw [← HX.out]; unfold nameL; rw [toList_length, decide_eq_true (show 0 < s.size by omega), decide_eq_true (show s.size ≤ 64 by omega)]; rfl)⟩
  case round =>
    obtain ⟨k, hk, rfl, HC⟩ := hrel
    by_cases hlt : k < s.size
    · have hlt' : (k : Int) < (s.size : Int) := by omega
      have hk0 : (0 : Int) ≤ (k : Int) := by omega
      have hd := restB_drop s.data.toList k (by rw [toList_length]; exact hlt)
      rw [show s.data.toList[k]'(by rw [toList_length]; exact hlt) = s[k] from toList_get s k hlt] at hd
      have HD := Lib.hid hd
      clear hd
      have hnb := nokB_ref s[k] k
      go_wp2_with fail
      refine (refLetter_any s[k] _).mono ?_
      rintro e w1 ⟨rfl, rfl⟩
      cases hb : letB s[k] with
      | true =>
        have HN := Lib.hid (show restB (s.data.toList.drop (k + 1)) (k + 1) = X by
          rw [← HC.out, HD.out, hnb, hb]; simp)
        clear hb hnb
        go_wp2_with fail
        go_round
        case rel => exact ⟨k + 1, by omega, by go_num, HN⟩
        case measure => simp [intOf]; omega
      | false =>
        by_cases h95 : s[k].toNat = 95
        · have HN := Lib.hid (show restB (s.data.toList.drop (k + 1)) (k + 1) = X by
            rw [← HC.out, HD.out, hnb, hb, decide_eq_true h95]; simp)
          clear hb hnb
          go_wp2_with fail
          go_round
          case rel => exact ⟨k + 1, by omega, by go_num, HN⟩
          case measure => simp [intOf]; omega
        · by_cases hz : k = 0
          · subst hz
            have HF := Lib.hid (show X = false by rw [← HC.out, HD.out, hnb, hb, decide_eq_false h95]; simp)
            clear hb hnb
            go_wp2_with fail
            go_ret
            exact ⟨by rw [HF.out]; rfl, rfl⟩
          · have b0 : ((k : Int) == 0) = false := by simp; omega
            go_wp2_with fail
            refine (refDigit_any s[k] _).mono ?_
            rintro e w1 ⟨rfl, rfl⟩
            cases hd : digB s[k] with
            | true =>
              have HN := Lib.hid (show restB (s.data.toList.drop (k + 1)) (k + 1) = X by
                rw [← HC.out, HD.out, hnb, hb, hd, decide_eq_false h95, decide_eq_false hz]; simp)
              clear hb hnb hd
              go_wp2_with fail
              go_round
              case rel => exact ⟨k + 1, by omega, by go_num, HN⟩
              case measure => simp [intOf]; omega
            | false =>
              have HF := Lib.hid (show X = false by rw [← HC.out, HD.out, hnb, hb, hd, decide_eq_false h95, decide_eq_false hz]; simp)
              clear hb hnb hd
              go_wp2_with fail
              go_ret
              exact ⟨by rw [HF.out]; rfl, rfl⟩
    · have hlt' : ¬ (k : Int) < (s.size : Int) := by omega
      have HF := Lib.hid (show true = X by
        rw [← HC.out, List.drop_of_length_le (by rw [toList_length]; omega)]; rfl)
      go_wp2_with fail
      go_ret
      exact ⟨by rw [← HF.out]; rfl, rfl⟩
end Go.Proofs.YtmecdhbiinpepaaDoor

/- What package motion's inner functions compute of a text's bytes: inside, wordByte, left, right, wordLeft, wordRight. Conditions: texts of at most 65536 bytes. -/
import Derived.Test.YtmecdhbiinpepaaGimPackC
import Derived.Test.YtmecdhbiinpepaaGimChar
namespace Go.Proofs.Ytmecdhbiinpepaa
open Go.RowKit Go.Gim

set_option maxHeartbeats 800000 in
theorem minside_any (c : UInt8) (w : World) : Calls Try.prog 94 #[.int .u8 c.toNat] w fun e w' => e = .returned (.bool (inB c)) ∧ w' = w := by
  by_cases h1 : (128 : Int) ≤ (c.toNat : Int)
  · by_cases h2 : (c.toNat : Int) ≤ 191
    · have h : inB c = true := by simp [inB]; omega
      rw [h]; clear h
      go_enter Try.func94, Try.ntmps94
      go_wp2
      go_ret
      exact ⟨rfl, rfl⟩
    · have h : inB c = false := by simp [inB]; omega
      rw [h]; clear h
      go_enter Try.func94, Try.ntmps94
      go_wp2
      go_ret
      exact ⟨rfl, rfl⟩
  · have h : inB c = false := by simp [inB]; omega
    rw [h]; clear h
    go_enter Try.func94, Try.ntmps94
    go_wp2
    go_ret
    exact ⟨rfl, rfl⟩

set_option maxHeartbeats 1600000 in
set_option maxRecDepth 1000000 in
theorem right_any (s : ByteArray) (a : Nat) (w : World) (ha : a ≤ s.size) (hs : s.size ≤ 65536) :
    Calls Try.prog 66 #[.string s, .int .i64 a] w fun e w' => e = .returned (.int .i64 (rightN s.data.toList a : Nat)) ∧ w' = w := by
  obtain ⟨U, hU⟩ : ∃ U, U = rightN s.data.toList a := ⟨_, rfl⟩
  rw [← hU]
  have hst : ∃ k : Nat, k ≤ s.size ∧ (a < s.size → k = a + 1) ∧ (¬ a < s.size → k = a) ∧ fwdN inB s.data.toList k = U := by
    unfold rightN at hU
    rw [toList_length] at hU
    by_cases h : a < s.size
    · rw [if_pos h] at hU
      exact ⟨a + 1, by omega, fun _ => rfl, fun h2 => absurd h h2, hU.symm⟩
    · rw [if_neg h] at hU
      exact ⟨a, by omega, fun h2 => absurd h2 h, fun _ => rfl, by rw [fwdN_over _ _ _ (by rw [toList_length]; omega)]; exact hU.symm⟩
  obtain ⟨k0, hk0, e1, e2, HU⟩ := hst
  have HU := Lib.hid HU
  clear hU
  have key : Calls Try.prog 66 #[.string s, .int .i64 a] w fun e w' => e = .returned (.int .i64 U) ∧ w' = w := by
    by_cases hlt : a < s.size
    · have hlt' : (a : Int) < (s.size : Int) := by omega
      obtain rfl := e1 hlt
      clear e1 e2
      go_enter Try.func66, Try.ntmps66
      go_wp2_with fail
      go_loop [1] (fun i => ∃ k : Nat, k ≤ s.size ∧ i = .int .i64 k ∧ Hid (fwdN inB s.data.toList k = U)) (fun i => s.size - (intOf i).toNat)
      case atStart => exact ⟨a + 1, hk0, by go_num, HU⟩
      case round =>
        obtain ⟨k, hk, rfl, HK⟩ := hrel
        by_cases hkt : k < s.size
        · have hk1 : (k : Int) < (s.size : Int) := by omega
          have hk2 : (0 : Int) ≤ (k : Int) := by omega
          by_cases hin : inB s[k] = true
          · have hd := fwdN_in inB s.data.toList k (by rw [toList_length]; exact hkt) (by rw [toList_get s k hkt]; exact hin)
            have Hd := Lib.hid hd
            have Hin := Lib.hid hin
            clear hd hin
            go_wp2_with fail
            refine (minside_any s[k] _).mono ?_
            rintro e w' ⟨rfl, rfl⟩
            rw [Hin.out]
            go_wp2_with fail
            go_round
            case rel => exact ⟨k + 1, by omega, by go_num, Lib.hid (Hd.out.symm.trans HK.out)⟩
            case measure => simp [intOf]; omega
          · have hin2 : inB s[k] = false := by simpa using hin
            have hd := fwdN_stop inB s.data.toList k (by rw [toList_length]; exact hkt) (by rw [toList_get s k hkt]; exact hin2)
            have Hd := Lib.hid (hd.symm.trans HK.out)
            have Hin := Lib.hid hin2
            clear hd hin hin2
            go_wp2_with fail
            refine (minside_any s[k] _).mono ?_
            rintro e w' ⟨rfl, rfl⟩
            rw [Hin.out]
            go_wp2_with fail
            go_ret
            exact ⟨ret_int (by rw [← Hd.out]), rfl⟩
        · have hk1 : ¬ (k : Int) < (s.size : Int) := by omega
          have hd := fwdN_over inB s.data.toList k (by rw [toList_length]; omega)
          have Hd := Lib.hid (hd.symm.trans HK.out)
          clear hd
          go_wp2_with fail
          go_ret
          exact ⟨ret_int (by rw [← Hd.out]), rfl⟩
    · have hlt' : ¬ (a : Int) < (s.size : Int) := by omega
      obtain rfl := e2 hlt
      clear e1 e2
      go_enter Try.func66, Try.ntmps66
      go_wp2_with fail
      go_loop [1] (fun i => ∃ k : Nat, k ≤ s.size ∧ i = .int .i64 k ∧ Hid (fwdN inB s.data.toList k = U)) (fun i => s.size - (intOf i).toNat)
      case atStart => exact ⟨_, hk0, rfl, HU⟩
      case round =>
        obtain ⟨k, hk, rfl, HK⟩ := hrel
        by_cases hkt : k < s.size
        · have hk1 : (k : Int) < (s.size : Int) := by omega
          have hk2 : (0 : Int) ≤ (k : Int) := by omega
          by_cases hin : inB s[k] = true
          · have hd := fwdN_in inB s.data.toList k (by rw [toList_length]; exact hkt) (by rw [toList_get s k hkt]; exact hin)
            have Hd := Lib.hid hd
            have Hin := Lib.hid hin
            clear hd hin
            go_wp2_with fail
            refine (minside_any s[k] _).mono ?_
            rintro e w' ⟨rfl, rfl⟩
            rw [Hin.out]
            go_wp2_with fail
            go_round
            case rel => exact ⟨k + 1, by omega, by go_num, Lib.hid (Hd.out.symm.trans HK.out)⟩
            case measure => simp [intOf]; omega
          · have hin2 : inB s[k] = false := by simpa using hin
            have hd := fwdN_stop inB s.data.toList k (by rw [toList_length]; exact hkt) (by rw [toList_get s k hkt]; exact hin2)
            have Hd := Lib.hid (hd.symm.trans HK.out)
            have Hin := Lib.hid hin2
            clear hd hin hin2
            go_wp2_with fail
            refine (minside_any s[k] _).mono ?_
            rintro e w' ⟨rfl, rfl⟩
            rw [Hin.out]
            go_wp2_with fail
            go_ret
            exact ⟨ret_int (by rw [← Hd.out]), rfl⟩
        · have hk1 : ¬ (k : Int) < (s.size : Int) := by omega
          have hd := fwdN_over inB s.data.toList k (by rw [toList_length]; omega)
          have Hd := Lib.hid (hd.symm.trans HK.out)
          clear hd
          go_wp2_with fail
          go_ret
          exact ⟨ret_int (by rw [← Hd.out]), rfl⟩
  exact key

set_option maxHeartbeats 1600000 in
set_option maxRecDepth 1000000 in
theorem left_any (s : ByteArray) (a : Nat) (w : World) (ha : a ≤ s.size) (hs : s.size ≤ 65536) :
    Calls Try.prog 65 #[.string s, .int .i64 a] w fun e w' => e = .returned (.int .i64 (leftN s.data.toList a : Nat)) ∧ w' = w := by
  obtain ⟨U, hU⟩ : ∃ U, U = leftN s.data.toList a := ⟨_, rfl⟩
  rw [← hU]
  by_cases h0 : a = 0
  · subst h0
    have hU0 : U = 0 := hU
    subst hU0
    clear hU
    go_enter Try.func65, Try.ntmps65
    go_wp2_with fail
    refine wp_loop_rounds 1 ?_
    rw [rounds_succ]
    go_wp2_with fail
    go_ret
    exact ⟨rfl, rfl⟩
  · have h0' : 0 < a := by omega
    have h0'' : (0 : Int) < (a : Int) := by omega
    have hU2 : downN inB s.data.toList (a - 1) = U := by rw [hU, leftN, if_neg h0]
    have HU := Lib.hid hU2
    clear hU hU2 h0
    go_enter Try.func65, Try.ntmps65
    go_wp2_with fail
    go_loop [1] (fun i => ∃ j : Nat, j < s.size ∧ i = .int .i64 j ∧ Hid (downN inB s.data.toList j = U)) (fun i => (intOf i).toNat)
    case atStart => exact ⟨a - 1, by omega, by rw [show ((a - 1 : Nat) : Int) = (a : Int) - 1 from by omega], HU⟩
    case round =>
      obtain ⟨j, hj, rfl, HJ⟩ := hrel
      by_cases hj0 : 0 < j
      · have hj0' : (0 : Int) < (j : Int) := by omega
        have hj1 : (0 : Int) ≤ (j : Int) := by omega
        have hj2 : (j : Int) < (s.size : Int) := by omega
        have hd := downN_pos inB s.data.toList j hj0 (by rw [toList_length]; exact hj)
        rw [toList_get s j hj] at hd
        by_cases hin : inB s[j] = true
        · rw [if_pos hin] at hd
          have Hd := Lib.hid hd
          have Hin := Lib.hid hin
          clear hd hin
          go_wp2_with fail
          refine (minside_any s[j] _).mono ?_
          rintro e w' ⟨rfl, rfl⟩
          rw [Hin.out]
          go_wp2_with fail
          go_round
          case rel => exact ⟨j - 1, by omega, by rw [show ((j - 1 : Nat) : Int) = (j : Int) - 1 from by omega], Lib.hid (Hd.out.symm.trans HJ.out)⟩
          case measure => simp [intOf]; omega
        · rw [if_neg hin] at hd
          have Hd := Lib.hid (hd.symm.trans HJ.out)
          have Hin := Lib.hid (show inB s[j] = false from by simpa using hin)
          clear hd hin
          go_wp2_with fail
          refine (minside_any s[j] _).mono ?_
          rintro e w' ⟨rfl, rfl⟩
          rw [Hin.out]
          go_wp2_with fail
          go_ret
          exact ⟨ret_int (by rw [← Hd.out]), rfl⟩
      · have hj0' : ¬ (0 : Int) < (j : Int) := by omega
        obtain rfl : j = 0 := by omega
        have HJ2 := Lib.hid (show (0 : Nat) = U from HJ.out)
        go_wp2_with fail
        go_ret
        exact ⟨ret_int (by rw [← HJ2.out]; rfl), rfl⟩

set_option maxHeartbeats 1600000 in
set_option maxRecDepth 1000000 in
theorem wordByte_any (c : UInt8) (w : World) : Calls Try.prog 96 #[.int .u8 c.toNat] w fun e w' => e = .returned (.bool (wordB c)) ∧ w' = w := by
  have hW : ∀ b, wordB c = b → Calls Try.prog 96 #[.int .u8 c.toNat] w (fun e w' => e = .returned (.bool b) ∧ w' = w) → Calls Try.prog 96 #[.int .u8 c.toNat] w fun e w' => e = .returned (.bool (wordB c)) ∧ w' = w := fun b hb h => by rw [hb]; exact h
  have e97 : (decide ((97 : Int) ≤ (c.toNat : Int)) = true ∧ decide ((c.toNat : Int) ≤ 122) = true) ∨ (decide ((97 : Int) ≤ (c.toNat : Int)) = true ∧ decide ((c.toNat : Int) ≤ 122) = false) ∨ decide ((97 : Int) ≤ (c.toNat : Int)) = false := by
    simp only [decide_eq_true_eq, decide_eq_false_iff_not]; omega
  have hall : wordB c = (decide ((97 : Int) ≤ (c.toNat : Int)) && decide ((c.toNat : Int) ≤ 122) || decide ((65 : Int) ≤ (c.toNat : Int)) && decide ((c.toNat : Int) ≤ 90) || decide ((48 : Int) ≤ (c.toNat : Int)) && decide ((c.toNat : Int) ≤ 57) || ((c.toNat : Int) == 95) || decide ((128 : Int) ≤ (c.toNat : Int))) := by
    unfold wordB
    rw [Bool.eq_iff_iff]
    simp only [Bool.or_eq_true, Bool.and_eq_true, decide_eq_true_eq, beq_iff_eq]
    omega
  rw [hall]
  clear hall hW e97
  go_enter Try.func96, Try.ntmps96
  by_cases h1 : (97 : Int) ≤ (c.toNat : Int)
  · by_cases h2 : (c.toNat : Int) ≤ 122
    · go_wp2_with fail
      go_ret
      exact ⟨ret_bool (by simp [h1, h2]), rfl⟩
    · by_cases h3 : (65 : Int) ≤ (c.toNat : Int)
      · by_cases h4 : (c.toNat : Int) ≤ 90
        · go_wp2_with fail
          go_ret
          exact ⟨ret_bool (by simp <;> omega), rfl⟩
        · by_cases h5 : (48 : Int) ≤ (c.toNat : Int)
          · by_cases h6 : (c.toNat : Int) ≤ 57
            · go_wp2_with fail
              go_ret
              exact ⟨ret_bool (by simp <;> omega), rfl⟩
            · by_cases h7 : ((c.toNat : Int) == 95) = true
              · go_wp2_with fail
                go_ret
                exact ⟨ret_bool (by simp at h7 ⊢ <;> omega), rfl⟩
              · have h7' : ((c.toNat : Int) == 95) = false := by simpa using h7
                by_cases h8 : (128 : Int) ≤ (c.toNat : Int)
                · go_wp2_with fail
                  go_ret
                  exact ⟨ret_bool (by simp <;> omega), rfl⟩
                · go_wp2_with fail
                  go_ret
                  exact ⟨ret_bool (by simp at h7' ⊢ <;> omega), rfl⟩
          · by_cases h7 : ((c.toNat : Int) == 95) = true
            · go_wp2_with fail
              go_ret
              exact ⟨ret_bool (by simp at h7 ⊢ <;> omega), rfl⟩
            · have h7' : ((c.toNat : Int) == 95) = false := by simpa using h7
              by_cases h8 : (128 : Int) ≤ (c.toNat : Int)
              · go_wp2_with fail
                go_ret
                exact ⟨ret_bool (by simp <;> omega), rfl⟩
              · go_wp2_with fail
                go_ret
                exact ⟨ret_bool (by simp at h7' ⊢ <;> omega), rfl⟩
      · by_cases h5 : (48 : Int) ≤ (c.toNat : Int)
        · by_cases h6 : (c.toNat : Int) ≤ 57
          · go_wp2_with fail
            go_ret
            exact ⟨ret_bool (by simp <;> omega), rfl⟩
          · by_cases h7 : ((c.toNat : Int) == 95) = true
            · go_wp2_with fail
              go_ret
              exact ⟨ret_bool (by simp at h7 ⊢ <;> omega), rfl⟩
            · have h7' : ((c.toNat : Int) == 95) = false := by simpa using h7
              by_cases h8 : (128 : Int) ≤ (c.toNat : Int)
              · go_wp2_with fail
                go_ret
                exact ⟨ret_bool (by simp <;> omega), rfl⟩
              · go_wp2_with fail
                go_ret
                exact ⟨ret_bool (by simp at h7' ⊢ <;> omega), rfl⟩
        · by_cases h7 : ((c.toNat : Int) == 95) = true
          · go_wp2_with fail
            go_ret
            exact ⟨ret_bool (by simp at h7 ⊢ <;> omega), rfl⟩
          · have h7' : ((c.toNat : Int) == 95) = false := by simpa using h7
            by_cases h8 : (128 : Int) ≤ (c.toNat : Int)
            · go_wp2_with fail
              go_ret
              exact ⟨ret_bool (by simp <;> omega), rfl⟩
            · go_wp2_with fail
              go_ret
              exact ⟨ret_bool (by simp at h7' ⊢ <;> omega), rfl⟩
  · by_cases h3 : (65 : Int) ≤ (c.toNat : Int)
    · by_cases h4 : (c.toNat : Int) ≤ 90
      · go_wp2_with fail
        go_ret
        exact ⟨ret_bool (by simp <;> omega), rfl⟩
      · by_cases h5 : (48 : Int) ≤ (c.toNat : Int)
        · by_cases h6 : (c.toNat : Int) ≤ 57
          · go_wp2_with fail
            go_ret
            exact ⟨ret_bool (by simp <;> omega), rfl⟩
          · by_cases h7 : ((c.toNat : Int) == 95) = true
            · go_wp2_with fail
              go_ret
              exact ⟨ret_bool (by simp at h7 ⊢ <;> omega), rfl⟩
            · have h7' : ((c.toNat : Int) == 95) = false := by simpa using h7
              by_cases h8 : (128 : Int) ≤ (c.toNat : Int)
              · go_wp2_with fail
                go_ret
                exact ⟨ret_bool (by simp <;> omega), rfl⟩
              · go_wp2_with fail
                go_ret
                exact ⟨ret_bool (by simp at h7' ⊢ <;> omega), rfl⟩
        · by_cases h7 : ((c.toNat : Int) == 95) = true
          · go_wp2_with fail
            go_ret
            exact ⟨ret_bool (by simp at h7 ⊢ <;> omega), rfl⟩
          · have h7' : ((c.toNat : Int) == 95) = false := by simpa using h7
            by_cases h8 : (128 : Int) ≤ (c.toNat : Int)
            · go_wp2_with fail
              go_ret
              exact ⟨ret_bool (by simp <;> omega), rfl⟩
            · go_wp2_with fail
              go_ret
              exact ⟨ret_bool (by simp at h7' ⊢ <;> omega), rfl⟩
    · by_cases h5 : (48 : Int) ≤ (c.toNat : Int)
      · by_cases h6 : (c.toNat : Int) ≤ 57
        · go_wp2_with fail
          go_ret
          exact ⟨ret_bool (by simp <;> omega), rfl⟩
        · by_cases h7 : ((c.toNat : Int) == 95) = true
          · go_wp2_with fail
            go_ret
            exact ⟨ret_bool (by simp at h7 ⊢ <;> omega), rfl⟩
          · have h7' : ((c.toNat : Int) == 95) = false := by simpa using h7
            by_cases h8 : (128 : Int) ≤ (c.toNat : Int)
            · go_wp2_with fail
              go_ret
              exact ⟨ret_bool (by simp <;> omega), rfl⟩
            · go_wp2_with fail
              go_ret
              exact ⟨ret_bool (by simp at h7' ⊢ <;> omega), rfl⟩
      · by_cases h7 : ((c.toNat : Int) == 95) = true
        · go_wp2_with fail
          go_ret
          exact ⟨ret_bool (by simp at h7 ⊢ <;> omega), rfl⟩
        · have h7' : ((c.toNat : Int) == 95) = false := by simpa using h7
          by_cases h8 : (128 : Int) ≤ (c.toNat : Int)
          · go_wp2_with fail
            go_ret
            exact ⟨ret_bool (by simp <;> omega), rfl⟩
          · go_wp2_with fail
            go_ret
            exact ⟨ret_bool (by simp at h7' ⊢ <;> omega), rfl⟩

end Go.Proofs.Ytmecdhbiinpepaa

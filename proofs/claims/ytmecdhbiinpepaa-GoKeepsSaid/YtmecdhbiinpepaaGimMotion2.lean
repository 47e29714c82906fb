/- What package motion computes of a text's bytes: wordLeft, wordRight. Conditions: texts of at most 65536 bytes. -/
import Derived.Test.YtmecdhbiinpepaaGimMotion
namespace Go.Proofs.Ytmecdhbiinpepaa
open Go.RowKit Go.Gim

set_option maxHeartbeats 1600000 in
set_option maxRecDepth 1000000 in
theorem wordRight_any (s : ByteArray) (a : Nat) (w : World) (ha : a ≤ s.size) (hs : s.size ≤ 65536) :
    Calls Try.prog 70 #[.string s, .int .i64 a] w fun e w' => e = .returned (.int .i64 (wordRN s.data.toList a : Nat)) ∧ w' = w := by
  obtain ⟨U, hU⟩ : ∃ U, wordRN s.data.toList a = U := ⟨_, rfl⟩
  rw [hU]
  obtain ⟨V, hV⟩ : ∃ V, fwdN noWordB s.data.toList a = V := ⟨_, rfl⟩
  rw [wordRN, hV] at hU
  have HU := Lib.hid hU
  have HV := Lib.hid hV
  clear hU hV
  go_enter Try.func70, Try.ntmps70
  go_wp2_with fail
  go_loop [1] (fun i => ∃ k : Nat, k ≤ s.size ∧ i = .int .i64 k ∧ Hid (fwdN noWordB s.data.toList k = V)) (fun i => s.size - (intOf i).toNat)
  case atStart => exact ⟨a, ha, rfl, HV⟩
  case round =>
    obtain ⟨k, hk, rfl, HK⟩ := hrel
    by_cases hkt : k < s.size
    · have hk1 : (k : Int) < (s.size : Int) := by omega
      have hk2 : (0 : Int) ≤ (k : Int) := by omega
      by_cases hin : wordB s[k] = false
      · have hd := fwdN_in noWordB s.data.toList k (by rw [toList_length]; exact hkt) (by rw [toList_get s k hkt]; simp [noWordB, hin])
        have Hd := Lib.hid (hd.symm.trans HK.out)
        have Hin := Lib.hid hin
        clear hd hin
        go_wp2_with fail
        refine (wordByte_any s[k] _).mono ?_
        rintro e w' ⟨rfl, rfl⟩
        rw [Hin.out]
        go_wp2_with fail
        go_round
        case rel => exact ⟨k + 1, by omega, by go_num, Hd⟩
        case measure => simp [intOf]; omega
      · have hin2 : wordB s[k] = true := by simpa using hin
        have hd := fwdN_stop noWordB s.data.toList k (by rw [toList_length]; exact hkt) (by rw [toList_get s k hkt]; simp [noWordB, hin2])
        have hkV := hd.symm.trans HK.out
        have HkU := Lib.hid (show fwdN wordB s.data.toList k = U from by rw [hkV]; exact HU.out)
        have Hin := Lib.hid hin2
        clear hd hin hin2 hkV
        go_wp2_with fail
        refine (wordByte_any s[k] _).mono ?_
        rintro e w' ⟨rfl, rfl⟩
        rw [Hin.out]
        go_wp2_with fail
        go_loop [1] (fun i => ∃ k : Nat, k ≤ s.size ∧ i = .int .i64 k ∧ Hid (fwdN wordB s.data.toList k = U)) (fun i => s.size - (intOf i).toNat)
        case atStart => exact ⟨k, by omega, rfl, HkU⟩
        case round =>
          clear HkU HK HV HU
          obtain ⟨j, hj, rfl, HJ⟩ := hrel
          by_cases hjt : j < s.size
          · have hj1 : (j : Int) < (s.size : Int) := by omega
            have hj2 : (0 : Int) ≤ (j : Int) := by omega
            by_cases hin : wordB s[j] = true
            · have hd := fwdN_in wordB s.data.toList j (by rw [toList_length]; exact hjt) (by rw [toList_get s j hjt]; exact hin)
              have Hd := Lib.hid (hd.symm.trans HJ.out)
              have Hin := Lib.hid hin
              clear hd hin
              go_wp2_with fail
              refine (wordByte_any s[j] _).mono ?_
              rintro e w' ⟨rfl, rfl⟩
              rw [Hin.out]
              go_wp2_with fail
              go_round
              case rel => exact ⟨j + 1, by omega, by go_num, Hd⟩
              case measure => simp [intOf]; omega
            · have hin2 : wordB s[j] = false := by simpa using hin
              have hd := fwdN_stop wordB s.data.toList j (by rw [toList_length]; exact hjt) (by rw [toList_get s j hjt]; exact hin2)
              have Hd := Lib.hid (hd.symm.trans HJ.out)
              have Hin := Lib.hid hin2
              clear hd hin hin2
              go_wp2_with fail
              refine (wordByte_any s[j] _).mono ?_
              rintro e w' ⟨rfl, rfl⟩
              rw [Hin.out]
              go_wp2_with fail
              go_ret
              exact ⟨ret_int (by rw [← Hd.out]), rfl⟩
          · have hj1 : ¬ (j : Int) < (s.size : Int) := by omega
            have hd := fwdN_over wordB s.data.toList j (by rw [toList_length]; omega)
            have Hd := Lib.hid (hd.symm.trans HJ.out)
            clear hd
            go_wp2_with fail
            go_ret
            exact ⟨ret_int (by rw [← Hd.out]), rfl⟩
    · have hk1 : ¬ (k : Int) < (s.size : Int) := by omega
      have hd := fwdN_over noWordB s.data.toList k (by rw [toList_length]; omega)
      have hkV := hd.symm.trans HK.out
      have HkU := Lib.hid (show fwdN wordB s.data.toList k = U from by rw [hkV]; exact HU.out)
      clear hd hkV
      go_wp2_with fail
      go_loop [1] (fun i => ∃ k : Nat, k ≤ s.size ∧ i = .int .i64 k ∧ Hid (fwdN wordB s.data.toList k = U)) (fun i => s.size - (intOf i).toNat)
      case atStart => exact ⟨k, by omega, rfl, HkU⟩
      case round =>
        clear HkU HK HV HU
        obtain ⟨j, hj, rfl, HJ⟩ := hrel
        by_cases hjt : j < s.size
        · have hj1 : (j : Int) < (s.size : Int) := by omega
          have hj2 : (0 : Int) ≤ (j : Int) := by omega
          by_cases hin : wordB s[j] = true
          · have hd := fwdN_in wordB s.data.toList j (by rw [toList_length]; exact hjt) (by rw [toList_get s j hjt]; exact hin)
            have Hd := Lib.hid (hd.symm.trans HJ.out)
            have Hin := Lib.hid hin
            clear hd hin
            go_wp2_with fail
            refine (wordByte_any s[j] _).mono ?_
            rintro e w' ⟨rfl, rfl⟩
            rw [Hin.out]
            go_wp2_with fail
            go_round
            case rel => exact ⟨j + 1, by omega, by go_num, Hd⟩
            case measure => simp [intOf]; omega
          · have hin2 : wordB s[j] = false := by simpa using hin
            have hd := fwdN_stop wordB s.data.toList j (by rw [toList_length]; exact hjt) (by rw [toList_get s j hjt]; exact hin2)
            have Hd := Lib.hid (hd.symm.trans HJ.out)
            have Hin := Lib.hid hin2
            clear hd hin hin2
            go_wp2_with fail
            refine (wordByte_any s[j] _).mono ?_
            rintro e w' ⟨rfl, rfl⟩
            rw [Hin.out]
            go_wp2_with fail
            go_ret
            exact ⟨ret_int (by rw [← Hd.out]), rfl⟩
        · have hj1 : ¬ (j : Int) < (s.size : Int) := by omega
          have hd := fwdN_over wordB s.data.toList j (by rw [toList_length]; omega)
          have Hd := Lib.hid (hd.symm.trans HJ.out)
          clear hd
          go_wp2_with fail
          go_ret
          exact ⟨ret_int (by rw [← Hd.out]), rfl⟩

set_option maxHeartbeats 1600000 in
set_option maxRecDepth 1000000 in
theorem wordLeft_any (s : ByteArray) (a : Nat) (w : World) (ha : a ≤ s.size) (hs : s.size ≤ 65536) :
    Calls Try.prog 69 #[.string s, .int .i64 a] w fun e w' => e = .returned (.int .i64 (wordLN s.data.toList a : Nat)) ∧ w' = w := by
  obtain ⟨U, hU⟩ : ∃ U, wordLN s.data.toList a = U := ⟨_, rfl⟩
  rw [hU]
  obtain ⟨V, hV⟩ : ∃ V, backN noWordB s.data.toList a = V := ⟨_, rfl⟩
  rw [wordLN, hV] at hU
  have HU := Lib.hid hU
  have HV := Lib.hid hV
  clear hU hV
  go_enter Try.func69, Try.ntmps69
  go_wp2_with fail
  go_loop [1] (fun i => ∃ k : Nat, k ≤ s.size ∧ i = .int .i64 k ∧ Hid (backN noWordB s.data.toList k = V)) (fun i => (intOf i).toNat)
  case atStart => exact ⟨a, ha, rfl, HV⟩
  case round =>
    obtain ⟨j, hj, rfl, HK⟩ := hrel
    by_cases hj0 : 0 < j
    · obtain ⟨k, rfl⟩ : ∃ k, j = k + 1 := ⟨j - 1, by omega⟩
      have hk1 : (k : Int) < (s.size : Int) := by omega
      have hk2 : (0 : Int) ≤ (k : Int) := by omega
      have hkt : k < s.size := by omega
      have hd := backN_pos noWordB s.data.toList k (by rw [toList_length]; exact hkt)
      rw [toList_get s k hkt] at hd
      by_cases hin : wordB s[k] = false
      · rw [if_pos (by simp [noWordB, hin])] at hd
        have Hd := Lib.hid (hd.symm.trans HK.out)
        have Hin := Lib.hid hin
        clear hd hin
        go_wp2_with fail
        refine (wordByte_any s[k] _).mono ?_
        rintro e w' ⟨rfl, rfl⟩
        rw [Hin.out]
        go_wp2_with fail
        go_round
        case rel => exact ⟨k, by omega, by go_num, Hd⟩
        case measure => simp [intOf] <;> omega
      · have hin2 : wordB s[k] = true := by simpa using hin
        rw [if_neg (by simp [noWordB, hin2])] at hd
        have hkV := hd.symm.trans HK.out
        have HkU := Lib.hid (show backN wordB s.data.toList (k + 1) = U from by rw [hkV]; exact HU.out)
        have Hin := Lib.hid hin2
        clear hd hin hin2 hkV
        go_wp2_with fail
        refine (wordByte_any s[k] _).mono ?_
        rintro e w' ⟨rfl, rfl⟩
        rw [Hin.out]
        go_wp2_with fail
        go_loop [1] (fun i => ∃ k : Nat, k ≤ s.size ∧ i = .int .i64 k ∧ Hid (backN wordB s.data.toList k = U)) (fun i => (intOf i).toNat)
        case atStart => exact ⟨k + 1, by omega, by go_num, HkU⟩
        case round =>
          clear HkU HK HV HU
          obtain ⟨i, hi, rfl, HJ⟩ := hrel
          by_cases hi0 : 0 < i
          · obtain ⟨m, rfl⟩ : ∃ m, i = m + 1 := ⟨i - 1, by omega⟩
            have hj1 : (m : Int) < (s.size : Int) := by omega
            have hj2 : (0 : Int) ≤ (m : Int) := by omega
            have hmt : m < s.size := by omega
            have hd := backN_pos wordB s.data.toList m (by rw [toList_length]; exact hmt)
            rw [toList_get s m hmt] at hd
            by_cases hin : wordB s[m] = true
            · rw [if_pos hin] at hd
              have Hd := Lib.hid (hd.symm.trans HJ.out)
              have Hin := Lib.hid hin
              clear hd hin
              go_wp2_with fail
              refine (wordByte_any s[m] _).mono ?_
              rintro e w' ⟨rfl, rfl⟩
              rw [Hin.out]
              go_wp2_with fail
              go_round
              case rel => exact ⟨m, by omega, by go_num, Hd⟩
              case measure => simp [intOf] <;> omega
            · have hin2 : wordB s[m] = false := by simpa using hin
              rw [if_neg hin] at hd
              have Hd := Lib.hid (hd.symm.trans HJ.out)
              have Hin := Lib.hid hin2
              clear hd hin hin2
              go_wp2_with fail
              refine (wordByte_any s[m] _).mono ?_
              rintro e w' ⟨rfl, rfl⟩
              rw [Hin.out]
              go_wp2_with fail
              go_ret
              exact ⟨ret_int (by rw [← Hd.out]; go_num), rfl⟩
          · obtain rfl : i = 0 := by omega
            have Hd := Lib.hid (show (0 : Nat) = U from HJ.out)
            go_wp2_with fail
            go_ret
            exact ⟨ret_int (by rw [← Hd.out]; rfl), rfl⟩
    · obtain rfl : j = 0 := by omega
      have hkV : (0 : Nat) = V := HK.out
      have HkU := Lib.hid (show backN wordB s.data.toList 0 = U from by rw [hkV]; exact HU.out)
      clear hkV
      go_wp2_with fail
      go_loop [1] (fun i => ∃ k : Nat, k ≤ s.size ∧ i = .int .i64 k ∧ Hid (backN wordB s.data.toList k = U)) (fun i => (intOf i).toNat)
      case atStart => exact ⟨0, by omega, rfl, HkU⟩
      case round =>
        clear HkU HK HV HU
        obtain ⟨i, hi, rfl, HJ⟩ := hrel
        by_cases hi0 : 0 < i
        · obtain ⟨m, rfl⟩ : ∃ m, i = m + 1 := ⟨i - 1, by omega⟩
          have hj1 : (m : Int) < (s.size : Int) := by omega
          have hj2 : (0 : Int) ≤ (m : Int) := by omega
          have hmt : m < s.size := by omega
          have hd := backN_pos wordB s.data.toList m (by rw [toList_length]; exact hmt)
          rw [toList_get s m hmt] at hd
          by_cases hin : wordB s[m] = true
          · rw [if_pos hin] at hd
            have Hd := Lib.hid (hd.symm.trans HJ.out)
            have Hin := Lib.hid hin
            clear hd hin
            go_wp2_with fail
            refine (wordByte_any s[m] _).mono ?_
            rintro e w' ⟨rfl, rfl⟩
            rw [Hin.out]
            go_wp2_with fail
            go_round
            case rel => exact ⟨m, by omega, by go_num, Hd⟩
            case measure => simp [intOf] <;> omega
          · have hin2 : wordB s[m] = false := by simpa using hin
            rw [if_neg hin] at hd
            have Hd := Lib.hid (hd.symm.trans HJ.out)
            have Hin := Lib.hid hin2
            clear hd hin hin2
            go_wp2_with fail
            refine (wordByte_any s[m] _).mono ?_
            rintro e w' ⟨rfl, rfl⟩
            rw [Hin.out]
            go_wp2_with fail
            go_ret
            exact ⟨ret_int (by rw [← Hd.out]; go_num), rfl⟩
        · obtain rfl : i = 0 := by omega
          have Hd := Lib.hid (show (0 : Nat) = U from HJ.out)
          go_wp2_with fail
          go_ret
          exact ⟨ret_int (by rw [← Hd.out]; rfl), rfl⟩

end Go.Proofs.Ytmecdhbiinpepaa

/- What package char's inner functions compute: inside, end. Conditions: texts of at most 1000000 bytes. -/
import Derived.Test.YtmecdhbiinpepaaGimPackA
import Derived.Test.YtmecdhbiinpepaaRows
namespace Go.Proofs.Ytmecdhbiinpepaa
open Go.RowKit Go.Gim

set_option maxHeartbeats 800000 in
theorem inside_yes (c : UInt8) (w : World) (h : inB c = true) : Calls Try.prog 57 #[.int .u8 c.toNat] w fun e w' => e = .returned (.bool true) ∧ w' = w := by
  have h1 : (128 : Int) ≤ (c.toNat : Int) := by simp [inB] at h; omega
  have h2 : (c.toNat : Int) ≤ 191 := by simp [inB] at h; omega
  clear h
  go_enter Try.func57, Try.ntmps57
  go_wp2
  go_ret
  exact ⟨rfl, rfl⟩

set_option maxHeartbeats 800000 in
theorem inside_no (c : UInt8) (w : World) (h : inB c = false) : Calls Try.prog 57 #[.int .u8 c.toNat] w fun e w' => e = .returned (.bool false) ∧ w' = w := by
  by_cases h1 : (128 : Int) ≤ (c.toNat : Int)
  · have h2 : ¬ ((c.toNat : Int) ≤ 191) := by simp [inB] at h; omega
    clear h
    go_enter Try.func57, Try.ntmps57
    go_wp2
    go_ret
    exact ⟨rfl, rfl⟩
  · clear h
    go_enter Try.func57, Try.ntmps57
    go_wp2
    go_ret
    exact ⟨rfl, rfl⟩

theorem inside_any (c : UInt8) (w : World) : Calls Try.prog 57 #[.int .u8 c.toNat] w fun e w' => e = .returned (.bool (inB c)) ∧ w' = w := by
  cases h : inB c
  · exact inside_no c w h
  · exact inside_yes c w h

set_option maxHeartbeats 800000 in
set_option maxRecDepth 1000000 in
theorem end_any (s : ByteArray) (a : Int) (w : World) (h0 : 0 ≤ a) (ha : a ≤ s.size) (hs : s.size ≤ 1000000) :
    Calls Try.prog 35 #[.string s, .int .i64 a] w fun e w' => e = .returned (.int .i64 (endN s.data.toList a.toNat)) ∧ w' = w := by
  obtain ⟨n, rfl⟩ := Int.eq_ofNat_of_zero_le h0
  rw [Int.toNat_natCast]
  go_enter Try.func35, Try.ntmps35
  go_wp2_with fail
  go_loop [1] (fun i => ∃ k : Nat, k ≤ s.size + 1 ∧ i = .int .i64 k ∧ k + cont (s.data.toList.drop k) = endN s.data.toList n) (fun i => s.size + 1 - (intOf i).toNat)
  case atStart => exact ⟨n + 1, by omega, by go_num, rfl⟩
  case round =>
    obtain ⟨k, hk, rfl, he⟩ := hrel
    have He := Lib.hid he
    clear he
    by_cases hlt : k < s.size
    · have hlt' : (k : Int) < (s.size : Int) := by omega
      by_cases hin : inB s[k]
      · have hc : k + 1 + cont (s.data.toList.drop (k + 1)) = endN s.data.toList n := by
          have h1 := He.out
          rw [cont_drop _ k (by rw [toList_length]; exact hlt), toList_get s k hlt, if_pos hin] at h1
          omega
        have Hc := Lib.hid hc
        have Hin := Lib.hid hin
        clear hc hin
        go_wp2_with fail
        refine (inside_yes _ _ Hin.out).mono ?_
        rintro e w' ⟨rfl, rfl⟩
        go_wp2_with fail
        go_round
        case rel => exact ⟨k + 1, by omega, by go_num, Hc.out⟩
        case measure => simp [intOf]; omega
      · have hc : k = endN s.data.toList n := by
          have h1 := He.out
          rw [cont_drop _ k (by rw [toList_length]; exact hlt), toList_get s k hlt, if_neg hin] at h1
          omega
        have Hc := Lib.hid hc
        have Hin := Lib.hid hin
        clear hc hin
        go_wp2_with fail
        refine (inside_no _ _ (by simpa using Hin.out)).mono ?_
        rintro e w' ⟨rfl, rfl⟩
        go_wp2_with fail
        go_ret
        exact ⟨ret_int (by rw [← Hc.out]), rfl⟩
    · have hlt' : ¬ ((k : Int) < (s.size : Int)) := by omega
      have hc : k = endN s.data.toList n := by
        have h1 := He.out
        rw [cont_over _ k (by rw [toList_length]; omega)] at h1
        omega
      have Hc := Lib.hid hc
      clear hc
      go_wp2_with fail
      go_ret
      exact ⟨ret_int (by rw [← Hc.out]), rfl⟩

theorem end_zero (s : ByteArray) (b : Nat) (w : World) (hb : endN s.data.toList 0 = b) (hs : s.size ≤ 1000000) :
    Calls Try.prog 35 #[.string s, .int .i64 0] w fun e w' => e = .returned (.int .i64 b) ∧ w' = w := by
  rw [← hb]; exact end_any s 0 w (by decide) (by omega) hs

/-- Is a byte the first one of a character? -/
theorem lead_any (c : UInt8) (w : World) : Calls Try.prog 76 #[.int .u8 c.toNat] w fun e w' => e = .returned (.bool (!inB c)) ∧ w' = w := by
  have hb : c.toNat < 256 := c.toNat_lt
  by_cases h1 : (c.toNat : Int) < 128
  · have h : (!inB c) = true := by simp [inB]; omega
    rw [h]
    clear h
    go_enter Try.func76, Try.ntmps76
    go_wp2
    go_ret
    exact ⟨rfl, rfl⟩
  · by_cases h2 : (191 : Int) < (c.toNat : Int)
    · have h : (!inB c) = true := by simp [inB]; omega
      rw [h]
      clear h
      go_enter Try.func76, Try.ntmps76
      go_wp2
      go_ret
      exact ⟨rfl, rfl⟩
    · have h : (!inB c) = false := by simp [inB]; omega
      rw [h]
      clear h
      go_enter Try.func76, Try.ntmps76
      go_wp2
      go_ret
      exact ⟨rfl, rfl⟩

end Go.Proofs.Ytmecdhbiinpepaa

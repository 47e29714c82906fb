/- What gimletref9's left, right, Step answer. Conditions: texts of at most 65536 bytes. -/
import Derived.Test.YtmecdhbiinpepaaGimStepWords
namespace Go.Proofs.Ytmecdhbiinpepaa
open Go.RowKit Go.Gim

theorem ret_pair {a b : Int} (h : a = b) : Ending.returned (.tuple #[.int .i64 a, .int .i64 0]) = .returned (.tuple #[.int .i64 b, .int .i64 0]) := by rw [h]

set_option maxHeartbeats 1600000 in
set_option maxRecDepth 1000000 in
theorem ref9right_any (s : ByteArray) (a : Nat) (w : World) (ha : a ≤ s.size) (hs : s.size ≤ 65536) :
    Calls Try.prog 42 #[.string s, .int .i64 a] w fun e w' => e = .returned (.int .i64 (rightN s.data.toList a : Nat)) ∧ w' = w := by
  obtain ⟨U, hU⟩ : ∃ U, U = rightN s.data.toList a := ⟨_, rfl⟩
  rw [← hU]
  have hst : Hid (∀ k, a + 1 ≤ k → k ≤ s.size + 1 → fwdN inB s.data.toList k = fwdN inB s.data.toList (a + 1) → fwdN inB s.data.toList k = k → (k ≤ s.size → k = U) ∧ (s.size < k → s.size = U)) := Lib.hid (by
    intro k h1 h2 h3 h4
    unfold rightN at hU
    rw [toList_length] at hU
    by_cases h : a < s.size
    · rw [if_pos h] at hU
      have hle := fwdN_le inB s.data.toList (a + 1) (by rw [toList_length]; omega)
      rw [toList_length] at hle
      exact ⟨fun _ => by omega, fun _ => by omega⟩
    · rw [if_neg h] at hU
      exact ⟨fun _ => by omega, fun _ => by omega⟩)
  clear hU
  go_enter Try.func42, Try.ntmps42
  go_wp2_with fail
  go_loop [1] (fun i => ∃ k : Nat, a + 1 ≤ k ∧ k ≤ s.size + 1 ∧ i = .int .i64 k ∧ Hid (fwdN inB s.data.toList k = fwdN inB s.data.toList (a + 1))) (fun i => s.size + 1 - (intOf i).toNat)
  case atStart => exact ⟨a + 1, by omega, by omega, by go_num, Lib.hid rfl⟩
  case round =>
    obtain ⟨k, hk0, hk, rfl, HK⟩ := hrel
    by_cases hkt : k < s.size
    · have hk1 : (k : Int) < (s.size : Int) := by omega
      have hk2 : (0 : Int) ≤ (k : Int) := by omega
      cases hin : inB s[k] with
      | true =>
        have hd := fwdN_in inB s.data.toList k (by rw [toList_length]; exact hkt) (by rw [toList_get s k hkt]; exact hin)
        have Hd := Lib.hid (hd.symm.trans HK.out)
        have Hin := Lib.hid hin
        clear hd hin
        go_wp2_with fail
        refine (lead_any s[k] _).mono ?_
        rintro e w' ⟨rfl, rfl⟩
        rw [Hin.out]
        go_wp2_with fail
        go_round
        case rel => exact ⟨k + 1, by omega, by omega, by go_num, Hd⟩
        case measure => simp [intOf] <;> omega
      | false =>
        have hd := fwdN_stop inB s.data.toList k (by rw [toList_length]; exact hkt) (by rw [toList_get s k hkt]; exact hin)
        have hkU := (hst.out k hk0 hk HK.out hd).1 (by omega)
        have HkU := Lib.hid hkU
        have Hin := Lib.hid hin
        have m1 : ¬ (s.size : Int) < (k : Int) := by omega
        have m2 : ¬ (s.size : Int) ≤ (k : Int) := by omega
        have m3 : (k : Int) ≤ (s.size : Int) := by omega
        clear hd hin hkU
        go_wp2_with fail
        refine (lead_any s[k] _).mono ?_
        rintro e w' ⟨rfl, rfl⟩
        rw [Hin.out]
        go_wp2_with fail
        go_ret
        exact ⟨ret_int (by rw [← HkU.out]), rfl⟩
    · have hk1 : ¬ (k : Int) < (s.size : Int) := by omega
      have hd := fwdN_over inB s.data.toList k (by rw [toList_length]; omega)
      by_cases he : k = s.size
      · have hkU := (hst.out k hk0 hk HK.out hd).1 (by omega)
        subst he
        have HkU := Lib.hid hkU
        clear hd hkU
        go_wp2_with fail
        go_ret
        exact ⟨ret_int (by rw [← HkU.out]), rfl⟩
      · have hkU := (hst.out k hk0 hk HK.out hd).2 (by omega)
        have HkU := Lib.hid hkU
        have m1 : (s.size : Int) < (k : Int) := by omega
        have m2 : (s.size : Int) ≤ (k : Int) := by omega
        have m3 : ¬ (k : Int) ≤ (s.size : Int) := by omega
        clear hd hkU
        go_wp2_with fail
        go_ret
        exact ⟨ret_int (by rw [← HkU.out]), rfl⟩

set_option maxHeartbeats 1600000 in
set_option maxRecDepth 1000000 in
theorem ref9left_any (s : ByteArray) (a : Nat) (w : World) (ha : a ≤ s.size) (hs : s.size ≤ 65536) :
    Calls Try.prog 41 #[.string s, .int .i64 a] w fun e w' => e = .returned (.int .i64 (leftN s.data.toList a : Nat)) ∧ w' = w := by
  obtain ⟨U, hU⟩ : ∃ U, U = leftN s.data.toList a := ⟨_, rfl⟩
  rw [← hU]
  by_cases h0 : a = 0
  · subst h0
    have hU0 : U = 0 := hU
    subst hU0
    clear hU
    go_enter Try.func41, Try.ntmps41
    go_wp2_with fail
    refine wp_loop_rounds 1 ?_
    rw [rounds_succ]
    go_wp2_with fail
    go_ret
    exact ⟨rfl, rfl⟩
  · have hU2 : downN inB s.data.toList (a - 1) = U := by rw [hU, leftN, if_neg h0]
    have HU := Lib.hid hU2
    have h0' : 0 < a := by omega
    clear hU hU2 h0
    go_enter Try.func41, Try.ntmps41
    go_wp2_with fail
    go_loop [1] (fun i => ∃ j : Nat, j < s.size ∧ i = .int .i64 j ∧ Hid (downN inB s.data.toList j = U)) (fun i => (intOf i).toNat)
    case atStart => exact ⟨a - 1, by omega, by rw [show ((a - 1 : Nat) : Int) = (a : Int) - 1 from by omega], HU⟩
    case round =>
      obtain ⟨j, hj, rfl, HJ⟩ := hrel
      have n1 : ¬ (j : Int) < 0 := by omega
      have n2 : (0 : Int) ≤ (j : Int) := by omega
      by_cases hj0 : 0 < j
      · have hj0' : (0 : Int) < (j : Int) := by omega
        have hj2 : (j : Int) < (s.size : Int) := by omega
        have hd := downN_pos inB s.data.toList j hj0 (by rw [toList_length]; exact hj)
        rw [toList_get s j hj] at hd
        cases hin : inB s[j] with
        | true =>
          rw [if_pos hin] at hd
          have Hd := Lib.hid (hd.symm.trans HJ.out)
          have Hin := Lib.hid hin
          clear hd hin
          go_wp2_with fail
          refine (lead_any s[j] _).mono ?_
          rintro e w' ⟨rfl, rfl⟩
          rw [Hin.out]
          go_wp2_with fail
          go_round
          case rel => exact ⟨j - 1, by omega, by rw [show ((j - 1 : Nat) : Int) = (j : Int) - 1 from by omega], Hd⟩
          case measure => simp [intOf]; omega
        | false =>
          rw [if_neg (by rw [hin]; decide)] at hd
          have Hd := Lib.hid (hd.symm.trans HJ.out)
          have Hin := Lib.hid hin
          have n3 : ¬ (j : Int) ≤ 0 := by omega
          clear hd hin
          go_wp2_with fail
          refine (lead_any s[j] _).mono ?_
          rintro e w' ⟨rfl, rfl⟩
          rw [Hin.out]
          go_wp2_with fail
          go_ret
          exact ⟨ret_int (by rw [← Hd.out]), rfl⟩
      · obtain rfl : j = 0 := by omega
        have HJ2 := Lib.hid (show (0 : Nat) = U from HJ.out)
        go_wp2_with fail
        go_ret
        exact ⟨ret_int (by rw [← HJ2.out]; rfl), rfl⟩

theorem refPlace_col (s : ByteArray) (a : Nat) (w : World) (hs : s.size ≤ 65536) (ha : a ≤ s.size) :
    Calls Try.prog 40 #[.string s, .int .i64 a, .int .i64 1] w fun e w' => e = .returned (.tuple #[.int .i64 (lnN s.data.toList a : Nat), .int .i64 (colN s.data.toList a : Nat), .int .i64 0]) ∧ Ext w w' := by
  have h := refPlace_yes s a 1 w hs (by decide) (rises_of ⟨by omega, by omega, by omega⟩)
  have hl := lineN_le s.data.toList a
  have hq := byW_seg 1 s.data.toList _ a hl
  unfold PlacePost at h
  rw [Int.toNat_natCast, ← Int.ofNat_sub (by omega)] at h
  exact h

end Go.Proofs.Ytmecdhbiinpepaa

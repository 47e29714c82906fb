/- Folded is as long, and folded for good; what is one of A to Z is 32 more, all else is as it was: the walk. Conditions: none. -/
import Derived.Test.YthfckncbhkcblaaGimCharA
namespace Go.Proofs.Ythfckncbhkcblaa
open Go.RowKit Go.Gim

set_option maxHeartbeats 1600000 in
set_option maxRecDepth 1000000 in
theorem charFold_long (w : World) (s : ByteArray) (h : 200 < s.size) (h1 : s.size ≤ 9223372036854775807) :
    Calls Try.prog 9 #[.string s] w fun e w' => e = .returned (.bool true) ∧ Ext w w' := by
  have i1 : (200 : Int) < (s.size : Int) := by omega
  go_enter Try.func9, Try.ntmps9
  go_wp2_with fail
  refine (awake11_any _).mono ?_
  rintro e w' ⟨rfl, hx⟩
  go_wp2_with fail
  go_ret
  exact ⟨rfl, hx⟩

theorem foldB_foldB (c : UInt8) : foldB (foldB c) = foldB c := by
  by_cases h : isBig c
  · have e : foldB c = c + 32 := by simp [foldB, h]
    have h2 : isBig (c + 32) = false := by
      have := add32 c h
      simp only [isBig, decide_eq_true_eq] at h
      simp only [isBig, decide_eq_false_iff_not]; omega
    rw [e]; simp [foldB, h2]
  · have e : foldB c = c := by simp [foldB, h]
    rw [e, e]
theorem fold_fold (l : List UInt8) : fold (fold l) = fold l := by simp [fold, foldB_foldB]

set_option maxHeartbeats 1600000 in
set_option maxRecDepth 1000000 in
theorem charFold_any (w : World) (s : ByteArray) (h : s.size ≤ 200) :
    Calls Try.prog 9 #[.string s] w fun e w' => e = .returned (.bool true) ∧ Ext w w' := by
  have i1 : ¬ ((200 : Int) < (s.size : Int)) := by omega
  obtain ⟨t, ht⟩ : ∃ t, t = bs (fold s.data.toList) := ⟨_, rfl⟩
  have hsz : t.size = s.size := by rw [ht, bs_size, fold, List.length_map]; rfl
  have hff : bs (fold t.data.toList) = t := by rw [ht, bs_toList, fold_fold]
  have hat : ∀ k (hk : k < s.size) (hk2 : k < t.size), t[k] = foldB s[k] := by
    intro k hk hk2
    subst ht
    show (fold s.data.toList)[k]'_ = _
    simp [fold]; rfl
  have Hff := Lib.hid hff
  have Hat := Lib.hid hat
  have Hsz := Lib.hid hsz
  have hne : ((t.size : Int) != (s.size : Int)) = false := by simp [hsz]
  clear hff hat hsz
  go_enter Try.func9, Try.ntmps9
  go_wp2_with fail
  refine (fold_any s _ (by omega)).mono ?_
  rintro e w1 ⟨rfl, hx1⟩
  rw [← ht]
  have Ht := Lib.hid ht
  clear ht
  go_wp2_with fail
  refine (fold_any t _ (by rw [Hsz.out]; omega)).mono ?_
  rintro e w2 ⟨rfl, hx2⟩
  rw [Hff.out]
  go_wp2_with fail
  go_loopw [4] (fun i wr => ∃ (k m : Nat), k ≤ s.size ∧ i = .int .i64 k ∧ wr = w2.drewN m) (fun i _ => s.size - (intOf i).toNat)
  case atStart => exact ⟨0, 0, Nat.zero_le _, rfl, rfl⟩
  case round =>
    obtain ⟨k, m, hk, rfl, rfl⟩ := hrel
    by_cases hlt : k < s.size
    · have i2 : (k : Int) < (s.size : Int) := by omega
      have hkt : k < t.size := by rw [Hsz.out]; exact hlt
      have i3 : (k : Int) < (t.size : Int) := by omega
      have hv := Hat.out k hlt hkt
      by_cases hbig : isBig s[k]
      · have j1 : (65 : Int) ≤ (s[k].toNat : Int) := by simp [isBig] at hbig; omega
        have j2 : (s[k].toNat : Int) ≤ 90 := by simp [isBig] at hbig; omega
        have hv2 : (t[k].toNat : Int) = (s[k].toNat : Int) + 32 := by
          rw [hv]; simp only [foldB, if_pos hbig]; exact add32 _ hbig
        clear hv hbig
        go_wp2_with fail
        go_quiet (fail)
        go_wp2_with fail
        go_roundw
        case rel => exact ⟨k + 1, _, by omega, by go_num, rfl⟩
        case measure => simp [intOf]; omega
      · have hv2 : (t[k].toNat : Int) = (s[k].toNat : Int) := by
          rw [hv]; simp [foldB, hbig]
        by_cases j1 : (65 : Int) ≤ (s[k].toNat : Int)
        · have j2 : ¬ ((s[k].toNat : Int) ≤ 90) := by simp [isBig] at hbig; omega
          clear hv hbig
          go_wp2_with fail
          go_quiet (fail)
          go_wp2_with fail
          go_roundw
          case rel => exact ⟨k + 1, _, by omega, by go_num, rfl⟩
          case measure => simp [intOf]; omega
        · clear hv hbig
          go_wp2_with fail
          go_quiet (fail)
          go_wp2_with fail
          go_roundw
          case rel => exact ⟨k + 1, _, by omega, by go_num, rfl⟩
          case measure => simp [intOf]; omega
    · have i2 : ¬ ((k : Int) < (s.size : Int)) := by omega
      go_wp2_with fail
      refine (awake11_any _).mono ?_
      rintro e w' ⟨rfl, hx3⟩
      go_wp2_with fail
      go_ret
      exact ⟨rfl, ((hx1.ext_trans hx2).drewN m).ext_trans hx3⟩

theorem charFold_calls (w : World) (s : ByteArray) (h1 : s.size ≤ maxLen) :
    Calls Try.prog 9 #[.string s] w fun e w' => e = .returned (.bool true) ∧ Ext w w' := by
  unfold maxLen at h1
  by_cases a : s.size ≤ 200
  · exact charFold_any w s a
  · exact charFold_long w s (by omega) (by omega)

end Go.Proofs.Ythfckncbhkcblaa

/- The library's rotating of a stretch of selections, whatever they are. Conditions: at most 1000 selections. -/
import Derived.Test.YthlmgoagnfkhdaaGreatGimXSheetRefuses
import Derived.Test.YthlmgoagnfkhdaaGreatGimSortW2
set_option maxHeartbeats 6400000
set_option maxRecDepth 1000000
set_option linter.unusedVariables false
set_option linter.unusedSimpArgs false
namespace Go.Proofs.YthlmgoagnfkhdaaGreat
open Go.RowKit Go.Gim
theorem sub_opq {a b : Nat} (h : b ≤ a) (h2 : a ≤ 1000000) : ∃ d : Nat, d + b = a ∧ Hid (wrap64 ((a : Int) - (b : Int)) = (d : Int)) := by
 refine ⟨a - b, by omega, Lib.hid ?_⟩
 rw [show (a : Int) - (b : Int) = ((a - b : Nat) : Int) by omega]
 exact IntWalk.wrap64_in _ ⟨by omega, by omega⟩
theorem add_opq {a b : Nat} (h2 : a + b ≤ 1000000) : ∃ d : Nat, d = a + b ∧ Hid (wrap64 ((a : Int) + (b : Int)) = (d : Int)) := by
 refine ⟨a + b, rfl, Lib.hid ?_⟩
 rw [show (a : Int) + (b : Int) = ((a + b : Nat) : Int) by omega]
 exact IntWalk.wrap64_in _ ⟨by omega, by omega⟩
theorem rotateW_any (g cap a m b N : Nat) (w : World) (hr : WR w g N 47) (ham : a < m) (hmb : m < b) (hb : b ≤ N) (hn : N ≤ 1000) (v : Value) :
  Calls Tryz.prog 189 #[.slice (some ⟨g, 0, none⟩) N cap, .int .i64 a, .int .i64 m, .int .i64 b, v] w (KeptW g N 47 w) := by
 have H1 := Lib.hid hr
 obtain ⟨i0, hi0, W1⟩ := sub_opq (a := m) (b := a) (by omega) (by omega)
 obtain ⟨j0, hj0, W2⟩ := sub_opq (a := b) (b := m) (by omega) (by omega)
 have Hs := Lib.hid (show 0 < i0 ∧ i0 ≤ m ∧ 0 < j0 ∧ m + j0 ≤ N by omega)
 have Hn := Lib.hid hn
 clear hr hi0 hj0 ham hmb hb hn
 have w1 := W1.out
 have w2 := W2.out
 go_enter Tryz.func189, Tryz.ntmps189
 go_wp2_with fail
 clear w1 w2
 go_loopw [10, 11] (fun s8 s9 wr => ∃ i j : Nat, s8 = .int .i64 i ∧ s9 = .int .i64 j ∧ Hid (0 < i ∧ i ≤ m ∧ 0 < j ∧ m + j ≤ N) ∧ Hid (WR wr g N 47) ∧ Mod (· = g) w wr) (fun s8 s9 _ => (intOf s8).toNat + (intOf s9).toNat)
 case atStart => exact ⟨i0, j0, by first | rfl | exact congrArg _ W1.out, by first | rfl | exact congrArg _ W2.out, Hs, H1, Mod.refl _ _⟩
 case round =>
  clear Hs H1
  obtain ⟨i, j, rfl, rfl, Hs, HR, hm⟩ := hrel
  have hs := Hs.out
  have hn := Hn.out
  obtain ⟨x, hx, W1⟩ := sub_opq (a := m) (b := i) (by omega) (by omega)
  by_cases he : i = j
  ·subst he
   have e1 : ((i : Int) != (i : Int)) = false := by simp
   have HS := Lib.hid (swapW_any g cap x m i N wr HR.out (by omega) (by omega) hn v)
   unfold KeptW at HS
   clear hs hn hx
   have w1 := W1.out
   go_wp2_with fail
   refine HS.out.mono ?_
   rintro e w1 ⟨rfl, h1, h2⟩
   go_wp2_with fail
   go_end0
   exact ⟨rfl, h1, hm.trans h2 (fun _ _ e => e)⟩
  ·have e1 : ((i : Int) != (j : Int)) = true := by simp; omega
   by_cases hij : j < i
   ·have e2 : (j : Int) < (i : Int) := by omega
    have e3 : decide ((j : Int) < (i : Int)) = true := decide_eq_true e2
    obtain ⟨d, hd, W2⟩ := sub_opq (a := i) (b := j) (by omega) (by omega)
    have HS := Lib.hid (swapW_any g cap x m j N wr HR.out (by omega) (by omega) hn v)
    unfold KeptW at HS
    have Hd := Lib.hid hd
    have Hs2 := Lib.hid (show 0 < d ∧ d ≤ m ∧ 0 < j ∧ m + j ≤ N by omega)
    clear hs hn hx hd he
    have w1 := W1.out
    have w2 := W2.out
    go_wp2_with fail
    refine HS.out.mono ?_
    rintro e w1 ⟨rfl, h1, h2⟩
    have H1' := Lib.hid h1
    clear h1
    go_wp2_with fail
    go_roundw
    case rel => exact ⟨d, j, by first | rfl | exact congrArg _ w2, rfl, Hs2, H1', hm.trans h2 (fun _ _ e => e)⟩
    case measure => have := Hd.out; have := Hs2.out; simp [intOf]; omega
   ·have e2 : ¬ (j : Int) < (i : Int) := by omega
    have e3 : decide ((j : Int) < (i : Int)) = false := decide_eq_false e2
    obtain ⟨d, hd, W2⟩ := sub_opq (a := j) (b := i) (by omega) (by omega)
    obtain ⟨y0, hy0, W3⟩ := add_opq (a := m) (b := j) (by omega)
    obtain ⟨y, hy, W4⟩ := sub_opq (a := y0) (b := i) (by omega) (by omega)
    have HS := Lib.hid (swapW_any g cap x y i N wr HR.out (by omega) (by omega) hn v)
    unfold KeptW at HS
    have Hd := Lib.hid hd
    have Hs2 := Lib.hid (show 0 < i ∧ i ≤ m ∧ 0 < d ∧ m + d ≤ N by omega)
    clear hs hn hx hd he hy0 hy
    have w1 := W1.out
    have w2 := W2.out
    have w3 := W3.out
    have w4 := W4.out
    go_wp2_with fail
    refine HS.out.mono ?_
    rintro e w1 ⟨rfl, h1, h2⟩
    have H1' := Lib.hid h1
    clear h1
    go_wp2_with fail
    go_roundw
    case rel => exact ⟨i, d, rfl, by first | rfl | exact congrArg _ w2, Hs2, H1', hm.trans h2 (fun _ _ e => e)⟩
    case measure => have := Hd.out; have := Hs2.out; simp [intOf]; omega
end Go.Proofs.YthlmgoagnfkhdaaGreat

/- What gimletlaw0's Long answers. Conditions: at most 100 texts. -/
import Derived.Test.YtffplppglicibaaGimWeldP
import Derived.Test.YtffplppglicibaaGimDice
import Derived.Test.YtffplppglicibaaRows
namespace Go.Gim
open Go
/-- Have texts more than n bytes together, one for each of them too? -/
def longB (n : Int) : List ByteArray → Bool
  | [] => false
  | x :: r => if n ≤ x.size then true else longB (n - x.size - 1) r
theorem longB_no : ∀ (l : List ByteArray) (n : Int), longB n l = false → 0 ≤ n → ((join l).length : Int) + l.length ≤ n
  | [], n, _, h0 => by simpa [join] using h0
  | x :: r, n, h, h0 => by
    simp only [longB] at h
    split at h
    · cases h
    · rename_i hx
      have := longB_no r _ h (by omega)
      have e : x.data.toList.length = x.size := rfl
      rw [join_cons, List.length_append, List.length_cons, e]
      omega
end Go.Gim
namespace Go.Proofs.Ytffplppglicibaa
open Go.RowKit Go.Gim

set_option maxHeartbeats 1600000 in
set_option maxRecDepth 1000000 in
theorem long_some (n : Int) (b off cap : Nat) (ps : List ByteArray) (w : World) (hr : Reads w 1 (some ⟨b, off, none⟩) ps.length (ps.map Value.string)) (hn : ps.length ≤ 9223372036854775807) (h0 : -1000000 ≤ n) (h1 : n ≤ 1000000) :
    Calls Try.prog 19 #[.int .i64 n, .slice (some ⟨b, off, none⟩) ps.length cap] w fun e w' => e = .returned (.bool (longB n ps)) ∧ w' = w := by
  generalize hL : longB n ps = L
  have HL := Lib.hid hL
  have Hr := Lib.hid hr
  clear hL hr
  go_enter Try.func19, Try.ntmps19
  go_wp2_with fail
  go_loop [0, 5] (fun s1 s2 => ∃ (k : Nat) (m : Int), k ≤ ps.length ∧ -1000000 ≤ m ∧ m ≤ 1000000 ∧ s2 = .int .i64 k ∧ s1 = .int .i64 m ∧ Hid (longB m (ps.drop k) = L)) (fun _ s2 => ps.length - (intOf s2).toNat)
  case atStart => exact ⟨0, n, by omega, h0, h1, rfl, rfl, HL⟩
  case round =>
    obtain ⟨k, m, hk, m0, m1, rfl, rfl, HM⟩ := hrel
    by_cases hlt : k < ps.length
    · have hlt' : (k : Int) < (ps.length : Int) := by omega
      have hk0 : (0 : Int) ≤ (k : Int) := by omega
      have hc := Hr.out.at (j := k) (v := .string ps[k]) (by simp [hlt])
      have hd := List.drop_eq_getElem_cons hlt
      have hM := HM.out
      rw [hd] at hM
      generalize ps[k] = x at *
      simp only [longB] at hM
      by_cases hx : m ≤ (x.size : Int)
      · rw [if_pos hx] at hM
        have hM2 := Lib.hid hM
        clear hM hd
        go_wp2_with fail
        go_ret
        exact ⟨ret_bool hM2.out, rfl⟩
      · rw [if_neg hx] at hM
        have hx' : decide (m ≤ (x.size : Int)) = false := by simpa using hx
        have hM2 := Lib.hid hM
        clear hM hd
        go_wp2_with fail
        go_round
        case rel => exact ⟨k + 1, m - x.size - 1, by omega, by omega, by omega, by go_num, rfl, hM2⟩
        case measure => simp [intOf]; omega
    · have hlt' : ¬ (k : Int) < (ps.length : Int) := by omega
      have hM := HM.out
      rw [List.drop_of_length_le (by omega)] at hM
      have HM2 := Lib.hid hM
      clear hM
      go_wp2_with fail
      go_ret
      exact ⟨ret_bool HM2.out, rfl⟩
set_option maxHeartbeats 800000 in
set_option maxRecDepth 1000000 in
theorem long_empty (n : Int) (ao : Option Addr) (cap : Nat) (w : World) :
    Calls Try.prog 19 #[.int .i64 n, .slice ao 0 cap] w fun e w' => e = .returned (.bool false) ∧ w' = w := by
  go_enter Try.func19, Try.ntmps19
  go_wp2_with fail
  refine wp_loop_rounds 1 ?_
  rw [rounds_succ]
  go_wp2_with fail
  go_ret
  exact ⟨rfl, rfl⟩
theorem long_any (n : Int) (ao : Option Addr) (cap : Nat) (ps : List ByteArray) (w : World) (hr : Reads w 1 ao ps.length (ps.map Value.string)) (hn : ps.length ≤ 9223372036854775807) (h0 : -1000000 ≤ n) (h1 : n ≤ 1000000) :
    Calls Try.prog 19 #[.int .i64 n, .slice ao ps.length cap] w fun e w' => e = .returned (.bool (longB n ps)) ∧ w' = w := by
  by_cases hp : 0 < ps.length
  · obtain ⟨b, off, rfl⟩ := hr.some hp
    exact long_some n b off cap ps w hr hn h0 h1
  · obtain rfl : ps = [] := List.length_eq_zero_iff.1 (by omega)
    exact long_empty n ao cap w
end Go.Proofs.Ytffplppglicibaa

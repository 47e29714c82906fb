/- A dice tells how many of its numbers are left, at each time: the walk. Conditions: none. -/
import Derived.Test.YthfckncbhkcblaaGimDiceAwake
namespace Go.Proofs.Ythfckncbhkcblaa
open Go.RowKit Go.Gim

set_option maxHeartbeats 1600000 in
set_option maxRecDepth 1000000 in
theorem diceLeft_long (w : World) (ao : Option Addr) (len cap : Nat) (many : Int) (hl : 100 < len) (hm : len ≤ 9223372036854775807) :
    Calls Try.prog 4 #[.slice ao len cap, .int .i64 many] w fun e w' => e = .returned (.bool true) ∧ Ext w w' := by
  have hd : (100 : Int) < (len : Int) := by omega
  go_enter Try.func4, Try.ntmps4
  go_wp2_with fail
  refine (awake1_any _).mono ?_
  rintro e w' ⟨rfl, hx⟩
  go_wp2_with fail
  go_ret
  exact ⟨rfl, hx⟩

set_option maxHeartbeats 1600000 in
set_option maxRecDepth 1000000 in
theorem diceLeft_any (w : World) (ao : Option Addr) (cap : Nat) (zs : List Int) (many : Int) (hl : zs.length ≤ 100)
    (hr : Reads w 1 ao zs.length (zs.map (Value.int .u32))) :
    Calls Try.prog 4 #[.slice ao zs.length cap, .int .i64 many] w fun e w' => e = .returned (.bool true) ∧ Ext w w' := by
  have hd : ¬ ((100 : Int) < (zs.length : Int)) := by omega
  go_enter Try.func4, Try.ntmps4
  go_wp2_with fail
  refine (new_any _ _ _ zs (by omega) hr).mono ?_
  rintro e w1 ⟨d, sv, rfl, hD, hx, hd1, hs⟩
  go_wp2_with fail
  have hn := lowN_lt many 201 (by decide)
  go_loopw [6] (fun i wr => ∃ (k : Nat) (L : Int), k ≤ lowN many 201 ∧ i = .int .i64 k ∧ DiceAt wr ⟨d, sv, zs, min k zs.length, L⟩ ∧ Ext w wr) (fun i _ => lowN many 201 - (intOf i).toNat)
  case atStart => exact ⟨0, 0, Nat.zero_le _, rfl, by simpa using hD, hx⟩
  case round =>
    obtain ⟨k, L, hk, rfl, hDr, hxr⟩ := hrel
    have hleft : ∀ L, Dice.left ⟨d, sv, zs, min k zs.length, L⟩ = zs.length - k := fun L => by simp only [Dice.left]; omega
    have hif : (if ((zs.length : Int) - (k : Int)) < 0 then (0 : Int) else (zs.length : Int) - (k : Int)) = ((zs.length - k : Nat) : Int) := by split <;> omega
    by_cases hlt : k < lowN many 201
    · go_wp2_with (go_at_call 13; refine (low_any _ _ _ (by decide) (by decide)).mono ?_; rintro e w' ⟨rfl, rfl⟩)
      refine (left_at _ _ hDr).mono ?_
      rintro e w2 ⟨rfl, m, rfl⟩
      rw [hleft]
      clear hleft
      have hDr2 := hDr.drewN m
      go_wp2_with fail
      refine (next_at _ _ hDr2).mono ?_
      rintro e w2 ⟨rfl, hD2, hm2⟩
      go_wp2_with fail
      go_roundw
      case rel =>
        refine ⟨k + 1, (Dice.then ⟨d, sv, zs, min k zs.length, L⟩).last, by omega, by go_num, ?_, (hxr.drewN m).trans hm2 (fun i hi (e : i = d) => by omega)⟩
        have e : Dice.then ⟨d, sv, zs, min k zs.length, L⟩ = ⟨d, sv, zs, min (k + 1) zs.length, (Dice.then ⟨d, sv, zs, min k zs.length, L⟩).last⟩ := by
          by_cases hz : k < zs.length
          · have e1 : min (k + 1) zs.length = min k zs.length + 1 := by omega
            rw [e1]; simp [Dice.then, Nat.min_eq_left (Nat.le_of_lt hz), hz]
          · have e1 : min (k + 1) zs.length = min k zs.length := by omega
            rw [e1]; simp [Dice.then, Nat.min_eq_right (Nat.le_of_not_lt hz)]
        rw [e] at hD2
        exact hD2
      case measure => simp [intOf]; omega
    · have hk' : k = lowN many 201 := by omega
      subst hk'
      go_wp2_with (go_at_call 13; refine (low_any _ _ _ (by decide) (by decide)).mono ?_; rintro e w' ⟨rfl, rfl⟩)
      refine (left_at _ _ hDr).mono ?_
      rintro e w2 ⟨rfl, m, rfl⟩
      rw [hleft]
      clear hleft
      go_wp2_with (go_at_call 13; refine (low_any _ _ _ (by decide) (by decide)).mono ?_; rintro e w' ⟨rfl, rfl⟩)
      refine (awake1_any _).mono ?_
      rintro e w2 ⟨rfl, hx2⟩
      go_wp2_with fail
      go_ret
      exact ⟨rfl, (hxr.drewN m).ext_trans hx2⟩

theorem diceLeft_calls (w : World) (ao : Option Addr) (cap : Nat) (zs : List Int) (hr : Reads w 1 ao zs.length (zs.map (Value.int .u32))) (hm : zs.length ≤ maxLen) (_ : ∀ n ∈ zs, (Lit.int .u32 n).wf = true) (many : Int) (_ : (Lit.int .i64 many).wf = true) :
    Calls Try.prog 4 #[.slice ao zs.length cap, .int .i64 many] w fun e w' => e = .returned (.bool true) ∧ Ext w w' := by
  by_cases h : zs.length ≤ 100
  · exact diceLeft_any w ao cap zs many h hr
  · exact diceLeft_long w ao zs.length cap many (by omega) (by unfold maxLen at hm; omega)

end Go.Proofs.Ythfckncbhkcblaa

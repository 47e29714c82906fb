/- A dice tells its numbers, one behind the other, and behind them each from the one ahead of it: the walk. Conditions: none. -/
import Derived.Test.YthfckncbhkcblaaGimDiceAwake
namespace Go.Proofs.Ythfckncbhkcblaa
open Go.RowKit Go.Gim

set_option maxHeartbeats 1600000 in
set_option maxRecDepth 1000000 in
theorem diceTells_long (w : World) (ao : Option Addr) (len cap : Nat) (many : Int) (hl : 100 < len) (hm : len ≤ 9223372036854775807) :
    Calls Try.prog 3 #[.slice ao len cap, .int .i64 many] w fun e w' => e = .returned (.bool true) ∧ Ext w w' := by
  have hd : (100 : Int) < (len : Int) := by omega
  go_enter Try.func3, Try.ntmps3
  go_wp2_with fail
  refine (awake1_any _).mono ?_
  rintro e w' ⟨rfl, hx⟩
  go_wp2_with fail
  go_ret
  exact ⟨rfl, hx⟩

set_option maxHeartbeats 1600000 in
set_option maxRecDepth 1000000 in
theorem diceTells_any (w : World) (ao : Option Addr) (cap : Nat) (zs : List Int) (many : Int) (hl : zs.length ≤ 100)
    (hr : Reads w 1 ao zs.length (zs.map (Value.int .u32))) :
    Calls Try.prog 3 #[.slice ao zs.length cap, .int .i64 many] w fun e w' => e = .returned (.bool true) ∧ Ext w w' := by
  have hd : ¬ ((100 : Int) < (zs.length : Int)) := by omega
  go_enter Try.func3, Try.ntmps3
  go_wp2_with fail
  refine (new_any _ _ _ zs (by omega) hr).mono ?_
  rintro e w1 ⟨d, sv, rfl, hD, hx, hd1, hs⟩
  go_wp2_with fail
  have hn := lowN_lt many 201 (by decide)
  go_loopw [6, 7] (fun l i wr => ∃ (k : Nat) (L : Int), k ≤ lowN many 201 ∧ i = .int .i64 k ∧ l = .int .u32 L ∧ DiceAt wr ⟨d, sv, zs, min k zs.length, L⟩ ∧ Ext w wr) (fun _ i _ => lowN many 201 - (intOf i).toNat)
  case atStart => exact ⟨0, 0, Nat.zero_le _, rfl, rfl, by simpa using hD, hx⟩
  case round =>
    obtain ⟨k, L, hk, rfl, rfl, hDr, hxr⟩ := hrel
    by_cases hlt : k < lowN many 201
    · have hmd : ∀ w2 : World, Mod (· = d) wr w2 → Ext w w2 := fun w2 h => hxr.trans h (fun i hi (e : i = d) => by omega)
      by_cases hz : k < zs.length
      · obtain ⟨b, off, rfl, hc⟩ := hr.2 (by omega)
        have hc1 : wr.cell? ⟨b, off + k, none⟩ = some (.int .u32 (zs.getD k 0)) := by
          have hu : w.cell? ⟨b, off + k, none⟩ = some (.int .u32 (zs.getD k 0)) := by
            rw [hc k (by simpa using hz)]; simp [List.getD, hz]
          rw [hxr.cell (p := ⟨b, off + k, none⟩) (World.block_lt_of_cell? w _ hu) (fun f => f)]; exact hu
        clear hc hr
        have ht : Dice.tells ⟨d, sv, zs, min k zs.length, L⟩ = zs.getD k 0 := by simp [Dice.tells, Nat.min_eq_left (Nat.le_of_lt hz), hz]
        have hz' : (k : Int) < (zs.length : Int) := by omega
        go_wp2_with (go_at_call 13; refine (low_any _ _ _ (by decide) (by decide)).mono ?_; rintro e w' ⟨rfl, rfl⟩)
        refine (next_at _ _ hDr).mono ?_
        rintro e w2 ⟨rfl, hD2, hm2⟩
        rw [ht]
        clear ht
        go_wp2_with fail
        go_roundw
        case rel =>
          refine ⟨k + 1, zs.getD k 0, by omega, by go_num, by simp [hz], ?_, hmd _ hm2⟩
          have e : min (k + 1) zs.length = min k zs.length + 1 := by omega
          rw [e]
          simpa [Dice.then, Nat.min_eq_left (Nat.le_of_lt hz), hz] using hD2
        case measure => simp [intOf]; omega
      · have ht : Dice.tells ⟨d, sv, zs, min k zs.length, L⟩ = (L * 1664525 + 1013904223) % 4294967296 := by simp [Dice.tells, Nat.min_eq_right (Nat.le_of_not_lt hz), Dice.succ]
        have hz' : ¬ ((k : Int) < (zs.length : Int)) := by omega
        go_wp2_with (go_at_call 13; refine (low_any _ _ _ (by decide) (by decide)).mono ?_; rintro e w' ⟨rfl, rfl⟩)
        refine (next_at _ _ hDr).mono ?_
        rintro e w2 ⟨rfl, hD2, hm2⟩
        rw [ht]
        clear ht
        go_wp2_with fail
        go_roundw
        case rel =>
          refine ⟨k + 1, (L * 1664525 + 1013904223) % 4294967296, by omega, by go_num, rfl, ?_, hmd _ hm2⟩
          have e : min (k + 1) zs.length = min k zs.length := by omega
          rw [e]
          simpa [Dice.then, Nat.min_eq_right (Nat.le_of_not_lt hz), Dice.succ] using hD2
        case measure => simp [intOf]; omega
    · have hk' : k = lowN many 201 := by omega
      subst hk'
      go_wp2_with (go_at_call 13; refine (low_any _ _ _ (by decide) (by decide)).mono ?_; rintro e w' ⟨rfl, rfl⟩)
      refine (awake1_any _).mono ?_
      rintro e w2 ⟨rfl, hx2⟩
      go_wp2_with fail
      go_ret
      exact ⟨rfl, hxr.ext_trans hx2⟩

theorem diceTells_calls (w : World) (ao : Option Addr) (cap : Nat) (zs : List Int) (hr : Reads w 1 ao zs.length (zs.map (Value.int .u32))) (hm : zs.length ≤ maxLen) (_ : ∀ n ∈ zs, (Lit.int .u32 n).wf = true) (many : Int) (_ : (Lit.int .i64 many).wf = true) :
    Calls Try.prog 3 #[.slice ao zs.length cap, .int .i64 many] w fun e w' => e = .returned (.bool true) ∧ Ext w w' := by
  by_cases h : zs.length ≤ 100
  · exact diceTells_any w ao cap zs many h hr
  · exact diceTells_long w ao zs.length cap many (by omega) (by unfold maxLen at hm; omega)

end Go.Proofs.Ythfckncbhkcblaa

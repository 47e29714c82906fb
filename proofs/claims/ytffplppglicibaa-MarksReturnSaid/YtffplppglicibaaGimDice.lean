/- What package dice's functions compute: New, Next, Left, and what Low does. Conditions: at most 1000 numbers are handed in. -/
import Derived.Test.YtffplppglicibaaGimBase
import Derived.Test.YtffplppglicibaaRows
namespace Go.Proofs.Ytffplppglicibaa
open Go.RowKit Go.Gim

/-- A dice: its block, the slice of its numbers, the numbers, how many were told, the last one. -/
structure Dice where
  d : Nat
  sv : Value
  nums : List Int
  told : Nat
  last : Int

def Dice.succ (n : Int) : Int := (n * 1664525 + 1013904223) % 4294967296
def Dice.tells (D : Dice) : Int := if D.told < D.nums.length then D.nums.getD D.told 0 else Dice.succ D.last
def Dice.then (D : Dice) : Dice := if D.told < D.nums.length then { D with told := D.told + 1, last := D.nums.getD D.told 0 } else { D with last := Dice.succ D.last }

theorem Dice.tells_le {D : Dice} (h : ∀ n ∈ D.nums, n ≤ 4294967295) : D.tells ≤ 4294967295 := by
  unfold Dice.tells
  split
  · rename_i hk
    rw [show D.nums.getD D.told 0 = D.nums[D.told] from by simp [List.getD, hk]]
    exact h _ (List.getElem_mem hk)
  · unfold Dice.succ; omega

/-- Low: a number from 0 to below n. -/
def lowN (x : Int) (n : Nat) : Nat := (x % 18446744073709551616).toNat % n
theorem lowN_lt (x : Int) (n : Nat) (h : 0 < n) : lowN x n < n := Nat.mod_lt _ h
theorem lowN_eq (x : Int) (n : Nat) : (lowN x n : Int) = x % 18446744073709551616 % n := by
  unfold lowN
  rw [Int.natCast_emod, Int.toNat_of_nonneg (Int.emod_nonneg _ (by decide))]

theorem low_math (x n : Int) (h1 : 1 ≤ n) (h2 : n ≤ 1000000) : wrap64 ((IntKind.u64.wrap x).tmod n) = x % 18446744073709551616 % n := by
  have e : IntKind.u64.wrap x = x % 18446744073709551616 := by simp [IntKind.wrap, IntKind.bits, IntKind.signed]
  have h0 : 0 ≤ x % 18446744073709551616 := Int.emod_nonneg _ (by decide)
  rw [e, Int.tmod_eq_emod_of_nonneg h0]
  have ha := Int.emod_nonneg (x % 18446744073709551616) (show n ≠ 0 by omega)
  have hb := Int.emod_lt_of_pos (x % 18446744073709551616) (show 0 < n by omega)
  exact IntWalk.wrap64_in _ ⟨by omega, by omega⟩

set_option maxHeartbeats 800000 in
set_option maxRecDepth 1000000 in
theorem low_any (x n : Int) (w : World) (h1 : 1 ≤ n) (h2 : n ≤ 1000000) :
    Calls Try.prog 13 #[.int .i64 x, .int .i64 n] w fun e w' => e = .returned (.int .i64 (lowN x n.toNat)) ∧ w' = w := by
  have hb : (n == 0) = false := by simp; omega
  have hm := low_math x n h1 h2
  rw [lowN_eq, Int.toNat_of_nonneg (by omega)]
  have Hm := Lib.hid hm
  clear hm
  go_enter Try.func13, Try.ntmps13
  go_wp2
  go_ret
  exact ⟨ret_int Hm.out, rfl⟩

theorem Try.info128 : (Try.prog.info? 128).map (fun i => (i.zero, i.size, i.bytes)) = some (some (.int .u32 0), 1, 4) := by kernel_rfl

end Go.Proofs.Ytffplppglicibaa

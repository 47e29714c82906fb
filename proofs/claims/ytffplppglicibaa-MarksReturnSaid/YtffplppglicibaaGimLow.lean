/- gimletlaw0.Low, told by a number. Conditions: a bound of at most 1000000. -/
import Derived.Test.YtffplppglicibaaGimDice
namespace Go.Proofs.Ytffplppglicibaa
open Go.RowKit Go.Gim
theorem low_nat2 (x : Int) (n : Nat) (m : Int) (hm : m = n) (h1 : 1 ≤ n) (h2 : n ≤ 1000000) : ∃ p : Nat, p < n ∧ ∀ v, Calls Try.prog 13 #[.int .i64 x, .int .i64 m] v fun e w' => e = .returned (.int .i64 (p : Nat)) ∧ w' = v := by
  subst hm
  refine ⟨lowN x n, lowN_lt x n (by omega), fun v => ?_⟩
  have h := low_any x n v (by omega) (by omega)
  rwa [Int.toNat_natCast] at h
end Go.Proofs.Ytffplppglicibaa

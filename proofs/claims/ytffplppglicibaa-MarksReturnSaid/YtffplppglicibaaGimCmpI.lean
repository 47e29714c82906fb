/- How numbers are compared: cmp.Compare, cmp.Or. Conditions: none. -/
import Derived.Test.YtffplppglicibaaGimBase
import Derived.Test.YtffplppglicibaaGimSortP
import Derived.Test.YtffplppglicibaaGimLaw
namespace Go.Proofs.Ytffplppglicibaa
open Go.RowKit Go.Gim

set_option maxHeartbeats 800000 in
set_option maxRecDepth 1000000 in
theorem isNaN_any (x : Int) (w : World) : Calls Try.prog 85 #[.int .i64 x] w fun e w' => e = .returned (.bool false) ∧ w' = w := by
  go_enter Try.func85, Try.ntmps85
  go_wp2_with fail
  go_ret
  exact ⟨rfl, rfl⟩
def cmpI (x y : Int) : Int := if x < y then -1 else if y < x then 1 else 0
set_option maxHeartbeats 800000 in
set_option maxRecDepth 1000000 in
theorem compare_any (x y : Int) (w : World) : Calls Try.prog 75 #[.int .i64 x, .int .i64 y] w fun e w' => e = .returned (.int .i64 (cmpI x y)) ∧ w' = w := by
  unfold cmpI
  by_cases h : x < y
  · rw [if_pos h]
    go_enter Try.func75, Try.ntmps75
    go_wp2_with ((with_reducible refine (isNaN_any _ _).mono ?_); rintro e w1 ⟨rfl, rfl⟩)
    go_ret
    exact ⟨rfl, rfl⟩
  · rw [if_neg h]
    by_cases h2 : y < x
    · rw [if_pos h2]
      go_enter Try.func75, Try.ntmps75
      go_wp2_with ((with_reducible refine (isNaN_any _ _).mono ?_); rintro e w1 ⟨rfl, rfl⟩)
      go_ret
      exact ⟨rfl, rfl⟩
    · rw [if_neg h2]
      go_enter Try.func75, Try.ntmps75
      go_wp2_with ((with_reducible refine (isNaN_any _ _).mono ?_); rintro e w1 ⟨rfl, rfl⟩)
      go_ret
      exact ⟨rfl, rfl⟩

set_option maxHeartbeats 800000 in
set_option maxRecDepth 1000000 in
theorem or_two' (x y : Int) (b : Nat) (w : World) (h0 : w.cell? ⟨b, 0, none⟩ = some (.int .i64 x)) (h1 : w.cell? ⟨b, 1, none⟩ = some (.int .i64 y)) :
    Calls Try.prog 74 #[.slice (some ⟨b, 0, none⟩) 2 2] w fun e w' => e = .returned (.int .i64 (if x ≠ 0 then x else y)) ∧ w' = w := by
  by_cases hx : x = 0
  · subst hx
    by_cases hy : y = 0
    · subst hy
      go_enter Try.func74, Try.ntmps74
      go_wp2_with fail
      refine wp_loop_rounds 3 ?_
      rw [rounds_succ]
      go_wp2_with fail
      rw [rounds_succ]
      go_wp2_with fail
      rw [rounds_succ]
      go_wp2_with fail
      go_ret
      exact ⟨rfl, rfl⟩
    · have hy1 : (y == 0) = false := by simpa using hy
      have hy2 : (y != 0) = true := by simpa using hy
      go_enter Try.func74, Try.ntmps74
      go_wp2_with fail
      refine wp_loop_rounds 3 ?_
      rw [rounds_succ]
      go_wp2_with fail
      rw [rounds_succ]
      go_wp2_with fail
      go_ret
      exact ⟨rfl, rfl⟩
  · have hx1 : (x == 0) = false := by simpa using hx
    have hx2 : (x != 0) = true := by simpa using hx
    rw [if_pos hx]
    go_enter Try.func74, Try.ntmps74
    go_wp2_with fail
    refine wp_loop_rounds 3 ?_
    rw [rounds_succ]
    go_wp2_with fail
    go_ret
    exact ⟨rfl, rfl⟩

def orI (x y : Int) : Int := if x ≠ 0 then x else y
theorem or_two (x y : Int) (b : Nat) (w : World) (h0 : w.cell? ⟨b, 0, none⟩ = some (.int .i64 x)) (h1 : w.cell? ⟨b, 1, none⟩ = some (.int .i64 y)) :
    Calls Try.prog 74 #[.slice (some ⟨b, 0, none⟩) 2 2] w fun e w' => e = .returned (.int .i64 (orI x y)) ∧ w' = w := or_two' x y b w h0 h1

/-- Two stretches against each other: by where they begin, then by where they end. -/
def cmpB (x y : Int × Int) : Int := orI (cmpI x.1 y.1) (cmpI x.2 y.2)
theorem cmpB_less (x y : Int × Int) : decide (cmpB x y < 0) = lessB x y := by
  unfold cmpB orI cmpI lessB
  rw [Bool.eq_iff_iff, decide_eq_true_eq, decide_eq_true_eq]
  repeat' split
  all_goals omega

end Go.Proofs.Ytffplppglicibaa

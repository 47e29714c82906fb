/- The document's small functions on stretches and selections: Span, Less, Touch, May, of. Conditions: none. -/
import Derived.Test.YtmecdhbiinpepaaGimPackI
namespace Go.Proofs.Ytmecdhbiinpepaa
open Go.RowKit Go.Gim

set_option maxHeartbeats 800000 in
set_option maxRecDepth 1000000 in
theorem refSpan_any (x : Int × Int) (w : World) : Calls Try.prog 49 #[.agg #[.int .i64 x.1, .int .i64 x.2]] w fun e w' => e = .returned (.agg #[.int .i64 (spanI x).1, .int .i64 (spanI x).2]) ∧ Ext w w' := by
  obtain ⟨p, q⟩ := x
  simp only [spanI]
  by_cases h : p < q
  · rw [show min p q = p by omega, show max p q = q by omega]
    have h1 : ¬ q < p := by omega
    have h4 : ¬ q ≤ p := by omega
    have h5 : p ≤ q := by omega
    go_enter Try.func49, Try.ntmps49
    go_wp2_with fail
    go_returns
    exact ⟨rfl, ((Mod.refl _ w).alloc _).alloc _⟩
  · by_cases h0 : p = q
    · subst h0
      rw [show min p p = p by omega, show max p p = p by omega]
      have h1 : p ≤ p := Int.le_refl _
      have h2 : ¬ p < p := by omega
      go_enter Try.func49, Try.ntmps49
      go_wp2_with fail
      go_returns
      exact ⟨rfl, ((Mod.refl _ w).alloc _).alloc _⟩
    · have h1 : q < p := by omega
      have h2 : ¬ p ≤ q := by omega
      have h3 : q ≤ p := by omega
      rw [show min p q = q by omega, show max p q = p by omega]
      clear h h0
      go_enter Try.func49, Try.ntmps49
      go_wp2_with fail
      go_returns
      exact ⟨rfl, ((Mod.refl _ w).alloc _).alloc _⟩

set_option maxHeartbeats 800000 in
set_option maxRecDepth 1000000 in
theorem refTouch_any (x y : Int × Int) (w : World) : Calls Try.prog 99 #[.agg #[.int .i64 x.1, .int .i64 x.2], .agg #[.int .i64 y.1, .int .i64 y.2]] w fun e w' => e = .returned (.bool (touchB x y)) ∧ Ext w w' := by
  obtain ⟨a, b⟩ := x
  obtain ⟨c, d⟩ := y
  simp only [touchB]
  go_enter Try.func99, Try.ntmps99
  go_wp2_with fail
  all_goals
    go_ret
    exact ⟨ret_bool (by rw [decide_eq_decide]; omega), ((Mod.refl _ w).alloc _).alloc _⟩
set_option maxHeartbeats 800000 in
set_option maxRecDepth 1000000 in
theorem refMay_any (x : Int × Int) (n : Int) (w : World) : Calls Try.prog 79 #[.agg #[.int .i64 x.1, .int .i64 x.2], .int .i64 n] w fun e w' => e = .returned (.bool (mayB x n)) ∧ Ext w w' := by
  obtain ⟨p, q⟩ := x
  simp only [mayB]
  go_enter Try.func79, Try.ntmps79
  go_wp2_with fail
  all_goals
    go_ret
    exact ⟨ret_bool (by rw [Bool.eq_iff_iff]; simp; try omega), (Mod.refl _ w).alloc _⟩
set_option maxHeartbeats 800000 in
set_option maxRecDepth 1000000 in
theorem refLess_any (x y : Int × Int) (w : World) : Calls Try.prog 98 #[.agg #[.int .i64 x.1, .int .i64 x.2], .agg #[.int .i64 y.1, .int .i64 y.2]] w fun e w' => e = .returned (.bool (lessB x y)) ∧ Ext w w' := by
  obtain ⟨a, b⟩ := x
  obtain ⟨c, d⟩ := y
  simp only [lessB]
  by_cases h1 : a < c
  · rw [decide_eq_true (Or.inl h1)]
    go_enter Try.func98, Try.ntmps98
    go_wp2_with fail
    go_ret
    exact ⟨rfl, ((Mod.refl _ w).alloc _).alloc _⟩
  · by_cases h2 : a = c
    · have e1 : decide (a < c ∨ a = c ∧ b < d) = decide (b < d) := by rw [decide_eq_decide]; omega
      rw [e1]
      have b2 : (a == c) = true := by simpa using h2
      have b1 : decide (a < c) = false := decide_eq_false h1
      clear h1 h2 e1
      go_enter Try.func98, Try.ntmps98
      go_wp2_with fail
      go_ret
      exact ⟨rfl, ((Mod.refl _ w).alloc _).alloc _⟩
    · rw [decide_eq_false (by omega)]
      have b2 : (a == c) = false := by simpa using h2
      have b1 : decide (a < c) = false := decide_eq_false h1
      clear h1 h2
      go_enter Try.func98, Try.ntmps98
      go_wp2_with fail
      go_ret
      exact ⟨rfl, ((Mod.refl _ w).alloc _).alloc _⟩
def ofS (x : Int × Int) (back : Bool) : Int × Int := if back then (x.2, x.1) else (x.1, x.2)
set_option maxHeartbeats 800000 in
set_option maxRecDepth 1000000 in
theorem refOfS_any (x : Int × Int) (back : Bool) (w : World) : Calls Try.prog 100 #[.agg #[.int .i64 x.1, .int .i64 x.2], .bool back] w fun e w' => e = .returned (.agg #[.int .i64 (ofS x back).1, .int .i64 (ofS x back).2]) ∧ Ext w w' := by
  cases back with
  | true =>
    show Calls _ _ _ _ fun e w' => e = .returned (.agg #[.int .i64 x.2, .int .i64 x.1]) ∧ Ext w w'
    go_enter Try.func100, Try.ntmps100
    go_wp2_with fail
    go_returns
    exact ⟨rfl, ((Mod.refl _ w).alloc _).alloc _⟩
  | false =>
    show Calls _ _ _ _ fun e w' => e = .returned (.agg #[.int .i64 x.1, .int .i64 x.2]) ∧ Ext w w'
    go_enter Try.func100, Try.ntmps100
    go_wp2_with fail
    go_returns
    exact ⟨rfl, ((Mod.refl _ w).alloc _).alloc _⟩
end Go.Proofs.Ytmecdhbiinpepaa

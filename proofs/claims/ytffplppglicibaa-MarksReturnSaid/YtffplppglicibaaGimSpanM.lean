/- Small functions on stretches: May, Has, Within, Less, those of the program and the document's. Conditions: none. -/
import Derived.Test.YtffplppglicibaaGimMoveP
import Derived.Test.YtffplppglicibaaGimLaw
namespace Go.Gim
def mayS (x : Int × Int) (n : Int) : Bool := decide (0 ≤ x.1 ∧ x.1 ≤ x.2 ∧ x.2 ≤ n)
def hasS (x : Int × Int) (o : Int) : Bool := decide (x.1 ≤ o ∧ o ≤ x.2)
def withinS (x y : Int × Int) : Bool := decide (y.1 ≤ x.1 ∧ x.2 ≤ y.2)
end Go.Gim
namespace Go.Proofs.Ytffplppglicibaa
open Go.RowKit Go.Gim

set_option maxHeartbeats 800000 in
set_option maxRecDepth 1000000 in
theorem spMay_any (x : Int × Int) (n : Int) (w : World) : Calls Try.prog 31 #[.agg #[.int .i64 x.1, .int .i64 x.2], .int .i64 n] w fun e w' => e = .returned (.bool (mayS x n)) ∧ Ext w w' := by
  obtain ⟨p, q⟩ := x
  simp only [mayS]
  go_enter Try.func31, Try.ntmps31
  go_wp2_with fail
  all_goals
    go_ret
    exact ⟨ret_bool (by rw [Bool.eq_iff_iff]; simp; try omega), (Mod.refl _ w).alloc _⟩
set_option maxHeartbeats 800000 in
set_option maxRecDepth 1000000 in
theorem spHas_any (x : Int × Int) (n : Int) (w : World) : Calls Try.prog 50 #[.agg #[.int .i64 x.1, .int .i64 x.2], .int .i64 n] w fun e w' => e = .returned (.bool (hasS x n)) ∧ Ext w w' := by
  obtain ⟨p, q⟩ := x
  simp only [hasS]
  go_enter Try.func50, Try.ntmps50
  go_wp2_with fail
  all_goals
    go_ret
    exact ⟨ret_bool (by rw [Bool.eq_iff_iff]; simp; try omega), (Mod.refl _ w).alloc _⟩
set_option maxHeartbeats 800000 in
set_option maxRecDepth 1000000 in
theorem spWithin_any (x y : Int × Int) (w : World) : Calls Try.prog 32 #[.agg #[.int .i64 x.1, .int .i64 x.2], .agg #[.int .i64 y.1, .int .i64 y.2]] w fun e w' => e = .returned (.bool (withinS x y)) ∧ Ext w w' := by
  obtain ⟨p, q⟩ := x
  obtain ⟨r, s⟩ := y
  simp only [withinS]
  go_enter Try.func32, Try.ntmps32
  go_wp2_with fail
  all_goals
    go_ret
    exact ⟨ret_bool (by rw [Bool.eq_iff_iff]; simp; try omega), ((Mod.refl _ w).alloc _).alloc _⟩
set_option maxHeartbeats 800000 in
set_option maxRecDepth 1000000 in
theorem rfMay_any (x : Int × Int) (n : Int) (w : World) : Calls Try.prog 62 #[.agg #[.int .i64 x.1, .int .i64 x.2], .int .i64 n] w fun e w' => e = .returned (.bool (mayS x n)) ∧ Ext w w' := by
  obtain ⟨p, q⟩ := x
  simp only [mayS]
  go_enter Try.func62, Try.ntmps62
  go_wp2_with fail
  all_goals
    go_ret
    exact ⟨ret_bool (by rw [Bool.eq_iff_iff]; simp; try omega), (Mod.refl _ w).alloc _⟩
set_option maxHeartbeats 800000 in
set_option maxRecDepth 1000000 in
theorem rfHas_any (x : Int × Int) (n : Int) (w : World) : Calls Try.prog 68 #[.agg #[.int .i64 x.1, .int .i64 x.2], .int .i64 n] w fun e w' => e = .returned (.bool (hasS x n)) ∧ Ext w w' := by
  obtain ⟨p, q⟩ := x
  simp only [hasS]
  go_enter Try.func68, Try.ntmps68
  go_wp2_with fail
  all_goals
    go_ret
    exact ⟨ret_bool (by rw [Bool.eq_iff_iff]; simp; try omega), (Mod.refl _ w).alloc _⟩
set_option maxHeartbeats 800000 in
set_option maxRecDepth 1000000 in
theorem rfWithin_any (x y : Int × Int) (w : World) : Calls Try.prog 64 #[.agg #[.int .i64 x.1, .int .i64 x.2], .agg #[.int .i64 y.1, .int .i64 y.2]] w fun e w' => e = .returned (.bool (withinS x y)) ∧ Ext w w' := by
  obtain ⟨p, q⟩ := x
  obtain ⟨r, s⟩ := y
  simp only [withinS]
  go_enter Try.func64, Try.ntmps64
  go_wp2_with fail
  all_goals
    go_ret
    exact ⟨ret_bool (by rw [Bool.eq_iff_iff]; simp; try omega), ((Mod.refl _ w).alloc _).alloc _⟩
set_option maxHeartbeats 800000 in
set_option maxRecDepth 1000000 in
theorem rfLess_any (x y : Int × Int) (w : World) : Calls Try.prog 100 #[.agg #[.int .i64 x.1, .int .i64 x.2], .agg #[.int .i64 y.1, .int .i64 y.2]] w fun e w' => e = .returned (.bool (lessB x y)) ∧ Ext w w' := by
  obtain ⟨a, b⟩ := x
  obtain ⟨c, d⟩ := y
  simp only [lessB]
  by_cases h1 : a < c
  · rw [decide_eq_true (Or.inl h1)]
    go_enter Try.func100, Try.ntmps100
    go_wp2_with fail
    go_ret
    exact ⟨rfl, ((Mod.refl _ w).alloc _).alloc _⟩
  · by_cases h2 : a = c
    · have e1 : decide (a < c ∨ a = c ∧ b < d) = decide (b < d) := by rw [decide_eq_decide]; omega
      rw [e1]
      have b2 : (a == c) = true := by simpa using h2
      have b1 : decide (a < c) = false := decide_eq_false h1
      clear h1 h2 e1
      go_enter Try.func100, Try.ntmps100
      go_wp2_with fail
      go_ret
      exact ⟨rfl, ((Mod.refl _ w).alloc _).alloc _⟩
    · rw [decide_eq_false (by omega)]
      have b2 : (a == c) = false := by simpa using h2
      have b1 : decide (a < c) = false := decide_eq_false h1
      clear h1 h2
      go_enter Try.func100, Try.ntmps100
      go_wp2_with fail
      go_ret
      exact ⟨rfl, ((Mod.refl _ w).alloc _).alloc _⟩
theorem rfLess4_any (a b c d : Int) (w : World) : Calls Try.prog 100 #[.agg #[.int .i64 a, .int .i64 b], .agg #[.int .i64 c, .int .i64 d]] w fun e w' => e = .returned (.bool (lessB (a, b) (c, d))) ∧ Ext w w' := rfLess_any (a, b) (c, d) w
end Go.Proofs.Ytffplppglicibaa

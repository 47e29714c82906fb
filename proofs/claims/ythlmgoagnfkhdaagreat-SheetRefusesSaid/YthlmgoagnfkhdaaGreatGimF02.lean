/- Where lines begin and end in a list of bytes: plain facts. Conditions: none. -/
import Derived.Test.YthlmgoagnfkhdaaGreatGimF01
set_option maxHeartbeats 6400000
set_option maxRecDepth 1000000
set_option linter.unusedVariables false
set_option linter.unusedSimpArgs false
namespace Go.Gim
def sts (k : Nat) : List UInt8 → List Nat
 | [] => []
 | c :: r => if c == 10 then (k + 1) :: sts (k + 1) r else sts (k + 1) r
def lineN (l : List UInt8) (line : Nat) : Nat := if line = 0 then 0 else upto 3 l (line - 1) + 1
def lineE (l : List UInt8) (line : Nat) : Nat := upto 3 l line
theorem brk_nil : brk [] = 0 := rfl
theorem brk_cons (c : UInt8) (r : List UInt8) : brk (c :: r) = brk r + if c == 10 then 1 else 0 := by simp [brk, List.countP_cons]
theorem byW3 (l : List UInt8) : byW 3 l = brk l := rfl
theorem byW3_one (c : UInt8) : byW 3 [c] = if c == 10 then 1 else 0 := by rw [byW3, brk_cons]; simp [brk_nil]
theorem sts_at (l : List UInt8) : ∀ (k j : Nat), j < brk l → (sts k l)[j]? = some (k + upto 3 l j + 1) := by
 induction l with
 | nil => intro k j h; simp [brk_nil] at h
 | cons c r ih =>
  intro k j h
  rw [brk_cons] at h
  simp only [sts, upto, byW3_one]
  by_cases hc : (c == 10) = true
  ·simp only [hc, if_true] at h ⊢
   cases j with
   | zero => simp
   | succ j =>
    rw [List.getElem?_cons_succ, ih _ _ (by omega), if_neg (by omega)]
    simp; omega
  ·simp only [hc, Bool.false_eq_true, if_false, Nat.add_zero] at h ⊢
   rw [ih _ _ h, if_neg (by omega)]
   simp; omega
theorem lineE_le (l : List UInt8) (j : Nat) : lineE l j ≤ l.length := upto_le 3 l j
theorem lineN_pos (l : List UInt8) (j : Nat) (h : j < brk l) : 0 < lineN l (j + 1) ∧ lineN l (j + 1) ≤ l.length := by
 have h1 := sts_at l 0 j h
 refine ⟨by simp [lineN], ?_⟩
 simp only [lineN]
 rw [if_neg (by omega)]
 have : ∀ (l : List UInt8) (j : Nat), j < brk l → upto 3 l j < l.length := by
  intro l
  induction l with
  | nil => intro j h; simp [brk_nil] at h
  | cons c r ih =>
   intro j h
   rw [brk_cons] at h
   simp only [upto, byW3_one, List.length_cons]
   by_cases hc : (c == 10) = true
   ·simp only [hc, if_true] at h ⊢
    split
    ·omega
    ·have := ih (j - 1) (by omega); omega
   ·simp only [hc, Bool.false_eq_true, if_false, Nat.add_zero, Nat.sub_zero] at h ⊢
    rw [if_neg (by omega)]
    have := ih j h; omega
 have := this l j h
 rw [Nat.add_sub_cancel]
 omega
theorem lineN_le (l : List UInt8) (f : Nat) : lineN l (brk (l.take f)) ≤ f := by
 cases hb : brk (l.take f) with
 | zero => simp [lineN]
 | succ j =>
  have e : l = l.take f ++ l.drop f := (List.take_append_drop f l).symm
  have h1 := lineN_pos (l.take f) j (by omega)
  have h2 : lineN l (j + 1) = lineN (l.take f) (j + 1) := by
   simp only [lineN]
   rw [if_neg (by omega), if_neg (by omega)]
   congr 1
   conv => lhs; rw [e]
   exact upto_append_lt 3 _ _ _ (by rw [byW3]; simp; omega)
  rw [h2]
  have := List.length_take_le f l
  omega
end Go.Gim

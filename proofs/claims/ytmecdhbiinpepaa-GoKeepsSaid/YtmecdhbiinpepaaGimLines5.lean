/- What package lines computes of a rope's text: Indent. Conditions: a rope of at most 65536 bytes. -/
import Derived.Test.YtmecdhbiinpepaaGimLines4
namespace Go.Gim
theorem upto3_lt (l : List UInt8) : ∀ j, j + 1 ≤ brk l → upto 3 l j < upto 3 l (j + 1) := by
  induction l with
  | nil => intro j h; simp [brk_nil] at h
  | cons c r ih =>
    intro j h
    rw [brk_cons] at h
    simp only [upto, byW3_one]
    by_cases hc : (c == 10) = true
    · simp only [hc, if_true] at h ⊢
      cases j with
      | zero => simp; omega
      | succ j =>
        rw [if_neg (by omega), if_neg (by omega)]
        have := ih j (by omega)
        simp only [Nat.add_sub_cancel]; omega
    · simp only [hc, Bool.false_eq_true, if_false, Nat.add_zero, Nat.sub_zero] at h ⊢
      rw [if_neg (by omega), if_neg (by omega)]
      have := ih j h; omega
theorem lineN_lineE (l : List UInt8) (j : Nat) (h : j ≤ brk l) : lineN l j ≤ lineE l j := by
  cases j with
  | zero => simp [lineN]
  | succ j =>
    have := upto3_lt l j h
    simp only [lineN, lineE]
    rw [if_neg (by omega), Nat.add_sub_cancel]; omega
theorem blanks_nil : blanks [] = [] := rfl
theorem blanks_yes (c : UInt8) (r : List UInt8) (h : c.toNat = 32 ∨ c.toNat = 9) : blanks (c :: r) = c :: blanks r := by
  have : (c == 32 || c == 9) = true := by
    rcases h with h | h
    · have : c = 32 := UInt8.toNat_inj.1 h
      subst this; rfl
    · have : c = 9 := UInt8.toNat_inj.1 h
      subst this; rfl
  simp [blanks, this]
theorem blanks_no (c : UInt8) (r : List UInt8) (h : ¬ c.toNat = 32) (h2 : ¬ c.toNat = 9) : blanks (c :: r) = [] := by
  have : (c == 32 || c == 9) = false := by
    simp only [Bool.or_eq_false_iff, beq_eq_false_iff_ne]
    exact ⟨fun e => h (by rw [e]; rfl), fun e => h2 (by rw [e]; rfl)⟩
  simp [blanks, this]
end Go.Gim
namespace Go.Proofs.Ytmecdhbiinpepaa
open Go.RowKit Go.Gim

def IndentPost (l : List UInt8) (line : Nat) (w : World) (e : Ending) (w' : World) : Prop := e = .returned (.tuple #[.string (bs (blanks (cut l (lineN l line) (lineE l line)))), .int .i64 0]) ∧ Ext w w'

end Go.Proofs.Ytmecdhbiinpepaa

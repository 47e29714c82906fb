/- Turning a list round by exchanges, plain. Conditions: none. -/
import Derived.Test.YtffplppglicibaaGimMoveP
namespace Go.Gim
section
variable {α : Type}
/-- The k first ones exchanged with the k last ones. -/
def revTo (l : List α) : Nat → List α
  | 0 => l
  | k + 1 =>
    match (revTo l k)[k]?, (revTo l k)[l.length - 1 - k]? with
    | some x, some y => ((revTo l k).set k y).set (l.length - 1 - k) x
    | _, _ => revTo l k
theorem revTo_len (l : List α) (k : Nat) : (revTo l k).length = l.length := by
  induction k with
  | zero => rfl
  | succ k ih =>
    unfold revTo
    split
    · rw [List.length_set, List.length_set, ih]
    · exact ih
theorem revTo_step {l : List α} {k : Nat} {x y : α} (hx : (revTo l k)[k]? = some x) (hy : (revTo l k)[l.length - 1 - k]? = some y) : revTo l (k + 1) = ((revTo l k).set k y).set (l.length - 1 - k) x := by
  rw [revTo.eq_2, hx, hy]
theorem revTo_at (l : List α) : ∀ (k : Nat), 2 * k ≤ l.length → ∀ i, i < l.length → (revTo l k)[i]? = if i < k ∨ l.length ≤ i + k then l[l.length - 1 - i]? else l[i]? := by
  intro k
  induction k with
  | zero => intro _ i hi; rw [if_neg (by omega)]; rfl
  | succ k ih =>
    intro hk i hi
    have e1 := ih (by omega) k (by omega)
    have e2 := ih (by omega) (l.length - 1 - k) (by omega)
    rw [if_neg (by omega)] at e1 e2
    rw [List.getElem?_eq_getElem (l := l) (show k < l.length by omega)] at e1
    rw [List.getElem?_eq_getElem (l := l) (show l.length - 1 - k < l.length by omega)] at e2
    have hl := revTo_len l k
    rw [revTo_step e1 e2]
    by_cases c1 : i = l.length - 1 - k
    · subst c1
      rw [List.getElem?_set_self (by rw [List.length_set, hl]; omega), if_pos (by omega), show l.length - 1 - (l.length - 1 - k) = k by omega, List.getElem?_eq_getElem (l := l) (show k < l.length by omega)]
    · rw [List.getElem?_set_ne (by omega)]
      by_cases c2 : i = k
      · subst c2
        rw [List.getElem?_set_self (by rw [hl]; omega), if_pos (by omega), List.getElem?_eq_getElem (l := l) (show l.length - 1 - i < l.length by omega)]
      · rw [List.getElem?_set_ne (by omega), ih (by omega) i hi]
        by_cases c3 : i < k ∨ l.length ≤ i + k
        · rw [if_pos c3, if_pos (by omega)]
        · rw [if_neg c3, if_neg (by omega)]
theorem revTo_all (l : List α) {k : Nat} (h1 : 2 * k ≤ l.length) (h2 : l.length ≤ 2 * k + 1) : revTo l k = l.reverse := by
  apply List.ext_getElem?
  intro i
  by_cases hi : i < l.length
  · rw [revTo_at l k h1 i hi, List.getElem?_reverse hi]
    by_cases c : i < k ∨ l.length ≤ i + k
    · rw [if_pos c]
    · rw [if_neg c, show l.length - 1 - i = i by omega]
  · rw [List.getElem?_eq_none (by rw [revTo_len]; omega), List.getElem?_eq_none (by simp; omega)]
end
/-- An edit that may be. -/
def EdOk (e : Ed) : Prop := 0 ≤ e.a ∧ e.a ≤ e.b ∧ e.b ≤ 65536 ∧ e.t.size ≤ 100000
theorem oneE_bd {right : Bool} {o : Int} {e : Ed} {m : Int} (he : EdOk e) (h0 : 0 ≤ o) (h1 : o ≤ m) (_ : 65536 ≤ m) : 0 ≤ oneE right o e ∧ oneE right o e ≤ m + 100000 := by
  obtain ⟨e1, e2, e3, e4⟩ := he
  unfold oneE
  split
  · omega
  · split
    · omega
    · split <;> omega
end Go.Gim

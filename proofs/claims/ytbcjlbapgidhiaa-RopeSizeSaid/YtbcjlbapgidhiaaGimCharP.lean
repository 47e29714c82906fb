/- Plain facts on characters of byte strings: where one ends, a text's characters and their places; no program in sight. Conditions: none. -/
import Derived.WalkKit
namespace Go.Gim

/-- Is a byte not the first one of a proper character? -/
def inB (c : UInt8) : Bool := decide (128 ≤ c.toNat ∧ c.toNat ≤ 191)
/-- How many bytes of those that are not first stand at the beginning. -/
def cont (l : List UInt8) : Nat := (l.takeWhile inB).length
/-- Where the character that begins at a place ends. -/
def endN (l : List UInt8) (a : Nat) : Nat := a + 1 + cont (l.drop (a + 1))
def bs (l : List UInt8) : ByteArray := ⟨l.toArray⟩

theorem bs_toList (l : List UInt8) : (bs l).data.toList = l := rfl
theorem bs_size (l : List UInt8) : (bs l).size = l.length := rfl
theorem bs_of (s : ByteArray) : bs s.data.toList = s := rfl
theorem toList_length (s : ByteArray) : s.data.toList.length = s.size := rfl
theorem toList_get (s : ByteArray) (k : Nat) (h : k < s.size) : s.data.toList[k]'(by rw [toList_length]; exact h) = s[k] := rfl

theorem cont_drop (l : List UInt8) (k : Nat) (h : k < l.length) : cont (l.drop k) = if inB l[k] then cont (l.drop (k + 1)) + 1 else 0 := by
  rw [List.drop_eq_getElem_cons h]
  simp only [cont, List.takeWhile_cons]
  split <;> simp
theorem cont_over (l : List UInt8) (k : Nat) (h : l.length ≤ k) : cont (l.drop k) = 0 := by rw [List.drop_of_length_le h]; rfl
theorem cont_le (l : List UInt8) : cont l ≤ l.length := (List.takeWhile_prefix _).length_le

theorem endN_gt (l : List UInt8) (a : Nat) : a < endN l a := by unfold endN; omega
theorem endN_le (l : List UInt8) (a : Nat) (h : a < l.length) : endN l a ≤ l.length := by
  have := cont_le (l.drop (a + 1)); rw [List.length_drop] at this; unfold endN; omega

theorem cont_in (l : List UInt8) (j : Nat) (h : j < cont l) (hj : j < l.length) : inB l[j] = true := by
  induction l generalizing j with
  | nil => simp at hj
  | cons x r ih =>
    by_cases hx : inB x
    · have e : cont (x :: r) = cont r + 1 := by simp [cont, hx]
      cases j with
      | zero => simpa using hx
      | succ j => simpa using ih j (by omega) (by simpa using hj)
    · have e : cont (x :: r) = 0 := by simp [cont, hx]
      omega
theorem cont_stop (l : List UInt8) (h : cont l < l.length) : inB l[cont l] = false := by
  induction l with
  | nil => simp at h
  | cons x r ih =>
    by_cases hx : inB x
    · have e : cont (x :: r) = cont r + 1 := by simp [cont, hx]
      simp only [e, List.getElem_cons_succ]
      exact ih (by rw [e] at h; simpa using h)
    · have e : cont (x :: r) = 0 := by simp [cont, hx]
      simp only [e, List.getElem_cons_zero]
      simpa using hx

theorem endN_in (l : List UInt8) (a j : Nat) (h1 : a < j) (h2 : j < endN l a) (hj : j < l.length) : inB l[j] = true := by
  unfold endN at h2
  have h3 := cont_in (l.drop (a + 1)) (j - (a + 1)) (by omega) (by rw [List.length_drop]; omega)
  rw [List.getElem_drop] at h3
  have e : a + 1 + (j - (a + 1)) = j := by omega
  simpa [e] using h3
theorem endN_stop (l : List UInt8) (a : Nat) (h : endN l a < l.length) : inB l[endN l a] = false := by
  have h3 := cont_stop (l.drop (a + 1)) (by rw [List.length_drop]; unfold endN at h; omega)
  rw [List.getElem_drop] at h3
  exact h3
/-- What it is told by. -/
theorem endN_eq (l : List UInt8) (a i : Nat) (h1 : a < i) (h2 : i ≤ l.length) (h3 : ∀ j (hj : j < l.length), a < j → j < i → inB l[j] = true) (h4 : ∀ hi : i < l.length, inB l[i] = false) : endN l a = i := by
  rcases Nat.lt_trichotomy (endN l a) i with h | h | h
  · have := h3 (endN l a) (by omega) (endN_gt l a) h
    rw [endN_stop l a (by omega)] at this; cases this
  · exact h
  · have hi : i < l.length := by
      rcases Nat.lt_or_ge i l.length with h' | h'
      · exact h'
      · have := endN_le l a (by omega); omega
    have := endN_in l a i h1 h hi
    rw [h4 hi] at this; cases this

/-- The characters behind a place, the places behind it. -/
def charsF (l : List UInt8) : Nat → Nat → List (List UInt8)
  | 0, _ => []
  | f + 1, a => if a < l.length then (l.drop a).take (endN l a - a) :: charsF l f (endN l a) else []
def placesF (l : List UInt8) : Nat → Nat → List Nat
  | 0, _ => []
  | f + 1, a => if a < l.length then endN l a :: placesF l f (endN l a) else []
def charsAt (l : List UInt8) (a : Nat) : List (List UInt8) := charsF l (l.length - a) a
def placesAt (l : List UInt8) (a : Nat) : List Nat := placesF l (l.length - a) a

theorem charsF_fuel (l : List UInt8) : ∀ (f g a : Nat), l.length - a ≤ f → l.length - a ≤ g → charsF l f a = charsF l g a
  | 0, 0, _, _, _ => rfl
  | 0, g + 1, a, h, _ => by simp [charsF, show ¬ a < l.length by omega]
  | f + 1, 0, a, _, h => by simp [charsF, show ¬ a < l.length by omega]
  | f + 1, g + 1, a, h1, h2 => by
    simp only [charsF]
    split
    · have := endN_gt l a
      rw [charsF_fuel l f g (endN l a) (by omega) (by omega)]
    · rfl
theorem placesF_fuel (l : List UInt8) : ∀ (f g a : Nat), l.length - a ≤ f → l.length - a ≤ g → placesF l f a = placesF l g a
  | 0, 0, _, _, _ => rfl
  | 0, g + 1, a, h, _ => by simp [placesF, show ¬ a < l.length by omega]
  | f + 1, 0, a, _, h => by simp [placesF, show ¬ a < l.length by omega]
  | f + 1, g + 1, a, h1, h2 => by
    simp only [placesF]
    split
    · have := endN_gt l a
      rw [placesF_fuel l f g (endN l a) (by omega) (by omega)]
    · rfl

theorem charsAt_step (l : List UInt8) (a : Nat) (h : a < l.length) : charsAt l a = (l.drop a).take (endN l a - a) :: charsAt l (endN l a) := by
  obtain ⟨f, hf⟩ : ∃ f, l.length - a = f + 1 := ⟨l.length - a - 1, by omega⟩
  have := endN_gt l a
  unfold charsAt
  rw [hf]
  simp only [charsF, if_pos h]
  rw [charsF_fuel l f (l.length - endN l a) _ (by omega) (Nat.le_refl _)]
theorem charsAt_end (l : List UInt8) (a : Nat) (h : l.length ≤ a) : charsAt l a = [] := by
  unfold charsAt; rw [show l.length - a = 0 by omega]; rfl
theorem placesAt_step (l : List UInt8) (a : Nat) (h : a < l.length) : placesAt l a = endN l a :: placesAt l (endN l a) := by
  obtain ⟨f, hf⟩ : ∃ f, l.length - a = f + 1 := ⟨l.length - a - 1, by omega⟩
  have := endN_gt l a
  unfold placesAt
  rw [hf]
  simp only [placesF, if_pos h]
  rw [placesF_fuel l f (l.length - endN l a) _ (by omega) (Nat.le_refl _)]
theorem placesAt_end (l : List UInt8) (a : Nat) (h : l.length ≤ a) : placesAt l a = [] := by
  unfold placesAt; rw [show l.length - a = 0 by omega]; rfl

theorem charsF_len (l : List UInt8) : ∀ (f a : Nat), (charsF l f a).length ≤ f
  | 0, _ => by simp [charsF]
  | f + 1, a => by
    simp only [charsF]
    split
    · have := charsF_len l f (endN l a); simp; omega
    · simp
theorem placesF_len (l : List UInt8) : ∀ (f a : Nat), (placesF l f a).length ≤ f
  | 0, _ => by simp [placesF]
  | f + 1, a => by
    simp only [placesF]
    split
    · have := placesF_len l f (endN l a); simp; omega
    · simp
theorem charsAt_len (l : List UInt8) (a : Nat) : (charsAt l a).length ≤ l.length - a := charsF_len _ _ _
theorem placesAt_len (l : List UInt8) (a : Nat) : (placesAt l a).length ≤ l.length - a := placesF_len _ _ _

theorem extract_bs (s : ByteArray) (a b : Nat) : s.extract a b = bs ((s.data.toList.drop a).take (b - a)) := by
  apply ByteArray.ext
  rw [ByteArray.data_extract]
  apply Array.ext'
  simp [bs, List.extract_eq_take_drop]

end Go.Gim

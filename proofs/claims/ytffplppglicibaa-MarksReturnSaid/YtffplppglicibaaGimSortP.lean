/- Sorting by insertion, plain: the exchange of neighbours downwards is the insertion into what is sorted; selections, in order and put together. Conditions: none. -/
import Derived.WalkKit
namespace Go.Gim

section
variable {α : Type} (less : α → α → Bool)

/-- The element at place j goes down as long as it is less than the one ahead of it. -/
def sink (l : List α) : Nat → List α
  | 0 => l
  | j + 1 =>
    match l[j + 1]?, l[j]? with
    | some x, some y => if less x y then sink ((l.set (j + 1) y).set j x) j else l
    | _, _ => l
/-- The first k elements, one behind the other. -/
def isort (l : List α) : Nat → List α
  | 0 => l
  | k + 1 => sink less (isort l k) k
/-- The place of an element among the first k. -/
def place (x : α) (out : List α) : Nat → Nat
  | 0 => 0
  | k + 1 =>
    match out[k]? with
    | some y => if less x y then place x out k else k + 1
    | none => k + 1
def insR (out : List α) (x : α) : List α := out.take (place less x out out.length) ++ x :: out.drop (place less x out out.length)
/-- All inserted, one behind the other. -/
def sorted (l : List α) : List α := l.foldl (insR less) []

theorem sink_length (l : List α) (j : Nat) : (sink less l j).length = l.length := by
  induction j generalizing l with
  | zero => rfl
  | succ j ih =>
    unfold sink
    split
    · split
      · rw [ih]; simp
      · rfl
    · rfl
theorem isort_length (l : List α) (k : Nat) : (isort less l k).length = l.length := by
  induction k with
  | zero => rfl
  | succ k ih => unfold isort; rw [sink_length, ih]
theorem isort_one (l : List α) : isort less l 1 = l := rfl
theorem sink_yes {l : List α} {j : Nat} {x y : α} (h1 : l[j + 1]? = some x) (h2 : l[j]? = some y) (h : less x y = true) : sink less l (j + 1) = sink less ((l.set (j + 1) y).set j x) j := by
  rw [sink.eq_2, h1, h2]; simp only [h, if_true]
theorem sink_no {l : List α} {j : Nat} {x y : α} (h1 : l[j + 1]? = some x) (h2 : l[j]? = some y) (h : less x y = false) : sink less l (j + 1) = l := by
  rw [sink.eq_2, h1, h2]; simp only [h]; rfl

theorem place_le (x : α) (out : List α) (k : Nat) : place less x out k ≤ k := by
  induction k with
  | zero => exact Nat.le_refl _
  | succ k ih =>
    unfold place
    split
    · split <;> omega
    · exact Nat.le_refl _
theorem insR_length (out : List α) (x : α) : (insR less out x).length = out.length + 1 := by
  have := place_le less x out out.length
  unfold insR; simp; omega

theorem sink_at (x : α) (out rest : List α) (j : Nat) (hj : j ≤ out.length) :
    sink less (out.take j ++ x :: (out.drop j ++ rest)) j = out.take (place less x out j) ++ x :: (out.drop (place less x out j) ++ rest) := by
  induction j with
  | zero => rfl
  | succ j ih =>
    have hlt : j < out.length := by omega
    have e1 : (out.take (j + 1) ++ x :: (out.drop (j + 1) ++ rest))[j + 1]? = some x := by
      rw [List.getElem?_append_right (by simp; omega)]
      simp [Nat.min_eq_left hj]
    have e2 : (out.take (j + 1) ++ x :: (out.drop (j + 1) ++ rest))[j]? = some out[j] := by
      rw [List.getElem?_append_left (by simp; omega)]
      simp
    have e3 : ((out.take (j + 1) ++ x :: (out.drop (j + 1) ++ rest)).set (j + 1) out[j]).set j x = out.take j ++ x :: (out.drop j ++ rest) := by
      rw [List.take_succ_eq_append_getElem hlt, List.append_assoc, List.set_append_right _ _ (by simp; omega), List.set_append_right _ _ (by simp; omega)]
      have ed : out.drop j = out[j] :: out.drop (j + 1) := List.drop_eq_getElem_cons hlt
      simp [Nat.min_eq_left (Nat.le_of_lt hlt)]
      rw [ed]; rfl
    have ep : place less x out (j + 1) = if less x out[j] then place less x out j else j + 1 := by
      rw [place.eq_2, List.getElem?_eq_getElem hlt]
    rw [ep]
    cases hl : less x out[j] with
    | true => rw [sink_yes less e1 e2 hl, e3, ih (by omega)]; rfl
    | false => rw [sink_no less e1 e2 hl]; rfl

theorem isort_take (l : List α) (k : Nat) (hk : k ≤ l.length) : isort less l k = (l.take k).foldl (insR less) [] ++ l.drop k := by
  induction k with
  | zero => rfl
  | succ k ih =>
    have hlt : k < l.length := by omega
    have hlen : ∀ (m : Nat), m ≤ l.length → ((l.take m).foldl (insR less) []).length = m := by
      intro m
      induction m with
      | zero => intro _; rfl
      | succ m ihm =>
        intro hm
        rw [List.take_succ_eq_append_getElem (by omega), List.foldl_append, List.foldl_cons, List.foldl_nil, insR_length, ihm (by omega)]
    rw [isort, ih (by omega), List.drop_eq_getElem_cons hlt]
    have := sink_at less l[k] ((l.take k).foldl (insR less) []) (l.drop (k + 1)) k (by rw [hlen k (by omega)]; exact Nat.le_refl _)
    rw [List.take_of_length_le (by rw [hlen k (by omega)]; exact Nat.le_refl _), List.drop_of_length_le (by rw [hlen k (by omega)]; exact Nat.le_refl _), List.nil_append] at this
    rw [this, List.take_succ_eq_append_getElem hlt, List.foldl_append, List.foldl_cons, List.foldl_nil]
    have hk2 := hlen k (by omega)
    generalize (l.take k).foldl (insR less) [] = out at *
    unfold insR
    rw [hk2, List.append_assoc, List.cons_append]
theorem isort_all (l : List α) : isort less l l.length = sorted less l := by
  rw [isort_take less l _ (Nat.le_refl _), List.take_of_length_le (Nat.le_refl _), List.drop_of_length_le (Nat.le_refl _), List.append_nil]; rfl
theorem sorted_length (l : List α) : (sorted less l).length = l.length := by rw [← isort_all, isort_length]

theorem insR_perm (out : List α) (x : α) : ∀ a, a ∈ insR less out x ↔ a = x ∨ a ∈ out := by
  intro a
  have e : (a ∈ out) ↔ a ∈ out.take (place less x out out.length) ∨ a ∈ out.drop (place less x out out.length) := by
    rw [← List.mem_append, List.take_append_drop]
  unfold insR
  rw [List.mem_append, List.mem_cons, e]
  constructor
  · rintro (h | h | h)
    · exact .inr (.inl h)
    · exact .inl h
    · exact .inr (.inr h)
  · rintro (h | h | h)
    · exact .inr (.inl h)
    · exact .inl h
    · exact .inr (.inr h)
theorem sorted_snoc (l : List α) (x : α) : sorted less (l ++ [x]) = insR less (sorted less l) x := by
  unfold sorted; rw [List.foldl_append]; rfl
theorem sorted_mem (l : List α) : ∀ a, a ∈ sorted less l ↔ a ∈ l := by
  have : ∀ (l out : List α) a, a ∈ l.foldl (insR less) out ↔ a ∈ out ∨ a ∈ l := by
    intro l
    induction l with
    | nil => intro out a; simp
    | cons x r ih =>
      intro out a
      rw [List.foldl_cons, ih, insR_perm, List.mem_cons]
      constructor
      · rintro ((h | h) | h)
        · exact .inr (.inl h)
        · exact .inl h
        · exact .inr (.inr h)
      · rintro (h | h | h)
        · exact .inl (.inr h)
        · exact .inl (.inl h)
        · exact .inr h
  intro a
  rw [sorted, this]; simp
end

/-- A stretch: less by where it begins, then by where it ends. -/
def lessB (x y : Int × Int) : Bool := decide (x.1 < y.1 ∨ x.1 = y.1 ∧ x.2 < y.2)
/-- A selection's stretch. -/
def spanI (x : Int × Int) : Int × Int := (min x.1 x.2, max x.1 x.2)
def lessS (x y : Int × Int) : Bool := lessB (spanI x) (spanI y)
def touchB (x y : Int × Int) : Bool := decide (max x.1 y.1 ≤ min x.2 y.2)
/-- Two selections that touch, put together. -/
def fuse (a b : Int × Int) : Int × Int :=
  if a.2 < a.1 then (max (spanI a).2 (spanI b).2, (spanI a).1) else ((spanI a).1, max (spanI a).2 (spanI b).2)
def mergeS (out : List (Int × Int)) (s : Int × Int) : List (Int × Int) :=
  match out.getLast? with
  | some a => if touchB (spanI a) (spanI s) then out.dropLast ++ [fuse a s] else out ++ [s]
  | none => out ++ [s]
def merged (l : List (Int × Int)) : List (Int × Int) := l.foldl mergeS []
/-- Selections in order. -/
def orderN (l : List (Int × Int)) : List (Int × Int) := merged (sorted lessS l)

end Go.Gim

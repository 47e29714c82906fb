/- Edits in order and where they lead an offset, plain; stretches that are apart. Conditions: none. -/
import Derived.Test.YtffplppglicibaaGimTabP
namespace Go.Gim

def lessE (x y : Ed) : Bool := lessB (x.a, x.b) (y.a, y.b)
def edS (x : Ed) : Int × Int := (x.a, x.b)
/-- Where an edit leads an offset. -/
def oneE (right : Bool) (o : Int) (e : Ed) : Int :=
  if o < e.a then o else if e.b < o then o + ((e.t.size : Int) - (e.b - e.a)) else if right then e.a + e.t.size else e.a
/-- Where edits lead it, the last one first. -/
def moveE (right : Bool) (es : List Ed) (o : Int) : Int := (sorted lessE es).reverse.foldl (oneE right) o

/-- Is x apart from the one ahead of it? -/
def apart1 (x : Int × Int) : Option (Int × Int) → Bool
  | some y => !(decide (x.1 = y.1) || decide (x.1 < y.2))
  | none => true
def prevOf (s : List (Int × Int)) : Nat → Option (Int × Int)
  | 0 => none
  | j + 1 => s[j]?
/-- Is stretch number i of a row that rises apart from the one ahead of it? -/
def okAt (s : List (Int × Int)) (i : Nat) : Bool :=
  match s[i]? with
  | some x => !decide (x.2 < x.1) && apart1 x (prevOf s i)
  | none => true
def apartB (l : List (Int × Int)) : Bool := (List.range l.length).all (okAt (sorted lessB l))

theorem lessB_yes {x y : Int × Int} (h : lessB x y = true) : x.1 < y.1 ∨ x.1 = y.1 ∧ x.2 < y.2 := of_decide_eq_true h
theorem lessB_no {x y : Int × Int} (h : lessB x y = false) : ¬ (x.1 < y.1 ∨ x.1 = y.1 ∧ x.2 < y.2) := of_decide_eq_false h

theorem place_yes' {α : Type} (less : α → α → Bool) (x : α) (out : List α) : ∀ (k j : Nat) (y : α), place less x out k ≤ j → j < k → out[j]? = some y → less x y = true := by
  intro k
  induction k with
  | zero => intro j y _ h; omega
  | succ k ih =>
    intro j y h1 h2 h3
    unfold place at h1
    split at h1
    · rename_i z hz
      split at h1
      · rename_i hl
        by_cases hjk : j = k
        · subst hjk; rw [hz] at h3; cases h3; exact hl
        · exact ih j y h1 (by omega) h3
      · omega
    · omega
theorem place_no' {α : Type} (less : α → α → Bool) (x : α) (out : List α) : ∀ (k j : Nat) (y : α), place less x out k = j + 1 → k ≤ out.length → out[j]? = some y → less x y = false := by
  intro k
  induction k with
  | zero => intro j y h; cases h
  | succ k ih =>
    intro j y h1 h2 h3
    unfold place at h1
    split at h1
    · rename_i z hz
      split at h1
      · exact ih j y h1 (by omega) h3
      · rename_i hl
        obtain rfl : k = j := by omega
        rw [hz] at h3; cases h3; simpa using hl
    · rename_i hz
      rw [List.getElem?_eq_getElem (by omega)] at hz; cases hz
section
variable {α : Type} (less : α → α → Bool) (R : α → α → Prop) (hy : ∀ x y, less x y = true → R x y) (hn : ∀ x y, less x y = false → R y x) (tr : ∀ x y z, R x y → R y z → R x z)
include hy hn tr
theorem insR_pairwise {out : List α} (h : out.Pairwise R) (x : α) : (insR less out x).Pairwise R := by
  have hle := place_le less x out out.length
  have h1 := place_yes' less x out out.length
  have h2 := place_no' less x out out.length
  unfold insR
  generalize place less x out out.length = K at *
  have hsplit : (out.take K ++ out.drop K).Pairwise R := by rw [List.take_append_drop]; exact h
  rw [List.pairwise_append] at hsplit
  obtain ⟨p1, p2, p3⟩ := hsplit
  have hx1 : ∀ y ∈ out.drop K, R x y := by
    intro y hy'
    obtain ⟨i, hi, rfl⟩ := List.getElem_of_mem hy'
    rw [List.length_drop] at hi
    exact hy _ _ (h1 (K + i) _ (by omega) (by omega) (by rw [List.getElem_drop]; exact List.getElem?_eq_getElem (by omega)))
  have hx2 : ∀ y ∈ out.take K, R y x := by
    intro y hy'
    cases K with
    | zero => simp at hy'
    | succ j =>
      have hl := hn _ _ (h2 j (out[j]'(by omega)) rfl (Nat.le_refl _) (List.getElem?_eq_getElem _))
      rw [List.take_succ_eq_append_getElem (by omega)] at hy' p1
      rcases List.mem_append.1 hy' with hm | hm
      · exact tr _ _ _ ((List.pairwise_append.1 p1).2.2 y hm _ (List.mem_singleton.2 rfl)) hl
      · rw [List.mem_singleton.1 hm]; exact hl
  rw [List.pairwise_append]
  refine ⟨p1, List.pairwise_cons.2 ⟨hx1, p2⟩, ?_⟩
  intro a ha b hb
  rcases List.mem_cons.1 hb with rfl | hb
  · exact hx2 a ha
  · exact p3 a ha b hb
/-- What is sorted rises. -/
theorem sorted_pairwise (l : List α) : (sorted less l).Pairwise R := by
  have : ∀ (l out : List α), out.Pairwise R → (l.foldl (insR less) out).Pairwise R := by
    intro l
    induction l with
    | nil => intro out h; exact h
    | cons x r ih => intro out h; exact ih _ (insR_pairwise less R hy hn tr h x)
  exact this l [] List.Pairwise.nil
end
/-- In order by where they begin, then end. -/
def leB (x y : Int × Int) : Prop := x.1 < y.1 ∨ x.1 = y.1 ∧ x.2 ≤ y.2
theorem sortedB_rises (l : List (Int × Int)) : (sorted lessB l).Pairwise leB :=
  sorted_pairwise lessB leB (fun x y h => by have := lessB_yes h; unfold leB; omega) (fun x y h => by have := lessB_no h; unfold leB; omega) (fun x y z h k => by unfold leB at *; omega) l
theorem sortedE_rises (l : List Ed) : (sorted lessE l).Pairwise (fun x y => leB (edS x) (edS y)) :=
  sorted_pairwise lessE (fun x y => leB (edS x) (edS y)) (fun x y h => by have := lessB_yes h; unfold leB edS; omega) (fun x y h => by have := lessB_no h; unfold leB edS; omega) (fun x y z h k => by unfold leB at *; omega) l
/-- Sorting edits sorts their stretches. -/
theorem sorted_map {α β : Type} (f : α → β) (less : α → α → Bool) (less' : β → β → Bool) (h : ∀ x y, less' (f x) (f y) = less x y) (l : List α) : (sorted less l).map f = sorted less' (l.map f) := by
  have hp : ∀ (x : α) (out : List α) (k : Nat), place less' (f x) (out.map f) k = place less x out k := by
    intro x out k
    induction k with
    | zero => rfl
    | succ k ih =>
      rw [place.eq_2, place.eq_2, List.getElem?_map]
      cases out[k]? with
      | none => rfl
      | some y => simp only [Option.map_some, h, ih]
  have hi : ∀ (out : List α) (x : α), (insR less out x).map f = insR less' (out.map f) (f x) := by
    intro out x
    unfold insR
    rw [List.length_map, hp]; simp
  have : ∀ (l out : List α), (l.foldl (insR less) out).map f = (l.map f).foldl (insR less') (out.map f) := by
    intro l
    induction l with
    | nil => intro out; rfl
    | cons x r ih => intro out; rw [List.foldl_cons, ih, hi]; rfl
  exact this l []
theorem sortedE_map (l : List Ed) : (sorted lessE l).map edS = sorted lessB (l.map edS) := sorted_map edS lessE lessB (fun _ _ => rfl) l
theorem okAt_is {s : List (Int × Int)} {i : Nat} {x : Int × Int} (hx : s[i]? = some x) : okAt s i = (!decide (x.2 < x.1) && apart1 x (prevOf s i)) := by
  unfold okAt; rw [hx]
theorem okAt_yes {s : List (Int × Int)} {i : Nat} {x : Int × Int} (hx : s[i]? = some x) : okAt s i = true ↔ x.1 ≤ x.2 ∧ ∀ j y, i = j + 1 → s[j]? = some y → ¬ x.1 = y.1 ∧ y.2 ≤ x.1 := by
  rw [okAt_is hx, Bool.and_eq_true, Bool.not_eq_true', decide_eq_false_iff_not, Int.not_lt]
  cases i with
  | zero => exact ⟨fun h => ⟨h.1, fun j y e => by cases e⟩, fun h => ⟨h.1, rfl⟩⟩
  | succ j =>
    show _ ∧ apart1 x s[j]? = true ↔ _
    cases hy : s[j]? with
    | none =>
      refine ⟨fun h => ⟨h.1, fun j' y' e hy' => ?_⟩, fun h => ⟨h.1, rfl⟩⟩
      cases e
      rw [hy] at hy'; cases hy'
    | some y =>
      unfold apart1
      rw [Bool.not_eq_true', Bool.or_eq_false_iff, decide_eq_false_iff_not, decide_eq_false_iff_not, Int.not_lt]
      refine ⟨fun h => ⟨h.1, fun j' y' e hy' => ?_⟩, fun h => ⟨h.1, h.2 j y rfl hy⟩⟩
      cases e
      rw [hy] at hy'; cases hy'
      exact h.2
end Go.Gim

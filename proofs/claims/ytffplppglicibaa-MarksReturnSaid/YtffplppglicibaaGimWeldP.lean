/- The plain law of weld: which pieces stand beside each other. No program in sight. Conditions: none. -/
import Derived.Test.YtffplppglicibaaGimTreeP
namespace Go.Gim

/-- The text between is held against what is ahead: nothing there, or together too long; likewise behind. -/
def Ahead (a : List ByteArray) (m : List UInt8) : Prop := a = [] ∨ 64 < lastLen a + min 64 m.length
def Behind (m : List UInt8) (b : List ByteArray) : Prop := b = [] ∨ 64 < (m.length - 1) % 64 + 1 + firstLen b
def Meet (a b : List ByteArray) : Prop := a = [] ∨ b = [] ∨ 64 < lastLen a + firstLen b
/-- What holds at each round of weld. -/
structure J (a : List ByteArray) (m : List UInt8) (b : List ByteArray) : Prop where
  ga : Pcs a
  gb : Pcs b
  none : m = [] → Meet a b
  ahead : m ≠ [] → Ahead a m
  behind : m ≠ [] → Behind m b

theorem J.done {a b : List ByteArray} (h : J a [] b) : Pcs (a ++ b) := by
  refine good_append.2 ⟨h.ga, h.gb, fun ha hb => ?_⟩
  rcases h.none rfl with e | e | e
  · exact absurd e ha
  · exact absurd e hb
  · exact e

theorem J.step {a b : List ByteArray} {m : List UInt8} (h : J a m b) (hm : m ≠ []) (x : ByteArray) (hx : x.data.toList = m.take 64) : J (a ++ [x]) (m.drop 64) b := by
  have hl : 0 < m.length := List.length_pos_iff.2 hm
  have hs : x.size = min 64 m.length := by
    have : x.data.toList.length = x.size := rfl
    rw [← this, hx, List.length_take]
  have e64 : lastLen (a ++ [x]) = min 64 m.length := by rw [lastLen_single, hs]
  refine ⟨?_, h.gb, ?_, ?_, ?_⟩
  · refine good_append.2 ⟨h.ga, good_one (by omega) (by omega), fun ha _ => ?_⟩
    rcases h.ahead hm with e | e
    · exact absurd e ha
    · simp only [firstLen]; omega
  · intro hd
    have hd' : m.length ≤ 64 := List.drop_eq_nil_iff.1 hd
    rcases h.behind hm with e | e
    · exact .inr (.inl e)
    · refine .inr (.inr ?_)
      rw [e64]; omega
  · intro hd
    have hd' : ¬ m.length ≤ 64 := fun h => hd (List.drop_eq_nil_iff.2 h)
    refine .inr ?_
    rw [e64, List.length_drop]; omega
  · intro hd
    have hd' : ¬ m.length ≤ 64 := fun h => hd (List.drop_eq_nil_iff.2 h)
    rcases h.behind hm with e | e
    · exact .inl e
    · refine .inr ?_
      rw [List.length_drop]; omega

theorem join_pos {l : List ByteArray} (h : Sized l) (hn : l ≠ []) : 1 ≤ (join l).length := by
  cases l with
  | nil => exact absurd rfl hn
  | cons x r =>
    have := (h x (by simp)).1
    have e : x.data.toList.length = x.size := rfl
    rw [join_cons, List.length_append]; omega
theorem sized_cons {x : ByteArray} {l : List ByteArray} : Sized (x :: l) ↔ (1 ≤ x.size ∧ x.size ≤ 64) ∧ Sized l := by simp [Sized]
theorem lastLen_le {l : List ByteArray} (hn : l ≠ []) : lastLen l ≤ (join l).length := by
  obtain ⟨q, x, rfl⟩ : ∃ q x, l = q ++ [x] := ⟨l.dropLast, l.getLast hn, (List.dropLast_concat_getLast hn).symm⟩
  have e : x.data.toList.length = x.size := rfl
  rw [lastLen_single, join_append, join_cons, List.length_append, List.length_append]; omega
theorem lastLen_pos {l : List ByteArray} (h : Sized l) : 1 ≤ lastLen l := by
  by_cases hn : l = []
  · subst hn; simp [lastLen]
  · obtain ⟨q, x, rfl⟩ : ∃ q x, l = q ++ [x] := ⟨l.dropLast, l.getLast hn, (List.dropLast_concat_getLast hn).symm⟩
    rw [lastLen_single]; exact (h x (by simp)).1
theorem firstLen_pos {l : List ByteArray} (h : Sized l) : 1 ≤ firstLen l := by
  cases l with
  | nil => simp [firstLen]
  | cons x r => exact (h x (by simp)).1

/-- ends at the last piece's beginning: the last piece alone stands behind. -/
theorem ends_last {t l r : T} (hp : Parted t l r) (hs : Sized t.owns) (hn : t.owns ≠ []) (h : EndsAt ((t.size : Int) - lastLen t.owns) l r) : ∃ x, r.owns = [x] ∧ x.size = lastLen t.owns := by
  have hsz := hp.size
  have h1 := lastLen_pos hs
  have h2 := lastLen_le hn
  rw [← T.size_join] at h2
  obtain ⟨h3, h4⟩ := h
  rw [hp.owns] at hs
  have hsr := (sized_append.1 hs).2
  cases hr : r.owns with
  | nil =>
    have : r.size = 0 := by rw [T.size_join, hr]; rfl
    omega
  | cons x q =>
    rw [hr] at h4 hsr
    have h5 := h4.resolve_left (by simp)
    have e : x.data.toList.length = x.size := rfl
    have h6 : r.size = x.size + (join q).length := by rw [T.size_join, hr, join_cons, List.length_append, e]
    have h7 : lastLen t.owns = lastLen (x :: q) := by rw [hp.owns, hr, lastLen_append_cons]
    cases q with
    | nil => exact ⟨x, rfl, by rw [h7]; simp [lastLen]⟩
    | cons y q' =>
      have h8 : lastLen t.owns = lastLen (y :: q') := by rw [h7, lastLen_cons_cons]
      have h9 := lastLen_le (l := y :: q') (by simp)
      simp only [firstLen] at h5
      omega

/-- begins at 1: the first piece alone stands ahead. -/
theorem begins_one {t l r : T} (hp : Parted t l r) (hs : Sized t.owns) (hn : t.owns ≠ []) (h : BeginsAt 1 l r) : ∃ x, l.owns = [x] ∧ x.size = firstLen t.owns := by
  have hsz := hp.size
  obtain ⟨h3, h4⟩ := h
  rw [hp.owns] at hs hn
  have hsl := (sized_append.1 hs).1
  cases hl : l.owns with
  | nil =>
    have : l.size = 0 := by rw [T.size_join, hl]; rfl
    rw [hl, List.nil_append] at hn
    have := h3.resolve_left hn
    omega
  | cons x q =>
    rw [hl] at h4 hsl
    have h5 := h4.resolve_left (by simp)
    have e : x.data.toList.length = x.size := rfl
    have h6 : l.size = x.size + (join q).length := by rw [T.size_join, hl, join_cons, List.length_append, e]
    have hx := (sized_cons.1 hsl).1
    cases q with
    | nil => exact ⟨x, rfl, by rw [hp.owns, hl]; rfl⟩
    | cons y q' =>
      have h8 := lastLen_le (l := y :: q') (by simp)
      rw [lastLen_cons_cons] at h5
      omega

theorem T.root_of_one {b : Nat} {own x : ByteArray} {p : Int} {l r : T} (h : (T.node b own p l r).owns = [x]) : own = x := by
  simp only [T.owns] at h
  cases hl : l.owns with
  | nil => rw [hl] at h; simp at h; exact h.1
  | cons y q => rw [hl] at h; simp at h

theorem Ahead.took {l : List ByteArray} {x : ByteArray} {m : List UInt8} (h : Pcs (l ++ [x])) (hle : x.size + m.length ≤ 64) : Ahead l (x.data.toList ++ m) ∧ Pcs l ∧ x.data.toList ++ m ≠ [] := by
  obtain ⟨h1, h2, h3⟩ := good_append.1 h
  have e : x.data.toList.length = x.size := rfl
  have hx := (h2.1 x (by simp)).1
  refine ⟨?_, h1, fun h0 => ?_⟩
  · by_cases hl : l = []
    · exact .inl hl
    · refine .inr ?_
      have := h3 hl (by simp)
      simp only [firstLen] at this
      rw [List.length_append]; omega
  · have := congrArg List.length h0
    rw [List.length_append] at this
    simp only [List.length_nil] at this
    omega
theorem Ahead.not {a : List ByteArray} {m : List UInt8} (ha : Pcs a) (h : a = [] ∨ 64 < lastLen a + m.length) : Ahead a m := by
  rcases h with h | h
  · exact .inl h
  · refine .inr ?_
    have := lastLen_pos ha.1
    omega
theorem Ahead.more {a : List ByteArray} {m k : List UInt8} (h : Ahead a m) : Ahead a (m ++ k) := by
  rcases h with h | h
  · exact .inl h
  · refine .inr ?_
    rw [List.length_append]; omega
theorem Behind.took {r : List ByteArray} {y : ByteArray} {m : List UInt8} (h : Pcs (y :: r)) (hm : m ≠ []) (hle : (m.length - 1) % 64 + 1 + y.size ≤ 64) : Behind (m ++ y.data.toList) r ∧ Pcs r := by
  have e : y.data.toList.length = y.size := rfl
  have hl : 0 < m.length := List.length_pos_iff.2 hm
  obtain ⟨h1, h2, h3⟩ := (good_append (a := [y]) (b := r)).1 h
  have hy := (h1.1 y (by simp)).1
  refine ⟨?_, h2⟩
  by_cases hr : r = []
  · exact .inl hr
  · refine .inr ?_
    have := h3 (by simp) hr
    simp only [lastLen, List.getLast?_singleton] at this
    rw [List.length_append]; omega
theorem J.of {a b : List ByteArray} {m : List UInt8} (ha : Pcs a) (hb : Pcs b) (hm : m ≠ []) (h1 : Ahead a m) (h2 : Behind m b) : J a m b :=
  ⟨ha, hb, fun h => absurd h hm, fun _ => h1, fun _ => h2⟩

end Go.Gim

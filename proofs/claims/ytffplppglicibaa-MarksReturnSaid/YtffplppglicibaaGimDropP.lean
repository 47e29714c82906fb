/- Striking one range behind the other, plain: what stands behind k of them. Conditions: none. -/
import Derived.Test.YtffplppglicibaaGimTabMoveP
namespace Go.Gim
theorem keepT_append (id : Int) : ∀ (a K b : Tb), keepT id K (a ++ b) = keepT id (keepT id K a) b := by
  intro a
  induction a with
  | nil => intro K b; rfl
  | cons x t ih =>
    intro K b
    rw [List.cons_append, keepT, keepT]
    split
    · exact ih K b
    · exact ih (K ++ [x]) b
theorem keepT_del (id : Int) : ∀ (t K : Tb), keepT id K (delR t id) = keepT id K t := by
  intro t
  induction t with
  | nil => intro K; rfl
  | cons x t ih =>
    intro K
    unfold delR at ih ⊢
    rw [List.filter_cons]
    by_cases e : x.1 = id
    · rw [if_neg (by simpa using e), ih, keepT, if_pos (.inl e)]
    · rw [if_pos (by simpa using e), keepT, keepT, ih, ih]
/-- Kept of the first k. -/
def keepN (M : Tb) (id : Int) (k : Nat) : Tb := keepT id [] (M.take k)
theorem keepN_all (L : Tb) (id : Int) : keepN (delR L id) id (delR L id).length = dropT L id := by
  unfold keepN dropT
  rw [List.take_of_length_le (Nat.le_refl _), keepT_del]
theorem keepN_step {M : Tb} {id : Int} {k : Nat} {x : Int × Rg} (hx : M[k]? = some x) (hne : x.1 ≠ id) : keepN M id (k + 1) = if x.2.u ≠ 0 ∧ getR (keepN M id k) x.2.u = none then keepN M id k else keepN M id k ++ [x] := by
  obtain ⟨hk, rfl⟩ := List.getElem?_eq_some_iff.1 hx
  unfold keepN
  rw [List.take_succ_eq_append_getElem hk, keepT_append]
  generalize keepT id [] (M.take k) = K
  rw [keepT]
  by_cases c : M[k].2.u ≠ 0 ∧ getR K M[k].2.u = none
  · rw [if_pos (.inr c), if_pos c]; rfl
  · rw [if_neg (by rintro (h | h); exact hne h; exact c h), if_neg c]; rfl
theorem keepN_sub (M : Tb) (id : Int) (k : Nat) : (keepN M id k).Sublist (M.take k) := by
  obtain ⟨s, h1, h2⟩ := keepT_split id (M.take k) []
  unfold keepN
  rw [h1]; exact h2
/-- The table as it stands behind k of them. -/
def midT (M : Tb) (id : Int) (k : Nat) : Tb := keepN M id k ++ M.drop k
theorem midT_sub (M : Tb) (id : Int) (k : Nat) : (midT M id k).Sublist M := by
  have := (keepN_sub M id k).append (List.Sublist.refl (M.drop k))
  rw [List.take_append_drop] at this
  exact this
theorem midT_zero (M : Tb) (id : Int) : midT M id 0 = M := rfl
theorem midT_all (L : Tb) (id : Int) : midT (delR L id) id (delR L id).length = dropT L id := by
  unfold midT
  rw [List.drop_of_length_le (Nat.le_refl _), List.append_nil, keepN_all]
section
variable {M : Tb} {id : Int} {k : Nat} {x : Int × Rg} (hr : (idsR M).Pairwise (· < ·)) (hx : M[k]? = some x) (hne : x.1 ≠ id)
include hr hx
theorem rise_once : Once M := have _ := hx; once_ids.2 (hr.imp (fun h e => by omega))
theorem midT_get : getR (midT M id k) x.1 = some x.2 := by
  refine getR_of_mem ((rise_once hr hx).sublist (midT_sub M id k)) ?_
  obtain ⟨hk, rfl⟩ := List.getElem?_eq_some_iff.1 hx
  unfold midT
  rw [List.drop_eq_getElem_cons hk]
  exact List.mem_append_right _ List.mem_cons_self
/-- What is older is told by what is kept. -/
theorem midT_old {u : Int} (hu : u < x.1) : getR (midT M id k) u = getR (keepN M id k) u := by
  unfold midT
  rw [getR_append, getR_none_of (L := M.drop k)]
  · cases getR (keepN M id k) u <;> rfl
  · intro y hy
    obtain ⟨i, hi, rfl⟩ := List.getElem_of_mem hy
    rw [List.length_drop] at hi
    obtain ⟨hk, rfl⟩ := List.getElem?_eq_some_iff.1 hx
    rw [List.getElem_drop]
    by_cases e : i = 0
    · subst e; simp only [Nat.add_zero]; omega
    · have := List.pairwise_iff_getElem.1 hr k (k + i) (by simpa [idsR] using hk) (by simp [idsR]; omega) (by omega)
      simp only [idsR, List.getElem_map] at this
      omega
include hne
theorem midT_keep (h : ¬ (x.2.u ≠ 0 ∧ getR (keepN M id k) x.2.u = none)) : midT M id (k + 1) = midT M id k := by
  have _ := hr
  obtain ⟨hk, e⟩ := List.getElem?_eq_some_iff.1 hx
  unfold midT
  rw [keepN_step hx hne, if_neg h, List.drop_eq_getElem_cons hk, e, List.append_assoc]; rfl
theorem midT_strike (h : x.2.u ≠ 0 ∧ getR (keepN M id k) x.2.u = none) : midT M id (k + 1) = delR (midT M id k) x.1 := by
  have ho := (rise_once hr hx).sublist (midT_sub M id k)
  obtain ⟨hk, e⟩ := List.getElem?_eq_some_iff.1 hx
  unfold midT at ho ⊢
  rw [keepN_step hx hne, if_pos h]
  rw [List.drop_eq_getElem_cons hk, e] at ho ⊢
  obtain ⟨h1, h2, h3⟩ := List.pairwise_append.1 ho
  have h4 := (List.pairwise_cons.1 h2).1
  unfold delR
  rw [List.filter_append, List.filter_cons, if_neg (by simp)]
  rw [List.filter_eq_self.2 (fun y hy => by simpa using h3 y hy x List.mem_cons_self), List.filter_eq_self.2 (fun y hy => by simpa using (h4 y hy).symm)]
end
end Go.Gim

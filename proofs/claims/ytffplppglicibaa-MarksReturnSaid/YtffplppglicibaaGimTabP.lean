/- Tables of ranges, plain: what is told of a number, one set, one struck. Conditions: none. -/
import Derived.Test.YtffplppglicibaaGimRow
import Derived.Test.YtffplppglicibaaGimSortP
namespace Go.Gim

abbrev Tb := List (Int × Rg)
def getR : Tb → Int → Option Rg
  | [], _ => none
  | x :: t, id => if x.1 = id then some x.2 else getR t id
def setR (L : Tb) (id : Int) (r : Rg) : Tb := L.map fun x => if x.1 = id then (id, r) else x
def delR (L : Tb) (id : Int) : Tb := L.filter fun x => !decide (x.1 = id)
def idsR (L : Tb) : List Int := L.map (·.1)
/-- No number stands twice. -/
def Once (L : Tb) : Prop := L.Pairwise (fun x y => x.1 ≠ y.1)

theorem getR_cons (x : Int × Rg) (t : Tb) (id : Int) : getR (x :: t) id = if x.1 = id then some x.2 else getR t id := rfl
theorem getR_append (a b : Tb) (id : Int) : getR (a ++ b) id = (getR a id).or (getR b id) := by
  induction a with
  | nil => simp [getR]
  | cons x t ih =>
    rw [List.cons_append, getR_cons, getR_cons, ih]
    split <;> simp
theorem getR_mem {L : Tb} {id : Int} {r : Rg} (h : getR L id = some r) : (id, r) ∈ L := by
  induction L with
  | nil => simp [getR] at h
  | cons x t ih =>
    rw [getR_cons] at h
    split at h
    · rename_i e
      cases h
      rw [← e]; exact List.mem_cons_self
    · exact List.mem_cons_of_mem _ (ih h)
theorem getR_none {L : Tb} {id : Int} (h : getR L id = none) : ∀ x ∈ L, x.1 ≠ id := by
  induction L with
  | nil => simp
  | cons y t ih =>
    rw [getR_cons] at h
    split at h
    · cases h
    · rename_i hne
      intro x hx
      rcases List.mem_cons.1 hx with rfl | hx
      · exact hne
      · exact ih h x hx
theorem getR_none_of {L : Tb} {id : Int} (h : ∀ x ∈ L, x.1 ≠ id) : getR L id = none := by
  cases hg : getR L id with
  | none => rfl
  | some r => exact absurd rfl (h _ (getR_mem hg))
theorem getR_of_mem {L : Tb} (ho : Once L) {id : Int} {r : Rg} (h : (id, r) ∈ L) : getR L id = some r := by
  induction L with
  | nil => simp at h
  | cons x t ih =>
    obtain ⟨h1, h2⟩ := List.pairwise_cons.1 ho
    rw [getR_cons]
    rcases List.mem_cons.1 h with h | h
    · rw [← h, if_pos rfl]
    · rw [if_neg (h1 _ h)]; exact ih h2 h
theorem getR_isSome {L : Tb} {id : Int} : (getR L id).isSome = true ↔ id ∈ idsR L := by
  constructor
  · intro h
    obtain ⟨r, hr⟩ := Option.isSome_iff_exists.1 h
    exact List.mem_map.2 ⟨_, getR_mem hr, rfl⟩
  · intro h
    obtain ⟨x, hx, rfl⟩ := List.mem_map.1 h
    cases hg : getR L x.1 with
    | some r => rfl
    | none => exact absurd rfl (getR_none hg x hx)
theorem setR_len (L : Tb) (id : Int) (r : Rg) : (setR L id r).length = L.length := by simp [setR]
theorem setR_ids (L : Tb) (id : Int) (r : Rg) : idsR (setR L id r) = idsR L := by
  unfold idsR setR
  rw [List.map_map]
  apply List.map_congr_left
  intro x _
  simp only [Function.comp]
  split
  · rename_i h; exact h.symm
  · rfl
theorem getR_set_same {L : Tb} {id : Int} (h : (getR L id).isSome = true) (r : Rg) : getR (setR L id r) id = some r := by
  induction L with
  | nil => simp [getR] at h
  | cons x t ih =>
    show getR ((if x.1 = id then (id, r) else x) :: setR t id r) id = some r
    rw [getR_cons] at h
    by_cases e : x.1 = id
    · rw [if_pos e, getR_cons, if_pos rfl]
    · rw [if_neg e] at h
      rw [if_neg e, getR_cons, if_neg e]; exact ih h
theorem getR_set_other (L : Tb) {id id' : Int} (h : id' ≠ id) (r : Rg) : getR (setR L id r) id' = getR L id' := by
  induction L with
  | nil => rfl
  | cons x t ih =>
    show getR ((if x.1 = id then (id, r) else x) :: setR t id r) id' = _
    by_cases e : x.1 = id
    · rw [if_pos e, getR_cons, getR_cons, if_neg (fun e' => h e'.symm), if_neg (fun e' : x.1 = id' => h (e'.symm.trans e)), ih]
    · rw [if_neg e, getR_cons, getR_cons, ih]
theorem getR_del_same (L : Tb) (id : Int) : getR (delR L id) id = none :=
  getR_none_of (fun x hx => by have := (List.mem_filter.1 hx).2; simpa using this)
theorem getR_del_other (L : Tb) {id id' : Int} (h : id' ≠ id) : getR (delR L id) id' = getR L id' := by
  unfold delR
  induction L with
  | nil => rfl
  | cons x t ih =>
    rw [List.filter_cons]
    by_cases e : x.1 = id
    · rw [if_neg (by simpa using e), ih, getR_cons, if_neg (fun e' : x.1 = id' => h (e'.symm.trans e))]
    · rw [if_pos (by simpa using e), getR_cons, getR_cons, ih]
theorem delR_none {L : Tb} {id : Int} (h : getR L id = none) : delR L id = L :=
  List.filter_eq_self.2 (fun x hx => by simpa using getR_none h x hx)
theorem delR_len {L : Tb} (ho : Once L) (id : Int) : (delR L id).length + (if (getR L id).isSome then 1 else 0) = L.length := by
  unfold delR
  induction L with
  | nil => rfl
  | cons x t ih =>
    obtain ⟨h1, h2⟩ := List.pairwise_cons.1 ho
    have ih := ih h2
    rw [List.filter_cons, getR_cons]
    by_cases e : x.1 = id
    · have hn : getR t id = none := getR_none_of (fun y hy => by rw [← e]; exact (h1 y hy).symm)
      rw [if_neg (by simpa using e), if_pos e]
      rw [hn] at ih
      simp only [Option.isSome_none, Bool.false_eq_true, if_false, Nat.add_zero] at ih
      simp only [Option.isSome_some, if_true, List.length_cons, ih]
    · rw [if_pos (by simpa using e), if_neg e, List.length_cons, List.length_cons]; omega
theorem Once.set {L : Tb} (h : Once L) (id : Int) (r : Rg) : Once (setR L id r) := by
  have e : ∀ M : Tb, Once M ↔ (idsR M).Pairwise (· ≠ ·) := fun M => by unfold Once idsR; rw [List.pairwise_map]
  rw [e, setR_ids, ← e]; exact h
theorem Once.del {L : Tb} (h : Once L) (id : Int) : Once (delR L id) := h.filter _
theorem Once.add {L : Tb} (h : Once L) {id : Int} (hn : getR L id = none) (r : Rg) : Once (L ++ [(id, r)]) := by
  refine List.pairwise_append.2 ⟨h, List.pairwise_singleton _ _, ?_⟩
  intro a ha b hb
  rw [List.mem_singleton.1 hb]
  exact getR_none hn a ha
theorem once_ids {L : Tb} : Once L ↔ (idsR L).Nodup := by unfold Once idsR List.Nodup; rw [List.pairwise_map]
end Go.Gim

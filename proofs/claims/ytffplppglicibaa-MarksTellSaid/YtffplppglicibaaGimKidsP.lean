/- Kids of ranges, counted, plain. Conditions: none. -/
import Derived.Test.YtffplppglicibaaGimWithinP
namespace Go.Gim
theorem filter_or {α : Type} (p q : α → Bool) (l : List α) (h : ∀ x ∈ l, p x = true → q x = false) : (l.filter (fun x => p x || q x)).length = (l.filter p).length + (l.filter q).length := by
  induction l with
  | nil => rfl
  | cons x t ih =>
    have h1 := h x List.mem_cons_self
    have h2 := ih (fun y hy => h y (List.mem_cons_of_mem _ hy))
    rw [List.filter_cons, List.filter_cons, List.filter_cons]
    cases hp : p x with
    | true =>
      rw [h1 hp]
      simp only [Bool.true_or, if_true, List.length_cons, Bool.false_eq_true, if_false]
      omega
    | false =>
      cases hq : q x with
      | true => simp only [Bool.false_or, if_true, List.length_cons, Bool.false_eq_true, if_false]; omega
      | false => simp only [Bool.false_or, Bool.false_eq_true, if_false]; exact h2
theorem contains_snoc (A : List Int) (z u : Int) : (A ++ [z]).contains u = (A.contains u || u == z) := by
  rw [Bool.eq_iff_iff]
  simp
/-- How many ranges lie at the top, or in one of the first k. -/
def cntK (L : Tb) (k : Nat) : Nat := (L.filter fun x => (x.2.u == 0) || ((idsR L).take k).contains x.2.u).length
theorem cntK_le (L : Tb) (k : Nat) : cntK L k ≤ L.length := List.length_filter_le _ _
theorem cntK_zero (L : Tb) : cntK L 0 = (idsBy (fun r => r.u == 0) L).length := by
  unfold cntK idsBy idsR
  rw [List.length_map]
  simp
theorem cntK_step {L : Tb} {last B : Int} (hT : Tok L last B) {k : Nat} {id : Int} (hx : (idsR L)[k]? = some id) : cntK L (k + 1) = cntK L k + (idsBy (fun r => r.u == id) L).length := by
  obtain ⟨hk, rfl⟩ := List.getElem?_eq_some_iff.1 hx
  have e : (fun x : Int × Rg => (x.2.u == 0) || ((idsR L).take (k + 1)).contains x.2.u) = fun x => ((x.2.u == 0) || ((idsR L).take k).contains x.2.u) || (x.2.u == (idsR L)[k]) := by
    funext x
    rw [List.take_succ_eq_append_getElem hk]
    rw [contains_snoc, Bool.or_assoc]
  unfold cntK
  rw [e, filter_or]
  · unfold idsBy
    congr 1
    unfold idsR
    rw [List.length_map]
  · intro x _ hp
    cases hq : (x.2.u == (idsR L)[k]) with
    | false => rfl
    | true =>
      exfalso
      have hu : x.2.u = (idsR L)[k] := by simpa using hq
      have hid : (idsR L)[k] ∈ idsR L := List.getElem_mem hk
      obtain ⟨z, hz, hze⟩ := List.mem_map.1 hid
      have hz1 := (hT.ids z hz).1
      rw [hze, ← hu] at hz1
      rcases Bool.or_eq_true_iff.1 hp with h0 | h0
      · have : x.2.u = 0 := by simpa using h0
        omega
      · have hm : x.2.u ∈ (idsR L).take k := by simpa using h0
        obtain ⟨i, hi, hie⟩ := List.getElem_of_mem hm
        rw [List.getElem_take] at hie
        rw [List.length_take] at hi
        have := List.pairwise_iff_getElem.1 hT.rise i k (by omega) hk (by omega)
        omega
theorem cntK_all {L : Tb} {last B : Int} (hT : Tok L last B) : cntK L L.length = L.length := by
  unfold cntK
  have hl : (idsR L).take L.length = idsR L := List.take_of_length_le (by simp [idsR])
  rw [hl, List.filter_eq_self.2]
  intro x hx
  rcases hT.up x hx with e | ⟨_, e⟩
  · simp [e]
  · rw [getR_isSome] at e
    simp [e]
/-- A kid of a range: it is there, the range is its parent, and older. -/
theorem kids_get {L : Tb} {last B : Int} (hT : Tok L last B) (id : Int) : ∀ x ∈ idsBy (fun r => r.u == id) L, id ≠ 0 → ∃ y, getR L x = some y ∧ y.u = id ∧ id < x ∧ (Lit.int .i64 x).wf = true := by
  intro x hx h0
  obtain ⟨z, hz, rfl⟩ := List.mem_map.1 hx
  obtain ⟨h1, h2⟩ := List.mem_filter.1 hz
  have hu : z.2.u = id := by simpa using h2
  have hi := hT.ids z h1
  have hl := hT.last0
  refine ⟨z.2, getR_of_mem hT.once h1, hu, ?_, ?_⟩
  · rcases hT.up z h1 with e | ⟨e, _⟩
    · exact absurd (hu ▸ e) h0
    · omega
  · simp [Lit.wf, IntKind.min, IntKind.max, IntKind.signed, IntKind.bits]; omega
theorem inE_cells (l : List Int) : inE.cells l = l.map (Value.int .i64) := by
  induction l with
  | nil => rfl
  | cons x t ih => rw [inE.cells_cons, ih]; rfl
end Go.Gim

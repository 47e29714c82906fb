/- What goes with a range that is dropped, plain: those from which one climbs to it. Conditions: none. -/
import Derived.Test.YtffplppglicibaaGimWithinP
import Derived.Test.YtffplppglicibaaGimDropP
namespace Go.Gim
def upOf (L : Tb) (u : Int) : Int := ((getR L u).getD rg0).u
/-- Climbing from a range, i steps, as far as id, or the top. -/
def climb (L : Tb) (id u : Int) : Nat → Int
  | 0 => u
  | i + 1 => if climb L id u i = id ∨ climb L id u i = 0 then climb L id u i else upOf L (climb L id u i)
theorem climb_stay {L : Tb} {id u : Int} {i : Nat} (h : climb L id u i = id ∨ climb L id u i = 0) : ∀ j, i ≤ j → climb L id u j = climb L id u i := by
  intro j
  induction j with
  | zero => intro hj; have e : i = 0 := by omega
            rw [e]
  | succ j ih =>
    intro hj
    by_cases e : i = j + 1
    · rw [e]
    · have h2 := ih (by omega)
      rw [climb.eq_2, h2, if_pos h]
theorem climb_shift {L : Tb} {id u : Int} (h : ¬ (u = id ∨ u = 0)) : ∀ i, climb L id u (i + 1) = climb L id (upOf L u) i := by
  intro i
  induction i with
  | zero => rw [climb.eq_2, climb.eq_1, if_neg h, climb.eq_1]
  | succ i ih => rw [climb.eq_2, ih, climb.eq_2 L id (upOf L u) i]
theorem drop_one {L : Tb} {last B : Int} (hT : Tok L last B) (id : Int) {p : Nat} {x : Int × Rg} (hx : L[p]? = some x) :
    getR (dropT L id) x.1 = none ↔ x.1 = id ∨ (x.2.u ≠ 0 ∧ getR (dropT L id) x.2.u = none) := by
  obtain ⟨hp, e⟩ := List.getElem?_eq_some_iff.1 hx
  have hL : L = L.take p ++ x :: L.drop (p + 1) := by
    rw [← e, ← List.drop_eq_getElem_cons hp, List.take_append_drop]
  have hr := hT.rise
  have hup := hT.up x (List.mem_of_getElem? hx)
  have hid := hT.ids x (List.mem_of_getElem? hx)
  generalize L.take p = a at *
  generalize L.drop (p + 1) = b at *
  subst hL
  unfold idsR at hr
  rw [List.map_append, List.map_cons] at hr
  obtain ⟨r1, r2, r3⟩ := List.pairwise_append.1 hr
  obtain ⟨r4, r5⟩ := List.pairwise_cons.1 r2
  have hK : ∀ y ∈ keepT id [] a, y.1 < x.1 := by
    intro y hy
    obtain ⟨s, h1, h2⟩ := keepT_split id a []
    rw [h1, List.nil_append] at hy
    exact r3 y.1 (List.mem_map.2 ⟨y, h2.subset hy, rfl⟩) x.1 List.mem_cons_self
  have hfin : dropT (a ++ x :: b) id = keepT id (if x.1 = id ∨ x.2.u ≠ 0 ∧ getR (keepT id [] a) x.2.u = none then keepT id [] a else keepT id [] a ++ [x]) b := by
    unfold dropT
    rw [keepT_append]
    generalize keepT id [] a = K
    rw [keepT.eq_2]
    split
    · rfl
    · rfl
  have hsome : ∀ (K' : Tb) (j : Int), j ≤ x.1 → getR (keepT id K' b) j = getR K' j := by
    intro K' j hj
    obtain ⟨s, h1, h2⟩ := keepT_split id b K'
    rw [h1, getR_append, getR_none_of (L := s)]
    · cases getR K' j <;> rfl
    · intro y hy
      have := r4 y.1 (List.mem_map.2 ⟨y, h2.subset hy, rfl⟩)
      omega
  rw [hfin, hsome _ _ (Int.le_refl _)]
  by_cases hc : x.1 = id ∨ x.2.u ≠ 0 ∧ getR (keepT id [] a) x.2.u = none
  · rw [if_pos hc]
    constructor
    · intro _
      rcases hc with h | ⟨h1, h2⟩
      · exact .inl h
      · refine .inr ⟨h1, ?_⟩
        rcases hup with h | ⟨h, _⟩
        · exact absurd h h1
        · rw [hsome _ _ (by omega)]; exact h2
    · intro _
      exact getR_none_of (fun y hy => by have := hK y hy; omega)
  · rw [if_neg hc]
    constructor
    · intro h
      rw [getR_append, getR_cons, if_pos rfl] at h
      cases hg : getR (keepT id [] a) x.1 <;> rw [hg] at h <;> cases h
    · intro h
      rcases h with h | ⟨h1, h2⟩
      · exact absurd (.inl h) hc
      · rcases hup with h | ⟨h, _⟩
        · exact absurd h h1
        · rw [hsome _ _ (by omega), getR_append] at h2
          refine absurd (.inr ⟨h1, ?_⟩) hc
          cases hg : getR (keepT id [] a) x.2.u with
          | none => rfl
          | some r => rw [hg] at h2; cases h2
theorem climb_law {L : Tb} {last B : Int} (hT : Tok L last B) {id : Int} (h0 : id ≠ 0) : ∀ (p : Nat) (x : Int × Rg), L[p]? = some x →
    (climb L id x.1 (p + 1) = id ∨ climb L id x.1 (p + 1) = 0) ∧ ∀ i, (climb L id x.1 i = id ∨ climb L id x.1 i = 0) → (climb L id x.1 i = id ↔ getR (dropT L id) x.1 = none) := by
  intro p
  induction p using Nat.strongRecOn with
  | ind p ih =>
    intro x hx
    have hd := drop_one hT id hx
    have hxm := List.mem_of_getElem? hx
    have hid := hT.ids x hxm
    by_cases e : x.1 = id
    · have hc : climb L id x.1 0 = id ∨ climb L id x.1 0 = 0 := .inl e
      refine ⟨?_, fun i _ => ?_⟩
      · rw [climb_stay hc _ (by omega)]; exact hc
      · rw [climb_stay hc _ (Nat.zero_le i), hd]
        exact ⟨fun _ => .inl e, fun _ => e⟩
    · have hne : ¬ (x.1 = id ∨ x.1 = 0) := by omega
      have hup : upOf L x.1 = x.2.u := by unfold upOf; rw [getR_of_mem hT.once hxm]; rfl
      have hsh := climb_shift (L := L) hne
      rw [hup] at hsh
      by_cases hu : x.2.u = 0
      · have hc : climb L id x.2.u 0 = id ∨ climb L id x.2.u 0 = 0 := .inr hu
        refine ⟨?_, fun i hi => ?_⟩
        · rw [hsh, climb_stay hc _ (Nat.zero_le p)]; exact hc
        · cases i with
          | zero => exact absurd hi hne
          | succ i =>
            rw [hsh, climb_stay hc _ (Nat.zero_le i), hd]
            constructor
            · intro h; rw [climb.eq_1] at h; omega
            · rintro (h | ⟨h, _⟩)
              · exact absurd h e
              · exact absurd hu h
      · rcases hT.up x hxm with h | ⟨hlt, hs⟩
        · exact absurd h hu
        · obtain ⟨q, hq⟩ := Option.isSome_iff_exists.1 hs
          obtain ⟨k, hk, hke⟩ := List.getElem_of_mem (getR_mem hq)
          have hz : L[k]? = some (x.2.u, q) := by rw [List.getElem?_eq_getElem hk, hke]
          have hkp : k < p := by
            obtain ⟨hp, ex⟩ := List.getElem?_eq_some_iff.1 hx
            rcases Nat.lt_trichotomy k p with h1 | h1 | h1
            · exact h1
            · subst h1
              rw [hx] at hz
              have e2 := congrArg Prod.fst (Option.some.inj hz)
              simp only at e2
              omega
            · have := List.pairwise_iff_getElem.1 hT.rise p k (by simpa [idsR] using hp) (by simpa [idsR] using hk) h1
              simp only [idsR, List.getElem_map, ex, hke] at this
              omega
          obtain ⟨g1, g2⟩ := ih k hkp _ hz
          simp only at g1 g2
          refine ⟨?_, fun i hi => ?_⟩
          · rw [hsh, climb_stay g1 p (by omega)]; exact g1
          · cases i with
            | zero => exact absurd hi hne
            | succ i =>
              rw [hsh] at hi ⊢
              rw [g2 i hi, hd]
              constructor
              · intro h; exact .inr ⟨hu, h⟩
              · rintro (h | ⟨_, h⟩)
                · exact absurd h e
                · exact h
end Go.Gim

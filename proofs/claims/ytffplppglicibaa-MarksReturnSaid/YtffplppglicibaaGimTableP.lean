/- What is done to a table of ranges, plain: added, posed. Conditions: none. -/
import Derived.Test.YtffplppglicibaaGimRef6M
import Derived.Test.YtffplppglicibaaGimTab
namespace Go.Gim
open Go Go.RowKit

/-- A table that may be: its numbers rise, each range's parent is there, and older. B: how far its ends go. -/
structure Tok (L : Tb) (last : Int) (B : Int) : Prop where
  rise : (idsR L).Pairwise (· < ·)
  ids : ∀ x ∈ L, 1 ≤ x.1 ∧ x.1 ≤ last
  up : ∀ x ∈ L, x.2.u = 0 ∨ x.2.u < x.1 ∧ (getR L x.2.u).isSome = true
  bd : ∀ x ∈ L, 0 ≤ x.2.a ∧ x.2.a ≤ x.2.b ∧ x.2.b ≤ B
  len : L.length ≤ 256
  last0 : 0 ≤ last ∧ last ≤ 1000000

theorem Tok.once {L : Tb} {last B : Int} (h : Tok L last B) : Once L := once_ids.2 (h.rise.imp (fun h e => by omega))
theorem Tok.mono {L : Tb} {last B B' : Int} (h : Tok L last B) (hb : B ≤ B') : Tok L last B' := ⟨h.rise, h.ids, h.up, fun x hx => by have := h.bd x hx; omega, h.len, h.last0⟩
theorem Tok.nil : Tok [] 0 0 := ⟨List.Pairwise.nil, by simp, by simp, by simp, by simp, by omega⟩
theorem Tok.get {L : Tb} {last B : Int} (h : Tok L last B) {id : Int} {r : Rg} (hg : getR L id = some r) : 1 ≤ id ∧ id ≤ last := h.ids _ (getR_mem hg)
theorem Tok.zero {L : Tb} {last B : Int} (h : Tok L last B) : getR L 0 = none := getR_none_of (fun x hx => by have := h.ids x hx; omega)
theorem Tok.next {L : Tb} {last B : Int} (h : Tok L last B) : getR L (last + 1) = none := getR_none_of (fun x hx => by have := h.ids x hx; omega)

/-- What Add answers. -/
def addE (L : Tb) (r : Rg) : Int :=
  if mayS (r.a, r.b) 65536 = false then 3
  else if r.u = 0 then (if 256 ≤ L.length then 7 else 0)
  else match getR L r.u with
    | none => 6
    | some up => if withinS (r.a, r.b) (up.a, up.b) = false then 2 else if 256 ≤ L.length then 7 else 0
theorem addE_ok {L : Tb} {r : Rg} (h : addE L r = 0) : 0 ≤ r.a ∧ r.a ≤ r.b ∧ r.b ≤ 65536 ∧ L.length < 256 ∧ (r.u = 0 ∨ ∃ up, getR L r.u = some up ∧ up.a ≤ r.a ∧ r.b ≤ up.b) := by
  unfold addE at h
  split at h
  · cases h
  · rename_i h1
    have h1 : mayS (r.a, r.b) 65536 = true := by simpa using h1
    unfold mayS at h1
    have h1 := of_decide_eq_true h1
    simp only at h1
    split at h
    · rename_i h2
      split at h
      · cases h
      · exact ⟨h1.1, h1.2.1, h1.2.2, by omega, .inl h2⟩
    · split at h
      · cases h
      · rename_i up hup
        split at h
        · cases h
        · rename_i h3
          have h3 : withinS (r.a, r.b) (up.a, up.b) = true := by simpa using h3
          unfold withinS at h3
          have h3 := of_decide_eq_true h3
          split at h
          · cases h
          · exact ⟨h1.1, h1.2.1, h1.2.2, by omega, .inr ⟨up, hup, h3⟩⟩
theorem Tok.add {L : Tb} {last B : Int} (h : Tok L last B) {r : Rg} (hr : addE L r = 0) (hb : 65536 ≤ B) (hl : last < 1000000) : Tok (L ++ [(last + 1, r)]) (last + 1) B := by
  obtain ⟨h1, h2, h3, h4, h5⟩ := addE_ok hr
  have hids : idsR (L ++ [(last + 1, r)]) = idsR L ++ [last + 1] := by simp [idsR]
  refine ⟨?_, ?_, ?_, ?_, by simp; omega, by have := h.last0; omega⟩
  · rw [hids]
    refine List.pairwise_append.2 ⟨h.rise, List.pairwise_singleton _ _, ?_⟩
    intro a ha b hb
    rw [List.mem_singleton.1 hb]
    obtain ⟨x, hx, rfl⟩ := List.mem_map.1 ha
    have := h.ids x hx; omega
  · intro x hx
    rcases List.mem_append.1 hx with hx | hx
    · have := h.ids x hx; omega
    · rw [List.mem_singleton.1 hx]; have := h.last0; simp only; omega
  · have hsome : ∀ id, (getR L id).isSome = true → (getR (L ++ [(last + 1, r)]) id).isSome = true := by
      intro id hs
      obtain ⟨q, hq⟩ := Option.isSome_iff_exists.1 hs
      rw [getR_append, hq]; rfl
    intro x hx
    rcases List.mem_append.1 hx with hx | hx
    · rcases h.up x hx with e | ⟨e1, e2⟩
      · exact .inl e
      · exact .inr ⟨e1, hsome _ e2⟩
    · rw [List.mem_singleton.1 hx]
      rcases h5 with e | ⟨up, e, _⟩
      · exact .inl e
      · have := h.get e
        exact .inr ⟨by simp only; omega, hsome _ (by rw [e]; rfl)⟩
  · intro x hx
    rcases List.mem_append.1 hx with hx | hx
    · exact h.bd x hx
    · rw [List.mem_singleton.1 hx]; simp only; omega
theorem setR_mem {L : Tb} {id : Int} {r : Rg} {x : Int × Rg} (h : x ∈ setR L id r) : x ∈ L ∧ x.1 ≠ id ∨ x = (id, r) := by
  obtain ⟨y, hy, rfl⟩ := List.mem_map.1 h
  split
  · exact .inr rfl
  · rename_i hne; exact .inl ⟨hy, hne⟩
theorem setR_some {L : Tb} {id j : Int} {r : Rg} : (getR (setR L id r) j).isSome = (getR L j).isSome := by
  rw [Bool.eq_iff_iff, getR_isSome, getR_isSome, setR_ids]
theorem Tok.set {L : Tb} {last B : Int} (h : Tok L last B) {id : Int} {q r : Rg} (hq : getR L id = some q) (hu : r.u = q.u) (hr : 0 ≤ r.a ∧ r.a ≤ r.b ∧ r.b ≤ B) : Tok (setR L id r) last B := by
  refine ⟨by rw [setR_ids]; exact h.rise, ?_, ?_, ?_, by rw [setR_len]; exact h.len, h.last0⟩
  · intro x hx
    rcases setR_mem hx with ⟨hx, _⟩ | rfl
    · exact h.ids x hx
    · exact h.get hq
  · intro x hx
    rw [setR_some]
    rcases setR_mem hx with ⟨hx, _⟩ | rfl
    · exact h.up x hx
    · simp only
      rw [hu]
      exact h.up _ (getR_mem hq)
  · intro x hx
    rcases setR_mem hx with ⟨hx, _⟩ | rfl
    · exact h.bd x hx
    · exact hr
end Go.Gim

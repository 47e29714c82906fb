/- Deeds one behind the other, plain: the table stays one that may be, and each range lies in its parent. Conditions: none. -/
import Derived.Test.YtffplppglicibaaGimDoes7
namespace Go.Gim
/-- Each range lies within its parent. -/
def InUp (L : Tb) : Prop := ∀ x ∈ L, x.2.u ≠ 0 → ∃ up, getR L x.2.u = some up ∧ up.a ≤ x.2.a ∧ x.2.b ≤ up.b
theorem moveTo_at (es : List Ed) {L : Tb} (ho : Once L) {j : Nat} {x : Int × Rg} (hx : L[j]? = some x) : ∀ k, j < k → getR (moveTo es L k) x.1 = some (movedR es (moveTo es L j) x.2) := by
  intro k
  induction k with
  | zero => intro h; omega
  | succ k ih =>
    intro hk
    by_cases e : j = k
    · subst e
      rw [moveTo_step es hx, getR_set_same]
      rw [getR_isSome, moveTo_ids]
      exact List.mem_map.2 ⟨x, List.mem_of_getElem? hx, rfl⟩
    · rw [moveTo.eq_2 es L k]
      split
      · rename_i y hy
        rw [getR_set_other]
        · exact ih (by omega)
        · intro e2
          exact e (once_at ho hx hy e2)
      · exact ih (by omega)
theorem moveTo_old (es : List Ed) {L : Tb} (hr : (idsR L).Pairwise (· < ·)) {j : Nat} {x : Int × Rg} (hx : L[j]? = some x) {u : Int} (hu : u < x.1) : ∀ k, j ≤ k → getR (moveTo es L k) u = getR (moveTo es L j) u := by
  intro k
  induction k with
  | zero =>
    intro h
    have e : j = 0 := by omega
    rw [e]
  | succ k ih =>
    intro hk
    by_cases e : j = k + 1
    · subst e; rfl
    · rw [← ih (by omega), moveTo.eq_2 es L k]
      split
      · rename_i y hy
        rw [getR_set_other]
        intro e2
        obtain ⟨hj, ex⟩ := List.getElem?_eq_some_iff.1 hx
        obtain ⟨hk2, ey⟩ := List.getElem?_eq_some_iff.1 hy
        by_cases e3 : j = k
        · subst e3
          rw [hx] at hy
          cases hy
          omega
        · have := List.pairwise_iff_getElem.1 hr j k (by simpa [idsR] using hj) (by simpa [idsR] using hk2) (by omega)
          simp only [idsR, List.getElem_map, ex, ey] at this
          omega
      · rfl
theorem inUp_move {L : Tb} {last B : Int} (h : Tok L last B) {es : List Ed} (hok : ∀ e ∈ es, EdOk e) (hn : es.length ≤ 19) (hB : 65536 ≤ B) : InUp (moveT es L) := by
  intro y hy hu
  have hT := h.move hok hn hB
  have hyid : y.1 ∈ idsR L := by
    have : y.1 ∈ idsR (moveT es L) := List.mem_map.2 ⟨y, hy, rfl⟩
    unfold moveT at this
    rwa [moveTo_ids] at this
  obtain ⟨x, hxm, hxy⟩ := List.mem_map.1 hyid
  obtain ⟨j, hj, hjx⟩ := List.getElem_of_mem hxm
  have hx : L[j]? = some x := by rw [List.getElem?_eq_getElem hj, hjx]
  have hat := moveTo_at es h.once hx L.length hj
  have hg : getR (moveT es L) y.1 = some y.2 := getR_of_mem hT.once hy
  unfold moveT at hg
  rw [← hxy, hat] at hg
  have e1 : movedR es (moveTo es L j) x.2 = y.2 := Option.some.inj hg
  have eu : y.2.u = x.2.u := by rw [← e1, movedR_u]
  rw [eu] at hu ⊢
  rcases h.up x hxm with e | ⟨hlt, hs⟩
  · exact absurd e hu
  · have hs2 : (getR (moveTo es L j) x.2.u).isSome = true := by
      rw [getR_isSome, moveTo_ids, ← getR_isSome]; exact hs
    obtain ⟨up, hup⟩ := Option.isSome_iff_exists.1 hs2
    have hb := (h.moveTo hok hn hB j).bd _ (getR_mem hup)
    simp only at hb
    refine ⟨up, ?_, ?_⟩
    · unfold moveT
      rw [moveTo_old es h.rise hx hlt L.length (by omega), hup]
    · rw [← e1]
      unfold movedR
      rw [hup]
      simp only [clampI]
      omega
theorem inUp_add {L : Tb} {last B : Int} (h : Tok L last B) (hi : InUp L) {r : Rg} (hr : addE L r = 0) : InUp (L ++ [(last + 1, r)]) := by
  intro x hx hu
  rcases List.mem_append.1 hx with hx | hx
  · obtain ⟨up, h1, h2⟩ := hi x hx hu
    exact ⟨up, by rw [getR_append, h1]; rfl, h2⟩
  · rw [List.mem_singleton.1 hx] at hu ⊢
    obtain ⟨_, _, _, _, h5⟩ := addE_ok hr
    rcases h5 with e | ⟨up, h1, h2⟩
    · exact absurd e hu
    · exact ⟨up, by rw [getR_append, h1]; rfl, h2⟩
theorem inUp_set {L : Tb} {last B : Int} (h : Tok L last B) (hi : InUp L) {id : Int} {r : Rg} (hr : getR L id = some r) (p q : Bool) : InUp (setR L id ⟨r.a, r.b, p, q, r.u⟩) := by
  have hget : ∀ u up, getR L u = some up → ∃ up', getR (setR L id ⟨r.a, r.b, p, q, r.u⟩) u = some up' ∧ up'.a = up.a ∧ up'.b = up.b := by
    intro u up hup
    by_cases e : u = id
    · subst e
      rw [hr] at hup
      cases hup
      exact ⟨_, getR_set_same (by rw [hr]; rfl) _, rfl, rfl⟩
    · exact ⟨up, by rw [getR_set_other _ e]; exact hup, rfl, rfl⟩
  intro x hx hu
  rcases setR_mem hx with ⟨hx, _⟩ | rfl
  · obtain ⟨up, h1, h2, h3⟩ := hi x hx hu
    obtain ⟨up', g1, g2, g3⟩ := hget _ _ h1
    exact ⟨up', g1, by omega, by omega⟩
  · obtain ⟨up, h1, h2, h3⟩ := hi (id, r) (getR_mem hr) hu
    obtain ⟨up', g1, g2, g3⟩ := hget _ _ h1
    exact ⟨up', g1, by simp only at h2 ⊢; omega, by simp only at h3 ⊢; omega⟩
theorem dropT_get {L : Tb} {last B : Int} (h : Tok L last B) {id j : Int} {r : Rg} (hg : getR (dropT L id) j = some r) : getR L j = some r :=
  getR_of_mem h.once ((dropT_sub L id).subset (getR_mem hg))
theorem inUp_drop {L : Tb} {last B : Int} (h : Tok L last B) (hi : InUp L) (id : Int) : InUp (dropT L id) := by
  intro x hx hu
  obtain ⟨up, h1, h2⟩ := hi x ((dropT_sub L id).subset hx) hu
  rcases (h.drop id).up x hx with e | ⟨_, hs⟩
  · exact absurd e hu
  · obtain ⟨up', hup⟩ := Option.isSome_iff_exists.1 hs
    have := dropT_get h hup
    rw [h1] at this
    cases this
    exact ⟨up, hup, h2⟩
end Go.Gim
namespace Go.Proofs.Ytffplppglicibaa
open Go.RowKit Go.Gim

theorem doesD_in {x : Dm} {L : Tb} {last B : Int} (h : Tok L last B) (hi : InUp L) (hn : x.es.length ≤ 8) (ht : ∀ e ∈ x.es, e.t.size ≤ 60) (hB : 65536 ≤ B) : InUp (doesD x L last).L := by
  have hmv : ∀ es : List Ed, es.length ≤ 19 → (∀ e ∈ es, e.t.size ≤ 100000) → InUp (moveD L last es).L := by
    intro es h1 h2
    unfold moveD
    split
    · rename_i hr
      exact inUp_move h (ranged_ok hr h2) h1 hB
    · exact hi
  unfold doesD
  split
  · unfold addD
    split
    · rename_i hr; exact inUp_add h hi hr
    · exact hi
  · split
    · unfold poseD
      split
      · rename_i r hr; exact inUp_set h hi hr _ _
      · exact hi
    · split
      · unfold dropD
        split
        · exact inUp_drop h hi _
        · exact hi
      · split
        · refine hmv _ (by rw [editsL_len]; omega) (fun e he => ?_)
          obtain ⟨e0, h0, rfl⟩ := List.mem_map.1 he
          have := ht e0 h0
          unfold edL; simp only; omega
        · exact hmv _ (by omega) (fun e he => by have := ht e he; omega)

/-- The table behind deeds. -/
def stepD (s : Tb × Int) (x : Dm) : Tb × Int := ((doesD x s.1 s.2).L, (doesD x s.1 s.2).last)
def doneD (xs : List Dm) : Tb × Int := xs.foldl stepD ([], 0)
theorem doneD_snoc {xs : List Dm} {k : Nat} {x : Dm} (hx : xs[k]? = some x) : doneD (xs.take (k + 1)) = stepD (doneD (xs.take k)) x := by
  obtain ⟨hk, rfl⟩ := List.getElem?_eq_some_iff.1 hx
  unfold doneD
  rw [List.take_succ_eq_append_getElem hk, List.foldl_append]; rfl
theorem doneD_ok {xs : List Dm} (hn : xs.length ≤ 20) (hm : ∀ x ∈ xs, x.es.length ≤ 8 ∧ ∀ e ∈ x.es, e.t.size ≤ 60) : ∀ k, k ≤ xs.length →
    Tok (doneD (xs.take k)).1 (doneD (xs.take k)).2 (65536 + k * 2000000) ∧ (doneD (xs.take k)).2 ≤ k ∧ InUp (doneD (xs.take k)).1 := by
  intro k
  induction k with
  | zero => intro _; exact ⟨Tok.nil.mono (by omega), by simp [doneD], fun x hx => by simp [doneD] at hx⟩
  | succ k ih =>
    intro hk
    obtain ⟨h1, h2, h3⟩ := ih (by omega)
    have hx : xs[k]? = some (xs[k]'(by omega)) := List.getElem?_eq_getElem _
    obtain ⟨m1, m2⟩ := hm _ (List.getElem_mem (l := xs) (by omega : k < xs.length))
    rw [doneD_snoc hx]
    obtain ⟨o1, o2, o3⟩ := doesD_ok h1 m1 m2 (by omega) (by omega)
    unfold stepD
    refine ⟨o1.mono (by omega), ?_, doesD_in h1 h3 m1 m2 (by omega)⟩
    simp only
    omega
end Go.Proofs.Ytffplppglicibaa

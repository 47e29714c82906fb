/- What is done to a table of ranges, plain: added, posed. Conditions: none. -/
import Derived.Test.YthlmgoagnfkhdaaGreatGimG25
import Derived.Test.YthlmgoagnfkhdaaGreatGimG06
set_option maxHeartbeats 6400000
set_option maxRecDepth 1000000
set_option linter.unusedVariables false
set_option linter.unusedSimpArgs false
namespace Go.Gim
open Go Go.RowKit
structure Tok (L : Tb) (last : Int) (B : Int) : Prop where
 rise : (idsR L).Pairwise (· < ·)
 ids : ∀ x ∈ L, 1 ≤ x.1 ∧ x.1 ≤ last
 up : ∀ x ∈ L, x.2.u = 0 ∨ x.2.u < x.1 ∧ (getR L x.2.u).isSome = true
 bd : ∀ x ∈ L, 0 ≤ x.2.a ∧ x.2.a ≤ x.2.b ∧ x.2.b ≤ B
 len : L.length ≤ 256
 last0 : 0 ≤ last ∧ last ≤ 1000000
theorem Tok.once {L : Tb} {last B : Int} (h : Tok L last B) : Once L := once_ids.2 (h.rise.imp (fun h e => by omega))
theorem Tok.mono {L : Tb} {last B B' : Int} (h : Tok L last B) (hb : B ≤ B') : Tok L last B' := ⟨h.rise, h.ids, h.up, fun x hx => by have := h.bd x hx; omega, h.len, h.last0⟩
theorem Tok.nil : Tok [] 0 0 := ⟨List.Pairwise.nil, by simp, by simp, by simp, by simp, by omega⟩
theorem Tok.get {L : Tb} {last B : Int} (h : Tok L last B) {id : Int} {r : Rg} (hg : getR L id = some r) : 1 ≤ id ∧ id ≤ last := h.ids _ (getR_mem hg)
theorem Tok.zero {L : Tb} {last B : Int} (h : Tok L last B) : getR L 0 = none := getR_none_of (fun x hx => by have := h.ids x hx; omega)
theorem Tok.next {L : Tb} {last B : Int} (h : Tok L last B) : getR L (last + 1) = none := getR_none_of (fun x hx => by have := h.ids x hx; omega)
def addE (L : Tb) (r : Rg) : Int :=
 if mayS (r.a, r.b) 65536 = false then 3
 else if r.u = 0 then (if 256 ≤ L.length then 7 else 0)
 else match getR L r.u with
  | none => 6
  | some up => if withinS (r.a, r.b) (up.a, up.b) = false then 2 else if 256 ≤ L.length then 7 else 0
theorem addE_ok {L : Tb} {r : Rg} (h : addE L r = 0) : 0 ≤ r.a ∧ r.a ≤ r.b ∧ r.b ≤ 65536 ∧ L.length < 256 ∧ (r.u = 0 ∨ ∃ up, getR L r.u = some up ∧ up.a ≤ r.a ∧ r.b ≤ up.b) := by
 unfold addE at h
 split at h
 ·cases h
 ·rename_i h1
  have h1 : mayS (r.a, r.b) 65536 = true := by simpa using h1
  unfold mayS at h1
  have h1 := of_decide_eq_true h1
  simp only at h1
  split at h
  ·rename_i h2
   split at h
   ·cases h
   ·exact ⟨h1.1, h1.2.1, h1.2.2, by omega, .inl h2⟩
  ·split at h
   ·cases h
   ·rename_i up hup
    split at h
    ·cases h
    ·rename_i h3
     have h3 : withinS (r.a, r.b) (up.a, up.b) = true := by simpa using h3
     unfold withinS at h3
     have h3 := of_decide_eq_true h3
     split at h
     ·cases h
     ·exact ⟨h1.1, h1.2.1, h1.2.2, by omega, .inr ⟨up, hup, h3⟩⟩
theorem Tok.add {L : Tb} {last B : Int} (h : Tok L last B) {r : Rg} (hr : addE L r = 0) (hb : 65536 ≤ B) (hl : last < 1000000) : Tok (L ++ [(last + 1, r)]) (last + 1) B := by
 obtain ⟨h1, h2, h3, h4, h5⟩ := addE_ok hr
 have hids : idsR (L ++ [(last + 1, r)]) = idsR L ++ [last + 1] := by simp [idsR]
 refine ⟨?_, ?_, ?_, ?_, by simp; omega, by have := h.last0; omega⟩
 ·rw [hids]
  refine List.pairwise_append.2 ⟨h.rise, List.pairwise_singleton _ _, ?_⟩
  intro a ha b hb
  rw [List.mem_singleton.1 hb]
  obtain ⟨x, hx, rfl⟩ := List.mem_map.1 ha
  have := h.ids x hx; omega
 ·intro x hx
  rcases List.mem_append.1 hx with hx | hx
  ·have := h.ids x hx; omega
  ·rw [List.mem_singleton.1 hx]; have := h.last0; simp only; omega
 ·have hsome : ∀ id, (getR L id).isSome = true → (getR (L ++ [(last + 1, r)]) id).isSome = true := by
   intro id hs
   obtain ⟨q, hq⟩ := Option.isSome_iff_exists.1 hs
   rw [getR_append, hq]; rfl
  intro x hx
  rcases List.mem_append.1 hx with hx | hx
  ·rcases h.up x hx with e | ⟨e1, e2⟩
   ·exact .inl e
   ·exact .inr ⟨e1, hsome _ e2⟩
  ·rw [List.mem_singleton.1 hx]
   rcases h5 with e | ⟨up, e, _⟩
   ·exact .inl e
   ·have := h.get e
    exact .inr ⟨by simp only; omega, hsome _ (by rw [e]; rfl)⟩
 ·intro x hx
  rcases List.mem_append.1 hx with hx | hx
  ·exact h.bd x hx
  ·rw [List.mem_singleton.1 hx]; simp only; omega
theorem setR_mem {L : Tb} {id : Int} {r : Rg} {x : Int × Rg} (h : x ∈ setR L id r) : x ∈ L ∧ x.1 ≠ id ∨ x = (id, r) := by
 obtain ⟨y, hy, rfl⟩ := List.mem_map.1 h
 split
 ·exact .inr rfl
 ·rename_i hne; exact .inl ⟨hy, hne⟩
theorem setR_some {L : Tb} {id j : Int} {r : Rg} : (getR (setR L id r) j).isSome = (getR L j).isSome := by
 rw [Bool.eq_iff_iff, getR_isSome, getR_isSome, setR_ids]
theorem Tok.set {L : Tb} {last B : Int} (h : Tok L last B) {id : Int} {q r : Rg} (hq : getR L id = some q) (hu : r.u = q.u) (hr : 0 ≤ r.a ∧ r.a ≤ r.b ∧ r.b ≤ B) : Tok (setR L id r) last B := by
 refine ⟨by rw [setR_ids]; exact h.rise, ?_, ?_, ?_, by rw [setR_len]; exact h.len, h.last0⟩
 ·intro x hx
  rcases setR_mem hx with ⟨hx, _⟩ | rfl
  ·exact h.ids x hx
  ·exact h.get hq
 ·intro x hx
  rw [setR_some]
  rcases setR_mem hx with ⟨hx, _⟩ | rfl
  ·exact h.up x hx
  ·simp only
   rw [hu]
   exact h.up _ (getR_mem hq)
 ·intro x hx
  rcases setR_mem hx with ⟨hx, _⟩ | rfl
  ·exact h.bd x hx
  ·exact hr
end Go.Gim
namespace Go.Gim
def clampI (lo hi x : Int) : Int := min (max x lo) hi
def movedR (es : List Ed) (M : Tb) (r : Rg) : Rg :=
 match getR M r.u with
 | none => ⟨min (moveE r.p es r.a) (moveE r.q es r.b), moveE r.q es r.b, r.p, r.q, r.u⟩
 | some up => ⟨clampI up.a up.b (min (moveE r.p es r.a) (moveE r.q es r.b)), clampI up.a up.b (moveE r.q es r.b), r.p, r.q, r.u⟩
def moveTo (es : List Ed) (L : Tb) : Nat → Tb
 | 0 => L
 | k + 1 => match L[k]? with
  | some x => setR (moveTo es L k) x.1 (movedR es (moveTo es L k) x.2)
  | none => moveTo es L k
def moveT (es : List Ed) (L : Tb) : Tb := moveTo es L L.length
theorem moveTo_step (es : List Ed) {L : Tb} {k : Nat} {x : Int × Rg} (h : L[k]? = some x) : moveTo es L (k + 1) = setR (moveTo es L k) x.1 (movedR es (moveTo es L k) x.2) := by
 rw [moveTo.eq_2, h]
theorem moveTo_ids (es : List Ed) (L : Tb) (k : Nat) : idsR (moveTo es L k) = idsR L := by
 induction k with
 | zero => rfl
 | succ k ih =>
  unfold moveTo
  split
  ·rw [setR_ids, ih]
  ·exact ih
theorem moveTo_len (es : List Ed) (L : Tb) (k : Nat) : (moveTo es L k).length = L.length := by
 have := congrArg List.length (moveTo_ids es L k)
 simpa [idsR] using this
theorem once_at {L : Tb} (ho : Once L) {i j : Nat} {x y : Int × Rg} (hx : L[i]? = some x) (hy : L[j]? = some y) (h : x.1 = y.1) : i = j := by
 obtain ⟨hi, rfl⟩ := List.getElem?_eq_some_iff.1 hx
 obtain ⟨hj, rfl⟩ := List.getElem?_eq_some_iff.1 hy
 have hp := List.pairwise_iff_getElem.1 ho
 rcases Nat.lt_trichotomy i j with h1 | h1 | h1
 ·exact absurd h (hp i j hi hj h1)
 ·exact h1
 ·exact absurd h.symm (hp j i hj hi h1)
theorem moveTo_rest (es : List Ed) {L : Tb} (ho : Once L) : ∀ (k j : Nat) (x : Int × Rg), k ≤ j → L[j]? = some x → getR (moveTo es L k) x.1 = some x.2 := by
 intro k
 induction k with
 | zero => intro j x _ hx; exact getR_of_mem ho (List.mem_of_getElem? hx)
 | succ k ih =>
  intro j x hk hx
  unfold moveTo
  split
  ·rename_i y hy
   rw [getR_set_other]
   ·exact ih j x (by omega) hx
   ·intro e
    have := once_at ho hx hy e
    omega
  ·exact ih j x (by omega) hx
theorem fold_bd {right : Bool} : ∀ (R : List Ed) (o m : Int), (∀ e ∈ R, EdOk e) → 0 ≤ o → o ≤ m → 65536 ≤ m → 0 ≤ R.foldl (oneE right) o ∧ R.foldl (oneE right) o ≤ m + R.length * 100000 := by
 intro R
 induction R with
 | nil => intro o m _ h0 h1 _; simp; omega
 | cons e t ih =>
  intro o m hok h0 h1 h2
  have hb := oneE_bd (right := right) (hok e List.mem_cons_self) h0 h1 h2
  have := ih (oneE right o e) (m + 100000) (fun e he => hok e (List.mem_cons_of_mem _ he)) hb.1 hb.2 (by omega)
  rw [List.foldl_cons, List.length_cons]
  have e1 : ((t.length + 1 : Nat) : Int) = (t.length : Int) + 1 := by omega
  rw [e1]
  omega
theorem moveE_bd {right : Bool} {es : List Ed} {o m : Int} (hok : ∀ e ∈ es, EdOk e) (hn : es.length ≤ 19) (h0 : 0 ≤ o) (h1 : o ≤ m) (h2 : 65536 ≤ m) : 0 ≤ moveE right es o ∧ moveE right es o ≤ m + 2000000 := by
 have hl : (sorted lessE es).reverse.length = es.length := by rw [List.length_reverse, sorted_length]
 have := fold_bd (right := right) (sorted lessE es).reverse o m (fun e he => hok e ((sorted_mem lessE es e).1 (List.mem_reverse.1 he))) h0 h1 h2
 rw [hl] at this
 unfold moveE
 omega
theorem movedR_u (es : List Ed) (M : Tb) (r : Rg) : (movedR es M r).u = r.u := by unfold movedR; split <;> rfl
theorem movedR_bd {es : List Ed} {M : Tb} {r : Rg} {B : Int} (hok : ∀ e ∈ es, EdOk e) (hn : es.length ≤ 19) (h2 : 65536 ≤ B) (hr : 0 ≤ r.a ∧ r.a ≤ r.b ∧ r.b ≤ B) (hM : ∀ id up, getR M id = some up → 0 ≤ up.a ∧ up.a ≤ up.b ∧ up.b ≤ B + 2000000) :
  0 ≤ (movedR es M r).a ∧ (movedR es M r).a ≤ (movedR es M r).b ∧ (movedR es M r).b ≤ B + 2000000 := by
 have ha := moveE_bd (right := r.p) (o := r.a) hok hn hr.1 (show r.a ≤ B by omega) h2
 have hb := moveE_bd (right := r.q) (o := r.b) hok hn (by omega) hr.2.2 h2
 unfold movedR
 generalize moveE r.p es r.a = p at *
 generalize moveE r.q es r.b = q at *
 split
 ·simp only; omega
 ·rename_i up hup
  have := hM _ _ hup
  simp only [clampI]; omega
theorem Tok.moveTo {L : Tb} {last B : Int} (h : Tok L last B) {es : List Ed} (hok : ∀ e ∈ es, EdOk e) (hn : es.length ≤ 19) (h2 : 65536 ≤ B) : ∀ k, Tok (moveTo es L k) last (B + 2000000) := by
 intro k
 induction k with
 | zero => exact h.mono (by omega)
 | succ k ih =>
  unfold Gim.moveTo
  split
  ·rename_i x hx
   refine ih.set (moveTo_rest es h.once k k x (Nat.le_refl _) hx) (movedR_u _ _ _) (movedR_bd hok hn h2 (h.bd x (List.mem_of_getElem? hx)) (fun id up hup => ?_))
   exact ih.bd _ (getR_mem hup)
  ·exact ih
theorem Tok.move {L : Tb} {last B : Int} (h : Tok L last B) {es : List Ed} (hok : ∀ e ∈ es, EdOk e) (hn : es.length ≤ 19) (h2 : 65536 ≤ B) : Tok (moveT es L) last (B + 2000000) := h.moveTo hok hn h2 L.length
/-! ### struck -/
def keepT (id : Int) (K : Tb) : Tb → Tb
 | [] => K
 | x :: t => if x.1 = id ∨ x.2.u ≠ 0 ∧ getR K x.2.u = none then keepT id K t else keepT id (K ++ [x]) t
def dropT (L : Tb) (id : Int) : Tb := keepT id [] L
theorem keepT_split (id : Int) : ∀ (t K : Tb), ∃ s : Tb, keepT id K t = K ++ s ∧ s.Sublist t := by
 intro t
 induction t with
 | nil => intro K; exact ⟨[], (List.append_nil _).symm, List.Sublist.refl _⟩
 | cons x t ih =>
  intro K
  unfold keepT
  split
  ·obtain ⟨s, h1, h2⟩ := ih K
   exact ⟨s, h1, h2.cons _⟩
  ·obtain ⟨s, h1, h2⟩ := ih (K ++ [x])
   exact ⟨x :: s, by rw [h1, List.append_assoc]; rfl, h2.cons_cons _⟩
theorem dropT_sub (L : Tb) (id : Int) : (dropT L id).Sublist L := by
 obtain ⟨s, h1, h2⟩ := keepT_split id L []
 unfold dropT
 rw [h1]; exact h2
theorem keepT_up (id : Int) : ∀ (t K : Tb), (∀ x ∈ K, x.2.u = 0 ∨ (getR K x.2.u).isSome = true) → ∀ x ∈ keepT id K t, x.2.u = 0 ∨ (getR (keepT id K t) x.2.u).isSome = true := by
 intro t
 induction t with
 | nil => intro K h; exact h
 | cons y t ih =>
  intro K h
  unfold keepT
  split
  ·exact ih K h
  ·rename_i hc
   refine ih (K ++ [y]) (fun x hx => ?_)
   have hs : ∀ j, (getR K j).isSome = true → (getR (K ++ [y]) j).isSome = true := by
    intro j hj
    obtain ⟨q, hq⟩ := Option.isSome_iff_exists.1 hj
    rw [getR_append, hq]; rfl
   rcases List.mem_append.1 hx with hx | hx
   ·rcases h x hx with e | e
    ·exact .inl e
    ·exact .inr (hs _ e)
   ·rw [List.mem_singleton.1 hx]
    by_cases hu : y.2.u = 0
    ·exact .inl hu
    ·right
     refine hs _ ?_
     cases hg : getR K y.2.u with
     | some q => rfl
     | none => exact absurd (.inr ⟨hu, hg⟩) hc
theorem Tok.drop {L : Tb} {last B : Int} (h : Tok L last B) (id : Int) : Tok (dropT L id) last B := by
 have hs := dropT_sub L id
 refine ⟨?_, fun x hx => h.ids x (hs.subset hx), fun x hx => ?_, fun x hx => h.bd x (hs.subset hx), Nat.le_trans hs.length_le h.len, h.last0⟩
 ·exact h.rise.sublist (hs.map _)
 ·rcases keepT_up id L [] (by simp) x hx with e | e
  ·exact .inl e
  ·rcases h.up x (hs.subset hx) with e2 | e2
   ·exact .inl e2
   ·exact .inr ⟨e2.1, e⟩
def WhereI (l : List Int) (id R : Int) : Prop := (∃ k : Nat, R = k ∧ l[k]? = some id ∧ ∀ j, j < k → l[j]? ≠ some id) ∨ (R = -1 ∧ ∀ j : Nat, l[j]? ≠ some id)
theorem whereI_at {L : Tb} (ho : Once L) {k : Nat} {x : Int × Rg} (hx : L[k]? = some x) : WhereI (idsR L) x.1 k := by
 refine .inl ⟨k, rfl, by unfold idsR; rw [List.getElem?_map, hx]; rfl, fun j hj he => ?_⟩
 unfold idsR at he
 rw [List.getElem?_map] at he
 cases hy : L[j]? with
 | none => rw [hy] at he; cases he
 | some y =>
  rw [hy] at he
  have := once_at ho hy hx (by simpa using he)
  omega
theorem whereI_no {L : Tb} {id : Int} (h : getR L id = none) : WhereI (idsR L) id (-1) := by
 refine .inr ⟨rfl, fun j he => ?_⟩
 unfold idsR at he
 rw [List.getElem?_map] at he
 cases hy : L[j]? with
 | none => rw [hy] at he; cases he
 | some y =>
  rw [hy] at he
  exact getR_none h y (List.mem_of_getElem? hy) (by simpa using he)
theorem getR_place {L : Tb} {id : Int} {r : Rg} (h : getR L id = some r) : ∃ k : Nat, L[k]? = some (id, r) := by
 obtain ⟨k, hk, he⟩ := List.getElem_of_mem (getR_mem h)
 exact ⟨k, by rw [List.getElem?_eq_getElem hk, he]⟩
theorem setR_map {L : Tb} (ho : Once L) {k : Nat} {x : Int × Rg} (hx : L[k]? = some x) (r : Rg) : (setR L x.1 r).map (·.2) = (L.map (·.2)).set k r := by
 refine List.ext_getElem? fun i => ?_
 unfold setR
 rw [List.map_map, List.getElem?_map, List.getElem?_set, List.length_map]
 have hk := (List.getElem?_eq_some_iff.1 hx).1
 by_cases e : k = i
 ·subst e
  rw [if_pos rfl, if_pos hk, hx]
  simp
 ·rw [if_neg e, List.getElem?_map]
  cases hy : L[i]? with
  | none => rfl
  | some y =>
   have hne : ¬ y.1 = x.1 := fun h => e (once_at ho hx hy h.symm)
   simp [hne]
end Go.Gim

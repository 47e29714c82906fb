/- A table of ranges moved by edits, one range behind the other, plain; ranges struck with all that lie in them. Conditions: none. -/
import Derived.Test.YtffplppglicibaaGimTableP
namespace Go.Gim

def clampI (lo hi x : Int) : Int := min (max x lo) hi
/-- A range moved, as the table M stands. -/
def movedR (es : List Ed) (M : Tb) (r : Rg) : Rg :=
  match getR M r.u with
  | none => ⟨min (moveE r.p es r.a) (moveE r.q es r.b), moveE r.q es r.b, r.p, r.q, r.u⟩
  | some up => ⟨clampI up.a up.b (min (moveE r.p es r.a) (moveE r.q es r.b)), clampI up.a up.b (moveE r.q es r.b), r.p, r.q, r.u⟩
/-- The first k ranges moved. -/
def moveTo (es : List Ed) (L : Tb) : Nat → Tb
  | 0 => L
  | k + 1 => match L[k]? with
    | some x => setR (moveTo es L k) x.1 (movedR es (moveTo es L k) x.2)
    | none => moveTo es L k
def moveT (es : List Ed) (L : Tb) : Tb := moveTo es L L.length

theorem moveTo_step (es : List Ed) {L : Tb} {k : Nat} {x : Int × Rg} (h : L[k]? = some x) : moveTo es L (k + 1) = setR (moveTo es L k) x.1 (movedR es (moveTo es L k) x.2) := by
  rw [moveTo.eq_2, h]
theorem moveTo_ids (es : List Ed) (L : Tb) (k : Nat) : idsR (moveTo es L k) = idsR L := by
  induction k with
  | zero => rfl
  | succ k ih =>
    unfold moveTo
    split
    · rw [setR_ids, ih]
    · exact ih
theorem moveTo_len (es : List Ed) (L : Tb) (k : Nat) : (moveTo es L k).length = L.length := by
  have := congrArg List.length (moveTo_ids es L k)
  simpa [idsR] using this
theorem once_at {L : Tb} (ho : Once L) {i j : Nat} {x y : Int × Rg} (hx : L[i]? = some x) (hy : L[j]? = some y) (h : x.1 = y.1) : i = j := by
  obtain ⟨hi, rfl⟩ := List.getElem?_eq_some_iff.1 hx
  obtain ⟨hj, rfl⟩ := List.getElem?_eq_some_iff.1 hy
  have hp := List.pairwise_iff_getElem.1 ho
  rcases Nat.lt_trichotomy i j with h1 | h1 | h1
  · exact absurd h (hp i j hi hj h1)
  · exact h1
  · exact absurd h.symm (hp j i hj hi h1)
theorem moveTo_rest (es : List Ed) {L : Tb} (ho : Once L) : ∀ (k j : Nat) (x : Int × Rg), k ≤ j → L[j]? = some x → getR (moveTo es L k) x.1 = some x.2 := by
  intro k
  induction k with
  | zero => intro j x _ hx; exact getR_of_mem ho (List.mem_of_getElem? hx)
  | succ k ih =>
    intro j x hk hx
    unfold moveTo
    split
    · rename_i y hy
      rw [getR_set_other]
      · exact ih j x (by omega) hx
      · intro e
        have := once_at ho hx hy e
        omega
    · exact ih j x (by omega) hx
theorem fold_bd {right : Bool} : ∀ (R : List Ed) (o m : Int), (∀ e ∈ R, EdOk e) → 0 ≤ o → o ≤ m → 65536 ≤ m → 0 ≤ R.foldl (oneE right) o ∧ R.foldl (oneE right) o ≤ m + R.length * 100000 := by
  intro R
  induction R with
  | nil => intro o m _ h0 h1 _; simp; omega
  | cons e t ih =>
    intro o m hok h0 h1 h2
    have hb := oneE_bd (right := right) (hok e List.mem_cons_self) h0 h1 h2
    have := ih (oneE right o e) (m + 100000) (fun e he => hok e (List.mem_cons_of_mem _ he)) hb.1 hb.2 (by omega)
    rw [List.foldl_cons, List.length_cons]
    have e1 : ((t.length + 1 : Nat) : Int) = (t.length : Int) + 1 := by omega
    rw [e1]
    omega
theorem moveE_bd {right : Bool} {es : List Ed} {o m : Int} (hok : ∀ e ∈ es, EdOk e) (hn : es.length ≤ 19) (h0 : 0 ≤ o) (h1 : o ≤ m) (h2 : 65536 ≤ m) : 0 ≤ moveE right es o ∧ moveE right es o ≤ m + 2000000 := by
  have hl : (sorted lessE es).reverse.length = es.length := by rw [List.length_reverse, sorted_length]
  have := fold_bd (right := right) (sorted lessE es).reverse o m (fun e he => hok e ((sorted_mem lessE es e).1 (List.mem_reverse.1 he))) h0 h1 h2
  rw [hl] at this
  unfold moveE
  omega
theorem movedR_u (es : List Ed) (M : Tb) (r : Rg) : (movedR es M r).u = r.u := by unfold movedR; split <;> rfl
theorem movedR_bd {es : List Ed} {M : Tb} {r : Rg} {B : Int} (hok : ∀ e ∈ es, EdOk e) (hn : es.length ≤ 19) (h2 : 65536 ≤ B) (hr : 0 ≤ r.a ∧ r.a ≤ r.b ∧ r.b ≤ B) (hM : ∀ id up, getR M id = some up → 0 ≤ up.a ∧ up.a ≤ up.b ∧ up.b ≤ B + 2000000) :
    0 ≤ (movedR es M r).a ∧ (movedR es M r).a ≤ (movedR es M r).b ∧ (movedR es M r).b ≤ B + 2000000 := by
  have ha := moveE_bd (right := r.p) (o := r.a) hok hn hr.1 (show r.a ≤ B by omega) h2
  have hb := moveE_bd (right := r.q) (o := r.b) hok hn (by omega) hr.2.2 h2
  unfold movedR
  generalize moveE r.p es r.a = p at *
  generalize moveE r.q es r.b = q at *
  split
  · simp only; omega
  · rename_i up hup
    have := hM _ _ hup
    simp only [clampI]; omega
theorem Tok.moveTo {L : Tb} {last B : Int} (h : Tok L last B) {es : List Ed} (hok : ∀ e ∈ es, EdOk e) (hn : es.length ≤ 19) (h2 : 65536 ≤ B) : ∀ k, Tok (moveTo es L k) last (B + 2000000) := by
  intro k
  induction k with
  | zero => exact h.mono (by omega)
  | succ k ih =>
    unfold Gim.moveTo
    split
    · rename_i x hx
      refine ih.set (moveTo_rest es h.once k k x (Nat.le_refl _) hx) (movedR_u _ _ _) (movedR_bd hok hn h2 (h.bd x (List.mem_of_getElem? hx)) (fun id up hup => ?_))
      exact ih.bd _ (getR_mem hup)
    · exact ih
theorem Tok.move {L : Tb} {last B : Int} (h : Tok L last B) {es : List Ed} (hok : ∀ e ∈ es, EdOk e) (hn : es.length ≤ 19) (h2 : 65536 ≤ B) : Tok (moveT es L) last (B + 2000000) := h.moveTo hok hn h2 L.length

/-! ### struck -/
/-- What is kept of the rest, K kept so far: not the one struck, nor what lies in one that is not kept. -/
def keepT (id : Int) (K : Tb) : Tb → Tb
  | [] => K
  | x :: t => if x.1 = id ∨ x.2.u ≠ 0 ∧ getR K x.2.u = none then keepT id K t else keepT id (K ++ [x]) t
def dropT (L : Tb) (id : Int) : Tb := keepT id [] L
theorem keepT_split (id : Int) : ∀ (t K : Tb), ∃ s : Tb, keepT id K t = K ++ s ∧ s.Sublist t := by
  intro t
  induction t with
  | nil => intro K; exact ⟨[], (List.append_nil _).symm, List.Sublist.refl _⟩
  | cons x t ih =>
    intro K
    unfold keepT
    split
    · obtain ⟨s, h1, h2⟩ := ih K
      exact ⟨s, h1, h2.cons _⟩
    · obtain ⟨s, h1, h2⟩ := ih (K ++ [x])
      exact ⟨x :: s, by rw [h1, List.append_assoc]; rfl, h2.cons_cons _⟩
theorem dropT_sub (L : Tb) (id : Int) : (dropT L id).Sublist L := by
  obtain ⟨s, h1, h2⟩ := keepT_split id L []
  unfold dropT
  rw [h1]; exact h2
theorem keepT_up (id : Int) : ∀ (t K : Tb), (∀ x ∈ K, x.2.u = 0 ∨ (getR K x.2.u).isSome = true) → ∀ x ∈ keepT id K t, x.2.u = 0 ∨ (getR (keepT id K t) x.2.u).isSome = true := by
  intro t
  induction t with
  | nil => intro K h; exact h
  | cons y t ih =>
    intro K h
    unfold keepT
    split
    · exact ih K h
    · rename_i hc
      refine ih (K ++ [y]) (fun x hx => ?_)
      have hs : ∀ j, (getR K j).isSome = true → (getR (K ++ [y]) j).isSome = true := by
        intro j hj
        obtain ⟨q, hq⟩ := Option.isSome_iff_exists.1 hj
        rw [getR_append, hq]; rfl
      rcases List.mem_append.1 hx with hx | hx
      · rcases h x hx with e | e
        · exact .inl e
        · exact .inr (hs _ e)
      · rw [List.mem_singleton.1 hx]
        by_cases hu : y.2.u = 0
        · exact .inl hu
        · right
          refine hs _ ?_
          cases hg : getR K y.2.u with
          | some q => rfl
          | none => exact absurd (.inr ⟨hu, hg⟩) hc
theorem Tok.drop {L : Tb} {last B : Int} (h : Tok L last B) (id : Int) : Tok (dropT L id) last B := by
  have hs := dropT_sub L id
  refine ⟨?_, fun x hx => h.ids x (hs.subset hx), fun x hx => ?_, fun x hx => h.bd x (hs.subset hx), Nat.le_trans hs.length_le h.len, h.last0⟩
  · exact h.rise.sublist (hs.map _)
  · rcases keepT_up id L [] (by simp) x hx with e | e
    · exact .inl e
    · rcases h.up x (hs.subset hx) with e2 | e2
      · exact .inl e2
      · exact .inr ⟨e2.1, e⟩
/-- What is told of a number: those with a property, in order. -/
def idsBy (so : Rg → Bool) (L : Tb) : List Int := idsR (L.filter fun x => so x.2)
end Go.Gim

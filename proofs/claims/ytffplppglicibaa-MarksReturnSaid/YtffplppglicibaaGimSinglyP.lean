/- Ranges without parents go by edits that are apart where they go by each of these alone, from the last one to the first: plain. Conditions: none. -/
import Derived.Test.YtffplppglicibaaGimWithinP
namespace Go.Gim
theorem place_end {α : Type} (less : α → α → Bool) (x : α) (out : List α) (h : ∀ y ∈ out, less x y = false) : place less x out out.length = out.length := by
  cases hn : out.length with
  | zero => rfl
  | succ k =>
    rw [place.eq_2]
    split
    · rename_i y hy
      rw [if_neg (by rw [h y (List.mem_of_getElem? hy)]; decide)]
    · rfl
theorem sorted_self {α : Type} (less : α → α → Bool) (l : List α) (h : l.Pairwise (fun x y => less y x = false)) : sorted less l = l := by
  have : ∀ k, k ≤ l.length → sorted less (l.take k) = l.take k := by
    intro k
    induction k with
    | zero => intro _; rfl
    | succ k ih =>
      intro hk
      have hk' : k < l.length := by omega
      rw [List.take_succ_eq_append_getElem hk', sorted_snoc, ih (by omega)]
      unfold insR
      rw [place_end less _ _ (fun y hy => ?_)]
      · rw [List.take_of_length_le (Nat.le_refl _), List.drop_of_length_le (Nat.le_refl _)]
      · obtain ⟨i, hi, rfl⟩ := List.getElem_of_mem hy
        rw [List.length_take] at hi
        rw [List.getElem_take]
        exact List.pairwise_iff_getElem.1 h i k (by omega) hk' (by omega)
  have h2 := this l.length (Nat.le_refl _)
  rwa [List.take_of_length_le (Nat.le_refl _)] at h2
/-- Edits one behind the other, a byte between. -/
def Asc (es : List Ed) : Prop := (∀ e ∈ es, e.a ≤ e.b) ∧ es.Pairwise (fun e f => e.b < f.a)
theorem asc_sorted {es : List Ed} (h : Asc es) : sorted lessE es = es := by
  refine sorted_self lessE es ?_
  refine List.Pairwise.imp_of_mem ?_ h.2
  intro e f he hf hlt
  have := h.1 e he
  unfold lessE lessB
  refine decide_eq_false ?_
  simp only
  omega
theorem asc_ranged {es : List Ed} (h : Asc es) (hm : ∀ e ∈ es, 0 ≤ e.a ∧ e.b ≤ 65536) : rangedE 65536 es = 0 := by
  unfold rangedE
  rw [if_pos, if_pos]
  · refine apartB_yes (fun i hi => ?_)
    have hs : sorted lessB (es.map edS) = es.map edS := by
      refine sorted_self lessB _ ?_
      rw [List.pairwise_map]
      refine List.Pairwise.imp_of_mem ?_ h.2
      intro e f he hf hlt
      have := h.1 e he
      unfold lessB edS
      refine decide_eq_false ?_
      simp only
      omega
    rw [hs]
    rw [List.length_map] at hi
    have hx : (es.map edS)[i]? = some (edS es[i]) := by rw [List.getElem?_map, List.getElem?_eq_getElem hi]; rfl
    rw [okAt_yes hx]
    refine ⟨h.1 _ (List.getElem_mem hi), fun j y e hy => ?_⟩
    subst e
    rw [List.getElem?_map, List.getElem?_eq_getElem (by omega : j < es.length)] at hy
    cases hy
    have := List.pairwise_iff_getElem.1 h.2 j (j + 1) (by omega) hi (by omega)
    have h3 := h.1 _ (List.getElem_mem (show j < es.length by omega))
    unfold edS
    simp only
    omega
  · refine List.all_eq_true.2 (fun e he => ?_)
    have := hm e he
    have := h.1 e he
    unfold mayS edS
    refine decide_eq_true ?_
    simp only
    omega
/-- A range without a parent, moved. -/
def mvR (es : List Ed) (r : Rg) : Rg := ⟨min (moveE r.p es r.a) (moveE r.q es r.b), moveE r.q es r.b, r.p, r.q, r.u⟩
theorem moveE_one' (right : Bool) (e : Ed) (o : Int) : moveE right [e] o = oneE right o e := rfl
theorem oneE_low {right : Bool} {o : Int} {e : Ed} (h : e.b < o) (h1 : e.a ≤ e.b) : oneE right o e = o + ((e.t.size : Int) - (e.b - e.a)) := by
  unfold oneE; rw [if_neg (by omega), if_pos h]
theorem oneE_ge {right : Bool} {o : Int} {e : Ed} (h : e.a ≤ o) (h1 : e.a ≤ e.b) : e.a ≤ oneE right o e := by
  unfold oneE
  rw [if_neg (by omega)]
  split
  · omega
  · split <;> omega
theorem fold_min (p q : Bool) : ∀ (R : List Ed) (x y z : Int), (∀ e ∈ R, e.a ≤ e.b) → R.Pairwise (fun e f => f.b < e.a) → (z = x ∧ x ≤ y ∨ z = y ∧ y < x ∧ ∀ e ∈ R, e.b < y) →
    R.foldl (fun (s : Int × Int) e => (min (oneE p s.1 e) (oneE q s.2 e), oneE q s.2 e)) (z, y) = (min (R.foldl (oneE p) x) (R.foldl (oneE q) y), R.foldl (oneE q) y) := by
  intro R
  induction R with
  | nil => intro x y z _ _ h; simp only [List.foldl_nil]; congr 1; omega
  | cons e R ih =>
    intro x y z h1 h2 h
    obtain ⟨h3, h4⟩ := List.pairwise_cons.1 h2
    have he := h1 e List.mem_cons_self
    simp only [List.foldl_cons]
    refine ih _ _ _ (fun f hf => h1 f (List.mem_cons_of_mem _ hf)) h4 ?_
    rcases h with ⟨rfl, hxy⟩ | ⟨rfl, hyx, hall⟩
    · by_cases hc : oneE p z e ≤ oneE q y e
      · exact .inl ⟨by omega, hc⟩
      · refine .inr ⟨by omega, by omega, fun f hf => ?_⟩
        have hfa := h3 f hf
        by_cases hy : y < e.a
        · exfalso
          apply hc
          unfold oneE
          rw [if_pos hy, if_pos (by omega)]
          exact hxy
        · have := oneE_ge (right := q) (o := y) (e := e) (by omega) he
          omega
    · have hb := hall e List.mem_cons_self
      have e1 := oneE_low (right := p) (o := z) hb he
      have e2 := oneE_low (right := q) (o := z) hb he
      have e3 := oneE_low (right := p) (o := x) (e := e) (by omega) he
      rw [e1, e2, e3]
      refine .inr ⟨by omega, by omega, fun f hf => ?_⟩
      have := h3 f hf
      omega
theorem fold_pair (p q : Bool) (u : Int) : ∀ (R : List Ed) (a b : Int), R.foldl (fun (r : Rg) e => mvR [e] r) ⟨a, b, p, q, u⟩ =
    ⟨(R.foldl (fun (s : Int × Int) e => (min (oneE p s.1 e) (oneE q s.2 e), oneE q s.2 e)) (a, b)).1, (R.foldl (fun (s : Int × Int) e => (min (oneE p s.1 e) (oneE q s.2 e), oneE q s.2 e)) (a, b)).2, p, q, u⟩ := by
  intro R
  induction R with
  | nil => intro a b; rfl
  | cons e R ih =>
    intro a b
    simp only [List.foldl_cons]
    have : mvR [e] ⟨a, b, p, q, u⟩ = ⟨min (oneE p a e) (oneE q b e), oneE q b e, p, q, u⟩ := rfl
    rw [this, ih]
/-- Moved at once as by each alone. -/
theorem mv_singly {es : List Ed} (h : Asc es) (r : Rg) (hr : r.a ≤ r.b) : es.reverse.foldl (fun (r : Rg) e => mvR [e] r) r = mvR es r := by
  obtain ⟨a, b, p, q, u⟩ := r
  simp only at hr
  rw [fold_pair, fold_min p q es.reverse a b a (fun e he => h.1 e (List.mem_reverse.1 he)) (List.pairwise_reverse.2 h.2) (.inl ⟨rfl, hr⟩)]
  unfold mvR moveE
  rw [asc_sorted h]
theorem map_same {α : Type} {f : α → α} {l : List α} (h : ∀ y ∈ l, f y = y) : l.map f = l := by
  induction l with
  | nil => rfl
  | cons x t ih => rw [List.map_cons, h x List.mem_cons_self, ih (fun y hy => h y (List.mem_cons_of_mem _ hy))]
/-- A table without parents, moved. -/
theorem moveT_free {L : Tb} {last B : Int} (hT : Tok L last B) (hu : ∀ x ∈ L, x.2.u = 0) (es : List Ed) : moveT es L = L.map fun x => (x.1, mvR es x.2) := by
  have hk : ∀ k, k ≤ L.length → moveTo es L k = (L.take k).map (fun x => (x.1, mvR es x.2)) ++ L.drop k := by
    intro k
    induction k with
    | zero => intro _; rfl
    | succ k ih =>
      intro hk
      have hk' : k < L.length := by omega
      have hx : L[k]? = some L[k] := List.getElem?_eq_getElem hk'
      have hz : getR (moveTo es L k) 0 = none := by
        refine getR_none_of (fun y hy => ?_)
        have : y.1 ∈ idsR (moveTo es L k) := List.mem_map.2 ⟨y, hy, rfl⟩
        rw [moveTo_ids] at this
        obtain ⟨z, hz, hzy⟩ := List.mem_map.1 this
        have := hT.ids z hz
        omega
      rw [moveTo_step es hx]
      have hm : movedR es (moveTo es L k) L[k].2 = mvR es L[k].2 := by
        unfold movedR
        rw [hu _ (List.getElem_mem hk'), hz]
        unfold mvR
        rw [hu _ (List.getElem_mem hk')]
      rw [hm, ih (by omega), List.drop_eq_getElem_cons hk']
      have ho := hT.once
      have hp := List.pairwise_iff_getElem.1 ho
      unfold setR
      rw [List.map_append, List.map_cons, if_pos rfl, List.take_succ_eq_append_getElem hk', List.map_append, List.append_assoc]
      rw [map_same (l := (L.take k).map fun x => (x.1, mvR es x.2)) (fun y hy => ?_), map_same (l := L.drop (k + 1)) (fun y hy => ?_)]
      · rfl
      · obtain ⟨i, hi, rfl⟩ := List.getElem_of_mem hy
        rw [List.length_drop] at hi
        rw [List.getElem_drop]
        rw [if_neg]
        exact fun e => hp k (k + 1 + i) hk' (by omega) (by omega) e.symm
      · obtain ⟨z, hz1, rfl⟩ := List.mem_map.1 hy
        obtain ⟨i, hi, rfl⟩ := List.getElem_of_mem hz1
        rw [List.length_take] at hi
        rw [List.getElem_take]
        rw [if_neg]
        exact hp i k (by omega) hk' (by omega)
  have := hk L.length (Nat.le_refl _)
  rw [List.take_of_length_le (Nat.le_refl _), List.drop_of_length_le (Nat.le_refl _), List.append_nil] at this
  exact this
/-- The edits from the c-th on done, each alone, from the last one to the first. -/
def singR (es : List Ed) (c : Nat) (r : Rg) : Rg := (es.drop c).reverse.foldl (fun (r : Rg) e => mvR [e] r) r
def singT (es : List Ed) (L : Tb) (c : Nat) : Tb := L.map fun x => (x.1, singR es c x.2)
theorem singR_u (es : List Ed) (c : Nat) (r : Rg) : (singR es c r).u = r.u := by
  unfold singR
  generalize (es.drop c).reverse = R
  induction R generalizing r with
  | nil => rfl
  | cons e R ih => rw [List.foldl_cons, ih]; rfl
theorem singR_step {es : List Ed} {c : Nat} {e : Ed} (h : es[c]? = some e) (r : Rg) : singR es c r = mvR [e] (singR es (c + 1) r) := by
  obtain ⟨hc, rfl⟩ := List.getElem?_eq_some_iff.1 h
  unfold singR
  rw [List.drop_eq_getElem_cons hc, List.reverse_cons, List.foldl_append]
  rfl
theorem singT_all (es : List Ed) (L : Tb) {c : Nat} (h : es.length ≤ c) : singT es L c = L := by
  unfold singT singR
  rw [List.drop_of_length_le h]
  exact map_same (fun _ _ => rfl)
theorem singT_step {es : List Ed} {L : Tb} {c : Nat} {e : Ed} {last B : Int} (h : es[c]? = some e) (hT : Tok (singT es L (c + 1)) last B) (hu : ∀ x ∈ L, x.2.u = 0) : moveT [e] (singT es L (c + 1)) = singT es L c := by
  rw [moveT_free hT (fun x hx => ?_)]
  · unfold singT
    rw [List.map_map]
    refine List.map_congr_left (fun x _ => ?_)
    simp only [Function.comp, singR_step h]
  · obtain ⟨y, hy, rfl⟩ := List.mem_map.1 hx
    simp only [singR_u]
    exact hu y hy
theorem singT_tok {es : List Ed} {L : Tb} {last B : Int} (hT : Tok L last B) (hB : 65536 ≤ B) (hok : ∀ e ∈ es, EdOk e) (hu : ∀ x ∈ L, x.2.u = 0) : ∀ d, d ≤ es.length → Tok (singT es L (es.length - d)) last (B + d * 2000000) := by
  intro d
  induction d with
  | zero => intro _; rw [singT_all es L (by omega)]; exact hT.mono (by omega)
  | succ d ih =>
    intro hd
    have h1 := ih (by omega)
    have hx : es[es.length - (d + 1)]? = some (es[es.length - (d + 1)]'(by omega)) := List.getElem?_eq_getElem _
    rw [show es.length - d = es.length - (d + 1) + 1 from by omega] at h1
    rw [← singT_step hx h1 hu]
    refine (h1.move (es := [es[es.length - (d + 1)]'(by omega)]) (fun e he => ?_) (by simp) (by omega)).mono (by omega)
    rw [List.mem_singleton.1 he]
    exact hok _ (List.getElem_mem _)
theorem singT_zero {es : List Ed} {L : Tb} {last B : Int} (hT : Tok L last B) (ha : Asc es) (hu : ∀ x ∈ L, x.2.u = 0) : singT es L 0 = moveT es L := by
  rw [moveT_free hT hu]
  unfold singT
  refine List.map_congr_left (fun x hx => ?_)
  have := hT.bd x hx
  unfold singR
  rw [List.drop_zero, mv_singly ha x.2 (by omega)]
end Go.Gim

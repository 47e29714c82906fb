/- How far the deeds to a sheet's rope have come, plainly. Conditions: none. -/
import Derived.Test.YthlmgoagnfkhdaaGreatGimF39
set_option maxHeartbeats 6400000
set_option maxRecDepth 1000000
set_option linter.unusedVariables false
set_option linter.unusedSimpArgs false
namespace Go.Gim
theorem ord_drop {n : Nat} : ∀ {l : List Ed} {c i : Nat} {x : Ed}, Ord n c l → l[i]? = some x → A x ≤ Z x ∧ Ord n (Z x) (l.drop (i + 1)) ∧ c ≤ A x := by
 intro l
 induction l with
 | nil => intro c i x _ h; cases h
 | cons e r ih =>
  intro c i x h hx
  cases i with
  | zero => cases hx; exact ⟨h.2.1, h.2.2, h.1⟩
  | succ i =>
   have := ih h.2.2 (show r[i]? = some x from hx)
   have h1 := h.1
   have h2 := h.2.1
   exact ⟨this.1, this.2.1, by omega⟩
def cutTo (s : By) (l : List Ed) (i : Nat) : By := (l.drop i).foldr cutE s
theorem cutTo_all (s : By) (l : List Ed) {i : Nat} (h : l.length ≤ i) : cutTo s l i = s := by unfold cutTo; rw [List.drop_of_length_le h]; rfl
theorem cutTo_step (s : By) {l : List Ed} {i : Nat} {x : Ed} (hx : l[i]? = some x) : cutTo s l i = splice (cutTo s l (i + 1)) x.a x.b [] := by
 obtain ⟨hi, rfl⟩ := List.getElem?_eq_some_iff.1 hx
 unfold cutTo
 rw [List.drop_eq_getElem_cons hi]
 rfl
theorem cutTo_fit {s : By} {l : List Ed} {i : Nat} {x : Ed} (hO : Ord s.length 0 l) (hx : l[i]? = some x) : A x ≤ Z x ∧ Z x ≤ (cutTo s l (i + 1)).length := by
 obtain ⟨h1, h2, _⟩ := ord_drop hO hx
 refine ⟨h1, ?_⟩
 unfold cutTo
 rw [cut_all_is s _ (Z x) h2, List.length_append, List.length_take]
 have := h2.le
 omega
def putTo (s : By) (l : List Ed) (k : Nat) : By × Int := (l.take k).foldl putE (l.foldr cutE s, 0)
theorem putTo_step (s : By) {l : List Ed} {k : Nat} {x : Ed} (hx : l[k]? = some x) : putTo s l (k + 1) = putE (putTo s l k) x := by
 obtain ⟨hk, rfl⟩ := List.getElem?_eq_some_iff.1 hx
 unfold putTo
 rw [List.take_succ_eq_append_getElem hk, List.foldl_append]
 rfl
theorem putTo_zero (s : By) (l : List Ed) : putTo s l 0 = (cutTo s l 0, 0) := by unfold putTo cutTo; rw [List.drop_zero]; rfl
theorem putTo_all {s : By} {l : List Ed} (hO : Ord s.length 0 l) (h0 : ∀ e ∈ l, 0 ≤ e.a ∧ 0 ≤ e.b) {k : Nat} (hk : l.length ≤ k) : (putTo s l k).1 = l.foldr doE s := by
 unfold putTo
 rw [List.take_of_length_le hk]
 exact two_ways s hO h0
theorem putTo_in {s : By} {l : List Ed} (hO : Ord s.length 0 l) (h0 : ∀ e ∈ l, 0 ≤ e.a ∧ 0 ≤ e.b) : ∀ k, k ≤ l.length → ∃ (P : By) (c : Nat), (putTo s l k).1 = P ++ less s c (l.drop k) ∧ (P.length : Int) = c + (putTo s l k).2 ∧ Ord s.length c (l.drop k) := by
 intro k
 induction k with
 | zero => intro _; exact ⟨[], 0, by rw [putTo_zero]; unfold cutTo; rw [List.drop_zero, cut_all_is s l 0 hO]; rfl, by rw [putTo_zero]; rfl, hO⟩
 | succ k ih =>
  intro hk
  obtain ⟨P, c, h1, h2, h3⟩ := ih (by omega)
  have hkl : k < l.length := by omega
  rw [List.drop_eq_getElem_cons hkl] at h1 h3
  obtain ⟨p1, p2⟩ := h0 _ (List.getElem_mem hkl)
  have hst := putTo_step s (List.getElem?_eq_getElem hkl)
  generalize l[k] = e at *
  have hA : ((A e : Nat) : Int) = e.a := Int.toNat_of_nonneg p1
  have hZe : ((Z e : Nat) : Int) = e.b := Int.toNat_of_nonneg p2
  obtain ⟨o1, o2, o3⟩ := h3
  have hZ := o3.le
  have hlen : (((s.take (A e)).drop c).length : Int) = A e - c := by rw [List.length_drop, List.length_take]; omega
  refine ⟨P ++ (s.take (A e)).drop c ++ e.t.data.toList, Z e, ?_, ?_, o3⟩
  ·rw [hst]
   unfold putE
   rw [h1]
   show splice (P ++ ((s.take (A e)).drop c ++ less s (Z e) (l.drop (k + 1)))) _ _ _ = _
   unfold splice
   have hn : (e.a + (putTo s l k).2).toNat = (P ++ (s.take (A e)).drop c).length := by rw [List.length_append]; omega
   have e1 : P ++ ((s.take (A e)).drop c ++ less s (Z e) (l.drop (k + 1))) = (P ++ (s.take (A e)).drop c) ++ less s (Z e) (l.drop (k + 1)) := (List.append_assoc ..).symm
   rw [e1, hn, List.take_left, List.drop_left]
   exact (List.append_assoc ..).symm
  ·rw [hst]
   unfold putE
   simp only
   rw [List.length_append, List.length_append]
   have : e.t.data.toList.length = e.t.size := rfl
   unfold dE
   omega
theorem putTo_fit {s : By} {l : List Ed} (hO : Ord s.length 0 l) (h0 : ∀ e ∈ l, 0 ≤ e.a ∧ 0 ≤ e.b) {k : Nat} {e : Ed} (he : l[k]? = some e) : 0 ≤ e.a + (putTo s l k).2 ∧ e.a + (putTo s l k).2 ≤ (putTo s l k).1.length := by
 obtain ⟨hk, rfl⟩ := List.getElem?_eq_some_iff.1 he
 obtain ⟨P, c, h1, h2, h3⟩ := putTo_in hO h0 k (by omega)
 rw [List.drop_eq_getElem_cons hk] at h1 h3
 obtain ⟨p1, p2⟩ := h0 _ (List.getElem_mem hk)
 generalize l[k] = e at *
 have hA : ((A e : Nat) : Int) = e.a := Int.toNat_of_nonneg p1
 obtain ⟨o1, o2, o3⟩ := h3
 have hZ := o3.le
 rw [h1, List.length_append]
 show _ ∧ _ ≤ ((P.length + ((s.take (A e)).drop c ++ less s (Z e) (l.drop (k + 1))).length : Nat) : Int)
 rw [List.length_append, List.length_drop, List.length_take]
 omega
theorem putTo_len (s : By) (l : List Ed) : ∀ j k, k ≤ k + j → (putTo s l k).1.length ≤ (putTo s l (k + j)).1.length := by
 intro j
 induction j with
 | zero => intro k _; exact Nat.le_refl _
 | succ j ih =>
  intro k _
  refine Nat.le_trans (ih k (by omega)) ?_
  by_cases h : k + j < l.length
  ·rw [show k + (j + 1) = k + j + 1 from rfl, putTo_step s (List.getElem?_eq_getElem h)]
   unfold putE splice
   simp only
   rw [List.length_append, List.length_append, List.length_take, List.length_drop]
   omega
  ·unfold putTo
   rw [List.take_of_length_le (show l.length ≤ k + (j + 1) by omega), List.take_of_length_le (show l.length ≤ k + j by omega)]
   exact Nat.le_refl _
theorem putTo_most {s : By} {l : List Ed} (hO : Ord s.length 0 l) (h0 : ∀ e ∈ l, 0 ≤ e.a ∧ 0 ≤ e.b) {k : Nat} {e : Ed} (he : l[k]? = some e) (hg : grownE s.length l ≤ 65536) : (putTo s l k).1.length + e.t.size ≤ 65536 := by
 have hk := (List.getElem?_eq_some_iff.1 he).1
 have h1 := putTo_step s he
 have h2 := putTo_len s l (l.length - (k + 1)) (k + 1) (by omega)
 rw [show k + 1 + (l.length - (k + 1)) = l.length by omega, putTo_all hO h0 (Nat.le_refl _), do_all_is s l 0 hO, List.take_zero, List.nil_append] at h2
 have h3 := rest_len s l 0 hO h0
 have h4 : (putTo s l (k + 1)).1.length = (putTo s l k).1.length + e.t.size := by
  rw [h1]
  unfold putE splice
  simp only
  rw [List.length_append, List.length_append, List.length_take, List.length_drop]
  have : e.t.data.toList.length = e.t.size := rfl
  have h5 := putTo_fit hO h0 he
  omega
 omega
theorem rangedE_more {n m : Int} {es : List Ed} (h : rangedE n es = 0) (hm : n ≤ m) : rangedE m es = 0 := by
 have h1 := rangedE_mem h
 unfold rangedE at h ⊢
 split at h
 ·rename_i ha
  split at h
  ·rename_i hb
   rw [if_pos (List.all_eq_true.2 fun e he => by
    have := h1 e he
    unfold mayS edS
    exact decide_eq_true ⟨this.1, this.2.1, by omega⟩), if_pos hb]
  ·cases h
 ·cases h
theorem mayE_zero {n : Int} {es : List Ed} (h : mayE n es = 0) : rangedE n es = 0 ∧ grownE n es ≤ 65536 := by
 have hr : rangedE n es = 0 := by
  rcases rangedE_or n es with h1 | h1 | h1
  ·exact h1
  ·rw [mayE_bad (by rw [h1]; decide), h1] at h; cases h
  ·rw [mayE_bad (by rw [h1]; decide), h1] at h; cases h
 refine ⟨hr, ?_⟩
 rw [mayE_fit hr] at h
 split at h
 ·cases h
 ·omega
theorem grownE_insR (n : Int) (less : Ed → Ed → Bool) (out : List Ed) (x : Ed) : grownE n (insR less out x) = grownE n out + dE x := by
 unfold insR
 have hs : out.take (place less x out out.length) ++ out.drop (place less x out out.length) = out := List.take_append_drop _ _
 generalize place less x out out.length = k at *
 have hadd : ∀ (l : List Ed) (n d : Int), grownE (n + d) l = grownE n l + d := by
  intro l
  induction l with
  | nil => intro n d; rfl
  | cons x r ih => intro n d; show grownE (n + d + dE x) r = grownE (n + dE x) r + d; rw [← ih]; congr 1; omega
 have happ : ∀ (a b : List Ed), grownE n (a ++ b) = grownE (grownE n a) b := fun a b => by unfold grownE; rw [List.foldl_append]
 rw [happ]
 show grownE (grownE n (out.take k) + dE x) (out.drop k) = _
 rw [hadd, ← happ, hs]
theorem grownE_sorted (n : Int) (l : List Ed) : grownE n (sorted lessE l) = grownE n l := by
 have : ∀ k, k ≤ l.length → grownE n (sorted lessE (l.take k)) = grownE n (l.take k) := by
  intro k
  induction k with
  | zero => intro _; rfl
  | succ k ih =>
   intro hk
   have hk' : k < l.length := by omega
   rw [grownE_step n (List.getElem?_eq_getElem hk'), List.take_succ_eq_append_getElem hk', sorted_snoc, grownE_insR, ih (by omega)]
 have h := this l.length (Nat.le_refl _)
 rwa [List.take_of_length_le (Nat.le_refl _)] at h
end Go.Gim

/- Tables of ranges, plain: what is told of a number, one set, one struck. Conditions: none. -/
import Derived.Test.YthlmgoagnfkhdaaGreatGimF03
import Derived.Test.YthlmgoagnfkhdaaGreatGimF01
import Derived.Orders
set_option maxHeartbeats 6400000
set_option maxRecDepth 1000000
set_option linter.unusedVariables false
set_option linter.unusedSimpArgs false
namespace Go.Gim
abbrev Tb := List (Int × Rg)
def getR : Tb → Int → Option Rg
 | [], _ => none
 | x :: t, id => if x.1 = id then some x.2 else getR t id
def setR (L : Tb) (id : Int) (r : Rg) : Tb := L.map fun x => if x.1 = id then (id, r) else x
def delR (L : Tb) (id : Int) : Tb := L.filter fun x => !decide (x.1 = id)
def idsR (L : Tb) : List Int := L.map (·.1)
def Once (L : Tb) : Prop := L.Pairwise (fun x y => x.1 ≠ y.1)
theorem getR_cons (x : Int × Rg) (t : Tb) (id : Int) : getR (x :: t) id = if x.1 = id then some x.2 else getR t id := rfl
theorem getR_append (a b : Tb) (id : Int) : getR (a ++ b) id = (getR a id).or (getR b id) := by
 induction a with
 | nil => simp [getR]
 | cons x t ih =>
  rw [List.cons_append, getR_cons, getR_cons, ih]
  split <;> simp
theorem getR_mem {L : Tb} {id : Int} {r : Rg} (h : getR L id = some r) : (id, r) ∈ L := by
 induction L with
 | nil => simp [getR] at h
 | cons x t ih =>
  rw [getR_cons] at h
  split at h
  ·rename_i e
   cases h
   rw [← e]; exact List.mem_cons_self
  ·exact List.mem_cons_of_mem _ (ih h)
theorem getR_none {L : Tb} {id : Int} (h : getR L id = none) : ∀ x ∈ L, x.1 ≠ id := by
 induction L with
 | nil => simp
 | cons y t ih =>
  rw [getR_cons] at h
  split at h
  ·cases h
  ·rename_i hne
   intro x hx
   rcases List.mem_cons.1 hx with rfl | hx
   ·exact hne
   ·exact ih h x hx
theorem getR_none_of {L : Tb} {id : Int} (h : ∀ x ∈ L, x.1 ≠ id) : getR L id = none := by
 cases hg : getR L id with
 | none => rfl
 | some r => exact absurd rfl (h _ (getR_mem hg))
theorem getR_of_mem {L : Tb} (ho : Once L) {id : Int} {r : Rg} (h : (id, r) ∈ L) : getR L id = some r := by
 induction L with
 | nil => simp at h
 | cons x t ih =>
  obtain ⟨h1, h2⟩ := List.pairwise_cons.1 ho
  rw [getR_cons]
  rcases List.mem_cons.1 h with h | h
  ·rw [← h, if_pos rfl]
  ·rw [if_neg (h1 _ h)]; exact ih h2 h
theorem getR_isSome {L : Tb} {id : Int} : (getR L id).isSome = true ↔ id ∈ idsR L := by
 constructor
 ·intro h
  obtain ⟨r, hr⟩ := Option.isSome_iff_exists.1 h
  exact List.mem_map.2 ⟨_, getR_mem hr, rfl⟩
 ·intro h
  obtain ⟨x, hx, rfl⟩ := List.mem_map.1 h
  cases hg : getR L x.1 with
  | some r => rfl
  | none => exact absurd rfl (getR_none hg x hx)
theorem setR_len (L : Tb) (id : Int) (r : Rg) : (setR L id r).length = L.length := by simp [setR]
theorem setR_ids (L : Tb) (id : Int) (r : Rg) : idsR (setR L id r) = idsR L := by
 unfold idsR setR
 rw [List.map_map]
 apply List.map_congr_left
 intro x _
 simp only [Function.comp]
 split
 ·rename_i h; exact h.symm
 ·rfl
theorem getR_set_same {L : Tb} {id : Int} (h : (getR L id).isSome = true) (r : Rg) : getR (setR L id r) id = some r := by
 induction L with
 | nil => simp [getR] at h
 | cons x t ih =>
  show getR ((if x.1 = id then (id, r) else x) :: setR t id r) id = some r
  rw [getR_cons] at h
  by_cases e : x.1 = id
  ·rw [if_pos e, getR_cons, if_pos rfl]
  ·rw [if_neg e] at h
   rw [if_neg e, getR_cons, if_neg e]; exact ih h
theorem getR_set_other (L : Tb) {id id' : Int} (h : id' ≠ id) (r : Rg) : getR (setR L id r) id' = getR L id' := by
 induction L with
 | nil => rfl
 | cons x t ih =>
  show getR ((if x.1 = id then (id, r) else x) :: setR t id r) id' = _
  by_cases e : x.1 = id
  ·rw [if_pos e, getR_cons, getR_cons, if_neg (fun e' => h e'.symm), if_neg (fun e' : x.1 = id' => h (e'.symm.trans e)), ih]
  ·rw [if_neg e, getR_cons, getR_cons, ih]
theorem getR_del_same (L : Tb) (id : Int) : getR (delR L id) id = none :=
 getR_none_of (fun x hx => by have := (List.mem_filter.1 hx).2; simpa using this)
theorem getR_del_other (L : Tb) {id id' : Int} (h : id' ≠ id) : getR (delR L id) id' = getR L id' := by
 unfold delR
 induction L with
 | nil => rfl
 | cons x t ih =>
  rw [List.filter_cons]
  by_cases e : x.1 = id
  ·rw [if_neg (by simpa using e), ih, getR_cons, if_neg (fun e' : x.1 = id' => h (e'.symm.trans e))]
  ·rw [if_pos (by simpa using e), getR_cons, getR_cons, ih]
theorem delR_len {L : Tb} (ho : Once L) (id : Int) : (delR L id).length + (if (getR L id).isSome then 1 else 0) = L.length := by
 unfold delR
 induction L with
 | nil => rfl
 | cons x t ih =>
  obtain ⟨h1, h2⟩ := List.pairwise_cons.1 ho
  have ih := ih h2
  rw [List.filter_cons, getR_cons]
  by_cases e : x.1 = id
  ·have hn : getR t id = none := getR_none_of (fun y hy => by rw [← e]; exact (h1 y hy).symm)
   rw [if_neg (by simpa using e), if_pos e]
   rw [hn] at ih
   simp only [Option.isSome_none, Bool.false_eq_true, if_false, Nat.add_zero] at ih
   simp only [Option.isSome_some, if_true, List.length_cons, ih]
  ·rw [if_pos (by simpa using e), if_neg e, List.length_cons, List.length_cons]; omega
theorem Once.set {L : Tb} (h : Once L) (id : Int) (r : Rg) : Once (setR L id r) := by
 have e : ∀ M : Tb, Once M ↔ (idsR M).Pairwise (· ≠ ·) := fun M => by unfold Once idsR; rw [List.pairwise_map]
 rw [e, setR_ids, ← e]; exact h
theorem Once.del {L : Tb} (h : Once L) (id : Int) : Once (delR L id) := h.filter _
theorem Once.add {L : Tb} (h : Once L) {id : Int} (hn : getR L id = none) (r : Rg) : Once (L ++ [(id, r)]) := by
 refine List.pairwise_append.2 ⟨h, List.pairwise_singleton _ _, ?_⟩
 intro a ha b hb
 rw [List.mem_singleton.1 hb]
 exact getR_none hn a ha
theorem once_ids {L : Tb} : Once L ↔ (idsR L).Nodup := by unfold Once idsR List.Nodup; rw [List.pairwise_map]
def lessE (x y : Ed) : Bool := lessB (x.a, x.b) (y.a, y.b)
def edS (x : Ed) : Int × Int := (x.a, x.b)
def oneE (right : Bool) (o : Int) (e : Ed) : Int :=
 if o < e.a then o else if e.b < o then o + ((e.t.size : Int) - (e.b - e.a)) else if right then e.a + e.t.size else e.a
def moveE (right : Bool) (es : List Ed) (o : Int) : Int := (sorted lessE es).reverse.foldl (oneE right) o
def apart1 (x : Int × Int) : Option (Int × Int) → Bool
 | some y => !(decide (x.1 = y.1) || decide (x.1 < y.2))
 | none => true
def prevOf (s : List (Int × Int)) : Nat → Option (Int × Int)
 | 0 => none
 | j + 1 => s[j]?
def okAt (s : List (Int × Int)) (i : Nat) : Bool :=
 match s[i]? with
 | some x => !decide (x.2 < x.1) && apart1 x (prevOf s i)
 | none => true
def apartB (l : List (Int × Int)) : Bool := (List.range l.length).all (okAt (sorted lessB l))
theorem lessB_yes {x y : Int × Int} (h : lessB x y = true) : x.1 < y.1 ∨ x.1 = y.1 ∧ x.2 < y.2 := of_decide_eq_true h
theorem lessB_no {x y : Int × Int} (h : lessB x y = false) : ¬ (x.1 < y.1 ∨ x.1 = y.1 ∧ x.2 < y.2) := of_decide_eq_false h
theorem place_yes' {α : Type} (less : α → α → Bool) (x : α) (out : List α) : ∀ (k j : Nat) (y : α), place less x out k ≤ j → j < k → out[j]? = some y → less x y = true := by
 intro k
 induction k with
 | zero => intro j y _ h; omega
 | succ k ih =>
  intro j y h1 h2 h3
  unfold place at h1
  split at h1
  ·rename_i z hz
   split at h1
   ·rename_i hl
    by_cases hjk : j = k
    ·subst hjk; rw [hz] at h3; cases h3; exact hl
    ·exact ih j y h1 (by omega) h3
   ·omega
  ·omega
theorem place_no' {α : Type} (less : α → α → Bool) (x : α) (out : List α) : ∀ (k j : Nat) (y : α), place less x out k = j + 1 → k ≤ out.length → out[j]? = some y → less x y = false := by
 intro k
 induction k with
 | zero => intro j y h; cases h
 | succ k ih =>
  intro j y h1 h2 h3
  unfold place at h1
  split at h1
  ·rename_i z hz
   split at h1
   ·exact ih j y h1 (by omega) h3
   ·rename_i hl
    obtain rfl : k = j := by omega
    rw [hz] at h3; cases h3; simpa using hl
  ·rename_i hz
   rw [List.getElem?_eq_getElem (by omega)] at hz; cases hz
section
variable {α : Type} (less : α → α → Bool) (R : α → α → Prop) (hy : ∀ x y, less x y = true → R x y) (hn : ∀ x y, less x y = false → R y x) (tr : ∀ x y z, R x y → R y z → R x z)
include hy hn tr
theorem insR_pairwise {out : List α} (h : out.Pairwise R) (x : α) : (insR less out x).Pairwise R := by
 have hle := place_le less x out out.length
 have h1 := place_yes' less x out out.length
 have h2 := place_no' less x out out.length
 unfold insR
 generalize place less x out out.length = K at *
 have hsplit : (out.take K ++ out.drop K).Pairwise R := by rw [List.take_append_drop]; exact h
 rw [List.pairwise_append] at hsplit
 obtain ⟨p1, p2, p3⟩ := hsplit
 have hx1 : ∀ y ∈ out.drop K, R x y := by
  intro y hy'
  obtain ⟨i, hi, rfl⟩ := List.getElem_of_mem hy'
  rw [List.length_drop] at hi
  exact hy _ _ (h1 (K + i) _ (by omega) (by omega) (by rw [List.getElem_drop]; exact List.getElem?_eq_getElem (by omega)))
 have hx2 : ∀ y ∈ out.take K, R y x := by
  intro y hy'
  cases K with
  | zero => simp at hy'
  | succ j =>
   have hl := hn _ _ (h2 j (out[j]'(by omega)) rfl (Nat.le_refl _) (List.getElem?_eq_getElem _))
   rw [List.take_succ_eq_append_getElem (by omega)] at hy' p1
   rcases List.mem_append.1 hy' with hm | hm
   ·exact tr _ _ _ ((List.pairwise_append.1 p1).2.2 y hm _ (List.mem_singleton.2 rfl)) hl
   ·rw [List.mem_singleton.1 hm]; exact hl
 rw [List.pairwise_append]
 refine ⟨p1, List.pairwise_cons.2 ⟨hx1, p2⟩, ?_⟩
 intro a ha b hb
 rcases List.mem_cons.1 hb with rfl | hb
 ·exact hx2 a ha
 ·exact p3 a ha b hb
theorem sorted_pairwise (l : List α) : (sorted less l).Pairwise R := by
 have : ∀ (l out : List α), out.Pairwise R → (l.foldl (insR less) out).Pairwise R := by
  intro l
  induction l with
  | nil => intro out h; exact h
  | cons x r ih => intro out h; exact ih _ (insR_pairwise less R hy hn tr h x)
 exact this l [] List.Pairwise.nil
end
def leB (x y : Int × Int) : Prop := x.1 < y.1 ∨ x.1 = y.1 ∧ x.2 ≤ y.2
theorem sortedB_rises (l : List (Int × Int)) : (sorted lessB l).Pairwise leB :=
 sorted_pairwise lessB leB (fun x y h => by have := lessB_yes h; unfold leB; omega) (fun x y h => by have := lessB_no h; unfold leB; omega) (fun x y z h k => by unfold leB at *; omega) l
theorem sorted_map {α β : Type} (f : α → β) (less : α → α → Bool) (less' : β → β → Bool) (h : ∀ x y, less' (f x) (f y) = less x y) (l : List α) : (sorted less l).map f = sorted less' (l.map f) := by
 have hp : ∀ (x : α) (out : List α) (k : Nat), place less' (f x) (out.map f) k = place less x out k := by
  intro x out k
  induction k with
  | zero => rfl
  | succ k ih =>
   rw [place.eq_2, place.eq_2, List.getElem?_map]
   cases out[k]? with
   | none => rfl
   | some y => simp only [Option.map_some, h, ih]
 have hi : ∀ (out : List α) (x : α), (insR less out x).map f = insR less' (out.map f) (f x) := by
  intro out x
  unfold insR
  rw [List.length_map, hp]; simp
 have : ∀ (l out : List α), (l.foldl (insR less) out).map f = (l.map f).foldl (insR less') (out.map f) := by
  intro l
  induction l with
  | nil => intro out; rfl
  | cons x r ih => intro out; rw [List.foldl_cons, ih, hi]; rfl
 exact this l []
theorem sortedE_map (l : List Ed) : (sorted lessE l).map edS = sorted lessB (l.map edS) := sorted_map edS lessE lessB (fun _ _ => rfl) l
theorem okAt_is {s : List (Int × Int)} {i : Nat} {x : Int × Int} (hx : s[i]? = some x) : okAt s i = (!decide (x.2 < x.1) && apart1 x (prevOf s i)) := by
 unfold okAt; rw [hx]
theorem okAt_yes {s : List (Int × Int)} {i : Nat} {x : Int × Int} (hx : s[i]? = some x) : okAt s i = true ↔ x.1 ≤ x.2 ∧ ∀ j y, i = j + 1 → s[j]? = some y → ¬ x.1 = y.1 ∧ y.2 ≤ x.1 := by
 rw [okAt_is hx, Bool.and_eq_true, Bool.not_eq_true', decide_eq_false_iff_not, Int.not_lt]
 cases i with
 | zero => exact ⟨fun h => ⟨h.1, fun j y e => by cases e⟩, fun h => ⟨h.1, rfl⟩⟩
 | succ j =>
  show _ ∧ apart1 x s[j]? = true ↔ _
  cases hy : s[j]? with
  | none =>
   refine ⟨fun h => ⟨h.1, fun j' y' e hy' => ?_⟩, fun h => ⟨h.1, rfl⟩⟩
   cases e
   rw [hy] at hy'; cases hy'
  | some y =>
   unfold apart1
   rw [Bool.not_eq_true', Bool.or_eq_false_iff, decide_eq_false_iff_not, decide_eq_false_iff_not, Int.not_lt]
   refine ⟨fun h => ⟨h.1, fun j' y' e hy' => ?_⟩, fun h => ⟨h.1, h.2 j y rfl hy⟩⟩
   cases e
   rw [hy] at hy'; cases hy'
   exact h.2
section
variable {α : Type}
def revTo (l : List α) : Nat → List α
 | 0 => l
 | k + 1 =>
  match (revTo l k)[k]?, (revTo l k)[l.length - 1 - k]? with
  | some x, some y => ((revTo l k).set k y).set (l.length - 1 - k) x
  | _, _ => revTo l k
theorem revTo_len (l : List α) (k : Nat) : (revTo l k).length = l.length := by
 induction k with
 | zero => rfl
 | succ k ih =>
  unfold revTo
  split
  ·rw [List.length_set, List.length_set, ih]
  ·exact ih
theorem revTo_step {l : List α} {k : Nat} {x y : α} (hx : (revTo l k)[k]? = some x) (hy : (revTo l k)[l.length - 1 - k]? = some y) : revTo l (k + 1) = ((revTo l k).set k y).set (l.length - 1 - k) x := by
 rw [revTo.eq_2, hx, hy]
theorem revTo_at (l : List α) : ∀ (k : Nat), 2 * k ≤ l.length → ∀ i, i < l.length → (revTo l k)[i]? = if i < k ∨ l.length ≤ i + k then l[l.length - 1 - i]? else l[i]? := by
 intro k
 induction k with
 | zero => intro _ i hi; rw [if_neg (by omega)]; rfl
 | succ k ih =>
  intro hk i hi
  have e1 := ih (by omega) k (by omega)
  have e2 := ih (by omega) (l.length - 1 - k) (by omega)
  rw [if_neg (by omega)] at e1 e2
  rw [List.getElem?_eq_getElem (l := l) (show k < l.length by omega)] at e1
  rw [List.getElem?_eq_getElem (l := l) (show l.length - 1 - k < l.length by omega)] at e2
  have hl := revTo_len l k
  rw [revTo_step e1 e2]
  by_cases c1 : i = l.length - 1 - k
  ·subst c1
   rw [List.getElem?_set_self (by rw [List.length_set, hl]; omega), if_pos (by omega), show l.length - 1 - (l.length - 1 - k) = k by omega, List.getElem?_eq_getElem (l := l) (show k < l.length by omega)]
  ·rw [List.getElem?_set_ne (by omega)]
   by_cases c2 : i = k
   ·subst c2
    rw [List.getElem?_set_self (by rw [hl]; omega), if_pos (by omega), List.getElem?_eq_getElem (l := l) (show l.length - 1 - i < l.length by omega)]
   ·rw [List.getElem?_set_ne (by omega), ih (by omega) i hi]
    by_cases c3 : i < k ∨ l.length ≤ i + k
    ·rw [if_pos c3, if_pos (by omega)]
    ·rw [if_neg c3, if_neg (by omega)]
theorem revTo_all (l : List α) {k : Nat} (h1 : 2 * k ≤ l.length) (h2 : l.length ≤ 2 * k + 1) : revTo l k = l.reverse := by
 apply List.ext_getElem?
 intro i
 by_cases hi : i < l.length
 ·rw [revTo_at l k h1 i hi, List.getElem?_reverse hi]
  by_cases c : i < k ∨ l.length ≤ i + k
  ·rw [if_pos c]
  ·rw [if_neg c, show l.length - 1 - i = i by omega]
 ·rw [List.getElem?_eq_none (by rw [revTo_len]; omega), List.getElem?_eq_none (by simp; omega)]
end
def EdOk (e : Ed) : Prop := 0 ≤ e.a ∧ e.a ≤ e.b ∧ e.b ≤ 65536 ∧ e.t.size ≤ 100000
theorem oneE_bd {right : Bool} {o : Int} {e : Ed} {m : Int} (he : EdOk e) (h0 : 0 ≤ o) (h1 : o ≤ m) (_ : 65536 ≤ m) : 0 ≤ oneE right o e ∧ oneE right o e ≤ m + 100000 := by
 obtain ⟨e1, e2, e3, e4⟩ := he
 unfold oneE
 split
 ·omega
 ·split
  ·omega
  ·split <;> omega
end Go.Gim
namespace Go.Gim
open Go.RowKit
section
variable {P : Program} {md : Region.Mode} {ops : Array Oper} {Q : Exit → Act → World → Prop} {w0 : World}
def wpE (P : Program) (md : Region.Mode) (ops : Array Oper) (Q : Exit → Act → World → Prop) (w0 : World) : Nat → Array Bool → Act → World → Prop
 | 0, listed, a, w => Region.ready md ops listed = [] ∧ ∀ w', Ext w w' → Q .normal a w'
 | fuel + 1, listed, a, w =>
  (Region.ready md ops listed = [] → ∀ w', Ext w w' → Q .normal a w') ∧
  ∀ i ∈ Region.ready md ops listed, ∀ w', Ext w w' → wpOp P ops Q i (fun a' w'' => Ext w0 w'' ∧ wpE P md ops Q w0 fuel (listed.setIfInBounds i true) a' w'') a w'
theorem wpAny_of_E : ∀ (fuel : Nat) (listed : Array Bool) (a : Act) (w : World), wpE P md ops Q w0 fuel listed a w → wpAny P md ops Q fuel listed a w
 | 0, _, _, w, h => ⟨h.1, h.2 w (Mod.refl _ w)⟩
 | f + 1, _, _, w, h => ⟨fun h0 => h.1 h0 w (Mod.refl _ w), fun i hi => wpOp_mono (fun a' w' h' => wpAny_of_E f _ a' w' h'.2) (h.2 i hi w (Mod.refl _ w))⟩
theorem wpE_ext : ∀ (fuel : Nat) (listed : Array Bool) (a : Act) (w w1 : World), Ext w w1 → wpE P md ops Q w0 fuel listed a w → wpE P md ops Q w0 fuel listed a w1
 | 0, _, _, _, _, hx, h => ⟨h.1, fun w' hw' => h.2 w' (hx.ext_trans hw')⟩
 | _ + 1, _, _, _, _, hx, h => ⟨fun h0 w' hw' => h.1 h0 w' (hx.ext_trans hw'), fun i hi w' hw' => h.2 i hi w' (hx.ext_trans hw')⟩
def QAt (P : Program) (w' : World) (v : Value) : Result Next → Prop
 | .ok (.value u) w'' => u = v ∧ Ext w' w''
 | .ok (.enter f args) w'' => w'' = w' ∧ Calls P f args w' (fun e w2 => e = .returned v ∧ Ext w' w2)
 | _ => False
def QuietE (P : Program) (ops : Array Oper) (w0 : World) (o : Oper) (v : Value) (a : Act) : Prop :=
 Region.wanted o (yielded ops a.tmps) = true ∧ ∀ w', Ext w0 w' → QAt P w' v ((execOp a.eval o).run P w')
theorem QuietE.wpOp {i : Nat} {o : Oper} {v : Value} {a : Act} (hi : ops[i]? = some o) (hy : QuietE P ops w0 o v a) {K : Act → World → Prop} {w : World} (hw : Ext w0 w) (h : ∀ w2, Ext w w2 → K (a.put o.dst v) w2) : wpOp P ops Q i K a w := by
 unfold Go.wpOp
 simp only [hi, hy.1, if_true]
 refine .inl ?_
 unfold Oper.wp
 have h1 := hy.2 w hw
 generalize (execOp a.eval o).run P w = r at *
 cases r with
 | ok n w' =>
  cases n <;> simp only [QAt] at h1
  case value u => obtain ⟨rfl, hx⟩ := h1; simp only [Oper.upon]; exact h _ hx
  case enter f args =>
   obtain ⟨rfl, hc⟩ := h1
   simp only [Oper.upon]
   exact hc.mono fun e w2 ⟨he, hx⟩ => by rw [he]; exact h _ hx
 | halt x w' => simp only [QAt] at h1
theorem wpOp_putE {j : Nat} {oi oj : Oper} {v : Value} (hj : ops[j]? = some oj) (hap : oi.apart ops oj = true)
  (hsi : ∀ cs b, oi.op ≠ .select cs b) (hsj : ∀ cs b, oj.op ≠ .select cs b)
  (hQ : ∀ c a w, Q (.panic c) (a.put oi.dst v) w → Q (.panic c) a w) {K : Act → World → Prop} {a : Act} {w : World}
  (hy : QuietE P ops w0 oi v a) (h : wpOp P ops Q j K (a.put oi.dst v) w) :
  wpOp P ops Q j (fun a' w' => QuietE P ops w0 oi v a' ∧ K (a'.put oi.dst v) w') a w := by
 obtain ⟨h1, h2, h3⟩ := Oper.apart_spec hap
 have keep : ∀ (b : Act), QuietE P ops w0 oi v b → ∀ u, QuietE P ops w0 oi v (b.put oj.dst u) := fun b hb u => by
  unfold QuietE at *
  rw [execOp_put oi hsi b oj.dst u h3, wanted_put oi b oj.dst u h3]; exact hb
 have keepD : ∀ d, QuietE P ops w0 oi v { a with defers := d :: a.defers } := fun _ => hy
 unfold wpOp at *
 simp only [hj] at *
 rw [wanted_put oj a oi.dst v h1] at h
 by_cases hw : Region.wanted oj (yielded ops a.tmps) = true
 ·rw [if_pos hw] at h ⊢
  rcases h with h | ⟨hasks, hlets⟩
  case inr => exact .inr ⟨by unfold Oper.asks at *; rw [execOp_put oj hsj a oi.dst v h1] at hasks; exact hasks, hlets⟩
  refine .inl ?_
  unfold Oper.wp at *
  rw [execOp_put oj hsj a oi.dst v h1] at h
  generalize (execOp a.eval oj).run P w = r at *
  cases r with
  | ok n w' =>
   cases n <;> simp only [Oper.upon] at h ⊢
   case value u => exact ⟨keep a hy u, by rw [← Act.put_comm a v u h2]; exact h⟩
   case skip => exact ⟨keep a hy _, by rw [← Act.put_comm a v undef h2]; exact h⟩
   case defer d => exact ⟨keep _ (keepD d) _, by rw [← Act.put_comm _ v undef h2, ← Act.put_defers]; exact h⟩
   case enter f args =>
    refine Calls.mono h fun e w'' he => ?_
    cases e with
    | returned u => exact ⟨keep a hy u, by rw [← Act.put_comm a v u h2]; exact he⟩
    | panicked c => exact hQ _ _ _ he
    | outgrown => exact he
   case row row args => exact Rows.mono h fun u w'' he => ⟨keep a hy u, by rw [← Act.put_comm a v u h2]; exact he⟩
  | halt x w' =>
   cases x <;> simp only [Oper.upon] at h ⊢
   case panic u => exact hQ _ _ _ h
 ·rw [if_neg hw] at h ⊢
  exact ⟨keep a hy _, by rw [← Act.put_comm a v undef h2]; exact h⟩
theorem wpE_first {i : Nat} {oi : Oper} {v : Value} (hi : ops[i]? = some oi) (hsel : ∀ (j : Nat) (o : Oper) cs b, ops[j]? = some o → o.op ≠ .select cs b)
  (hQ : ∀ c a w, Q (.panic c) (a.put oi.dst v) w → Q (.panic c) a w) :
  ∀ (fuel : Nat) (listed : Array Bool) (a : Act) (w : World),
   (∀ j oj, ops[j]? = some oj → j ≠ i → listed.getD j true = false → (∀ e ∈ oj.after, Region.binds md e = true → e.on ≠ i) → oi.apart ops oj = true) →
   i ∈ Region.ready md ops listed → QuietE P ops w0 oi v a → Ext w0 w →
   wpE P md ops Q w0 fuel (listed.setIfInBounds i true) (a.put oi.dst v) w → wpE P md ops Q w0 (fuel + 1) listed a w := by
 intro fuel
 induction fuel with
 | zero =>
  intro listed a w _ hr hy hx H
  refine ⟨fun h => (by rw [h] at hr; cases hr), fun j hj w' hw' => ?_⟩
  by_cases hji : j = i
  ·subst hji
   exact hy.wpOp hi (hx.ext_trans hw') fun w2 h2 => ⟨(hx.ext_trans hw').ext_trans h2, wpE_ext 0 _ _ _ _ (hw'.ext_trans h2) H⟩
  ·have := ready_mono hj hji
   rw [H.1] at this
   cases this
 | succ fuel ih =>
  intro listed a w hfree hr hy hx H
  refine ⟨fun h => (by rw [h] at hr; cases hr), fun j hj w' hw' => ?_⟩
  by_cases hji : j = i
  ·subst hji
   exact hy.wpOp hi (hx.ext_trans hw') fun w2 h2 => ⟨(hx.ext_trans hw').ext_trans h2, wpE_ext _ _ _ _ _ (hw'.ext_trans h2) H⟩
  ·have h1 := H.2 j (ready_mono hj hji) w' hw'
   obtain ⟨hjun, oj, hoj, hall⟩ := mem_ready.1 hj
   have hnot : ∀ e ∈ oj.after, Region.binds md e = true → e.on ≠ i := fun e he hb heq => by
    have h1 := hall e he hb
    have h0 := (mem_ready.1 hr).1
    rw [heq] at h1
    rcases Nat.lt_or_ge i listed.size with h' | h'
    ·simp [h'] at h0 h1; rw [h0] at h1; cases h1
    ·simp [Array.getElem?_eq_none h'] at h1
   have h2 := wpOp_putE hoj (hfree j oj hoj hji hjun hnot) (fun cs b => hsel i oi cs b hi) (fun cs b => hsel j oj cs b hoj) hQ hy h1
   have hfree' : ∀ k ok, ops[k]? = some ok → k ≠ i → (listed.setIfInBounds j true).getD k true = false →
     (∀ e ∈ ok.after, Region.binds md e = true → e.on ≠ i) → oi.apart ops ok = true := fun k ok hk hki hun hno => by
    refine hfree k ok hk hki ?_ hno
    by_cases hjk : j = k
    ·subst hjk; exact hjun
    ·rw [getD_set_ne true hjk] at hun; exact hun
   refine wpOp_mono (fun a' w'' h3 => ⟨h3.2.1, ih (listed.setIfInBounds j true) a' w'' hfree' (ready_mono hr (Ne.symm hji)) h3.1 h3.2.1 ?_⟩) h2
   rw [Array.setIfInBounds_comm _ _ hji]
   exact h3.2.2
theorem wpE_take (i d : Nat) {oi : Oper} {v : Value} {fuel : Nat} {listed : Array Bool} {a : Act} {w : World} (hi : ops[i]? = some oi) (hd : oi.dst = some d)
  (hs : Region.noSelect ops = true) (hf : Region.free md ops listed i = true) (hr : (Region.ready md ops listed).contains i = true)
  (hQ : ∀ c a w, Q (.panic c) (a.put oi.dst v) w → Q (.panic c) a w) (hx : Ext w0 w) (hw : Region.wanted oi (yielded ops a.tmps) = true) (hy : ∀ w', Ext w0 w' → QAt P w' v ((execOp a.eval oi).run P w'))
  (h : wpE P md ops Q w0 fuel (listed.setIfInBounds i true) (a.put (some d) v) w) : wpE P md ops Q w0 (fuel + 1) listed a w :=
 wpE_first hi (Region.noSelect_spec hs) hQ fuel listed a w (Region.free_spec hi hf) (by simpa using hr) ⟨hw, hy⟩ hx (by rw [hd]; exact h)
theorem ext_draw (w : World) : Ext w { w with drawn := w.drawn + 1 } := ⟨rfl, rfl, rfl, Nat.le_refl _, fun _ _ _ => rfl⟩
theorem wpE_t (i d : Nat) {oi : Oper} {v : Value} {fuel : Nat} {listed : Array Bool} {a : Act} {w : World} (hy : ∀ w', Ext w0 w' → QAt P w' v ((execOp a.eval oi).run P w'))
  (h : wpE P md ops Q w0 fuel (listed.setIfInBounds i true) (a.put (some d) v) w) (hi : ops[i]? = some oi := by rfl) (hd : oi.dst = some d := by rfl)
  (hs : Region.noSelect ops = true := by kernel_rfl) (hf : Region.free md ops listed i = true := by kernel_rfl) (hr : (Region.ready md ops listed).contains i = true := by kernel_rfl)
  (hQ : ∀ c a w, Q (.panic c) (a.put oi.dst v) w → Q (.panic c) a w := by exact fun _ _ _ h => h) (hx : Ext w0 w := by first | exact ext_draw _ | assumption) (hw : Region.wanted oi (yielded ops a.tmps) = true := by rfl) : wpE P md ops Q w0 (fuel + 1) listed a w :=
 wpE_take i d hi hd hs hf hr hQ hx hw hy h
theorem fr1 (t : Array Value) (l : List Deferred) (d : Nat) (v : Value) : (Act.mk t l).put (some d) v = ⟨t.setIfInBounds d v, l⟩ := rfl
theorem fr2 {α : Type} (l : List α) (i : Nat) (a : α) : l.toArray.setIfInBounds i a = (l.set i a).toArray := by simp
theorem fr3 {α : Type} (x a : α) (l : List α) : (x :: l).set 0 a = a :: l := rfl
theorem fr4 {α : Type} (x a : α) (l : List α) (i : Nat) : (x :: l).set (i + 1) a = x :: l.set i a := rfl
theorem wp_region_E {id : Nat} {a : Act} {w : World} (hm : P.follows .mixedOrders = true)
  (h : wpE P .any ops Q w ops.size (Array.replicate ops.size false) a { w with drawn := w.drawn + 1 }) : (Code.region id ops true).wp P Q a w :=
 wp_region_any hm (wpAny_of_E _ _ _ _ h)
theorem qat_value {w' : World} {v : Value} {r : Result Next} (h : r = .ok (.value v) w') : QAt P w' v r := by rw [h]; exact ⟨rfl, Mod.refl _ _⟩
theorem qat_enter {w' : World} {v : Value} {f : FuncId} {args : Array Value} {r : Result Next} (h : r = .ok (.enter f args) w') (hc : Calls P f args w' (fun e w2 => e = .returned v ∧ Ext w' w2)) : QAt P w' v r := by rw [h]; exact ⟨rfl, hc⟩
end
end Go.Gim

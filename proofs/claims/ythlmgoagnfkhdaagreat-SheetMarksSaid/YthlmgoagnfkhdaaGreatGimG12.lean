/- Stretches that touch put together, plainly; those of no bytes left out ahead of it, or behind it. Conditions: none. -/
import Derived.Test.YthlmgoagnfkhdaaGreatGimG11
set_option maxHeartbeats 6400000
set_option maxRecDepth 1000000
set_option linter.unusedVariables false
set_option linter.unusedSimpArgs false
namespace Go.Gim
def unS (out : List (Int × Int)) (x : Int × Int) : List (Int × Int) :=
 match out.getLast? with
 | some y => if touchB y x then out.dropLast ++ [(y.1, max y.2 x.2)] else out ++ [x]
 | none => out ++ [x]
def unionS (l : List (Int × Int)) : List (Int × Int) := l.foldl unS []
def unionL (l : List (Int × Int)) : List (Int × Int) := unionS (sorted lessB l)
theorem unS_no {out : List (Int × Int)} {y x : Int × Int} (hy : out.getLast? = some y) (h : touchB y x = false) : unS out x = out ++ [x] := by
 unfold unS; rw [hy]; simp only [h]; rfl
theorem unS_yes {out : List (Int × Int)} {y x : Int × Int} (hy : out.getLast? = some y) (h : touchB y x = true) : unS out x = out.set (out.length - 1) (y.1, max y.2 x.2) := by
 unfold unS; rw [hy]; simp only [h, if_true]
 obtain ⟨l, rfl⟩ := List.getLast?_eq_some_iff.1 hy
 rw [List.dropLast_concat, List.length_append, List.length_singleton, Nat.add_sub_cancel, List.set_append_right _ _ (Nat.le_refl _), Nat.sub_self]; rfl
theorem unS_len (out : List (Int × Int)) (x : Int × Int) : (unS out x).length ≤ out.length + 1 := by
 unfold unS
 split
 ·split
  ·simp
  ·simp
 ·simp
theorem unionS_step {l : List (Int × Int)} {k : Nat} {x : Int × Int} (h : l[k]? = some x) : unionS (l.take (k + 1)) = unS (unionS (l.take k)) x := by
 obtain ⟨hk, rfl⟩ := List.getElem?_eq_some_iff.1 h
 unfold unionS
 rw [List.take_succ_eq_append_getElem hk, List.foldl_append]; rfl
theorem unionS_len (l : List (Int × Int)) : (unionS l).length ≤ l.length := by
 have : ∀ (l out : List (Int × Int)), (l.foldl unS out).length ≤ out.length + l.length := by
  intro l
  induction l with
  | nil => intro out; simp
  | cons x r ih => intro out; rw [List.foldl_cons]; have := ih (unS out x); have := unS_len out x; simp only [List.length_cons]; omega
 have := this l []
 simpa [unionS] using this
theorem unionL_len (l : List (Int × Int)) : (unionL l).length ≤ l.length := by
 have := unionS_len (sorted lessB l); rw [sorted_length] at this; exact this
def mergeU : Int × Int → List (Int × Int) → List (Int × Int)
 | c, [] => [c]
 | c, x :: r => if touchB c x then mergeU (c.1, max c.2 x.2) r else c :: mergeU x r
def mergeU0 : List (Int × Int) → List (Int × Int)
 | [] => []
 | x :: r => mergeU x r
theorem unS_last (P : List (Int × Int)) (c x : Int × Int) : unS (P ++ [c]) x = if touchB c x then P ++ [(c.1, max c.2 x.2)] else (P ++ [c]) ++ [x] := by
 unfold unS
 rw [List.getLast?_concat]
 simp only [List.dropLast_concat]
theorem unionS_merge : ∀ (l : List (Int × Int)) (P : List (Int × Int)) (c : Int × Int), l.foldl unS (P ++ [c]) = P ++ mergeU c l := by
 intro l
 induction l with
 | nil => intro P c; rfl
 | cons x r ih =>
  intro P c
  rw [List.foldl_cons, unS_last, mergeU.eq_2]
  split
  ·exact ih P _
  ·rw [ih (P ++ [c]) x, List.append_assoc]; rfl
theorem unionS_is (l : List (Int × Int)) : unionS l = mergeU0 l := by
 cases l with
 | nil => rfl
 | cons x r => exact unionS_merge r [] x
def fullB (x : Int × Int) : Bool := decide (x.1 < x.2)
def RiseB (l : List (Int × Int)) : Prop := l.Pairwise leB ∧ ∀ x ∈ l, x.1 ≤ x.2
theorem touchB_is {c x : Int × Int} (h1 : c.1 ≤ x.1) (h2 : c.1 ≤ c.2) (h3 : x.1 ≤ x.2) : touchB c x = decide (x.1 ≤ c.2) := by
 unfold touchB
 rw [decide_eq_decide]
 omega
theorem RiseB.cons {x : Int × Int} {r : List (Int × Int)} (h : RiseB (x :: r)) : x.1 ≤ x.2 ∧ (∀ y ∈ r, x.1 ≤ y.1) ∧ RiseB r := by
 obtain ⟨h1, h2⟩ := h
 rw [List.pairwise_cons] at h1
 exact ⟨h2 x (by simp), fun y hy => by have := h1.1 y hy; unfold leB at this; omega, h1.2, fun y hy => h2 y (by simp [hy])⟩
theorem merge_far {c : Int × Int} {l : List (Int × Int)} (hc : c.1 ≤ c.2) (hl : ∀ x ∈ l, c.2 < x.1 ∧ x.1 ≤ x.2) : mergeU c l = c :: mergeU0 l := by
 cases l with
 | nil => rfl
 | cons x r =>
  have := hl x (by simp)
  rw [mergeU.eq_2, touchB_is (by omega) hc this.2, if_neg (by simp; omega)]
  rfl
theorem mergeU_filter : ∀ (l : List (Int × Int)) (c : Int × Int), RiseB l → c.1 ≤ c.2 → (∀ x ∈ l, c.1 ≤ x.1) → (mergeU c l).filter fullB = if fullB c then mergeU c (l.filter fullB) else mergeU0 (l.filter fullB) := by
 intro l
 induction l with
 | nil => intro c _ hc _; unfold mergeU; cases h : fullB c <;> simp [h, mergeU0]
 | cons x r ih =>
  intro c hr hc hcx
  obtain ⟨x1, x2, x3⟩ := hr.cons
  have hx := hcx x (by simp)
  have ht := touchB_is hx hc x1
  have ihx := ih x x3 x1 x2
  have hfar : c.2 < x.1 → ∀ y ∈ r.filter fullB, c.2 < y.1 ∧ y.1 ≤ y.2 := fun h y hy => by
   have hy := (List.mem_filter.1 hy).1
   have := x2 y hy
   have := x3.2 y hy
   omega
  rw [mergeU.eq_2]
  by_cases h1 : x.1 ≤ c.2
  ·rw [ht, decide_eq_true h1, if_pos rfl]
   have ihc := ih (c.1, max c.2 x.2) x3 (by simp only; omega) (fun y hy => by have := x2 y hy; simp only; omega)
   rw [ihc]
   cases hbx : fullB x with
   | false =>
    have hbx : ¬ x.1 < x.2 := by simpa [fullB] using hbx
    rw [List.filter_cons_of_neg (by simp [fullB]; omega)]
    rw [show ((c.1, max c.2 x.2) : Int × Int) = c from Prod.ext rfl (by simp only; omega)]
   | true =>
    have hb : x.1 < x.2 := by simpa [fullB] using hbx
    rw [List.filter_cons_of_pos hbx]
    rw [if_pos (show fullB (c.1, max c.2 x.2) = true by unfold fullB; exact decide_eq_true (by simp only; omega))]
    cases hbc : fullB c with
    | true =>
     rw [if_pos rfl, mergeU.eq_2, ht, decide_eq_true h1, if_pos rfl]
    | false =>
     have hbc : ¬ c.1 < c.2 := by simpa [fullB] using hbc
     rw [if_neg (by simp)]
     rw [show ((c.1, max c.2 x.2) : Int × Int) = x from Prod.ext (by simp only; omega) (by simp only; omega)]
     rfl
  ·rw [ht, decide_eq_false h1, if_neg (by simp)]
   cases hbc : fullB c with
   | true =>
    rw [List.filter_cons_of_pos hbc, if_pos rfl, ihx]
    cases hbx : fullB x with
    | true =>
     rw [if_pos rfl, List.filter_cons_of_pos hbx, mergeU.eq_2, ht, decide_eq_false h1, if_neg (by simp)]
    | false =>
     rw [if_neg (by simp), List.filter_cons_of_neg (by simp [hbx]), merge_far hc (hfar (by omega))]
   | false =>
    rw [List.filter_cons_of_neg (by simp [hbc]), if_neg (by simp), ihx]
    cases hbx : fullB x with
    | true => rw [if_pos rfl, List.filter_cons_of_pos hbx]; rfl
    | false => rw [if_neg (by simp), List.filter_cons_of_neg (by simp [hbx])]
theorem unionS_filter {l : List (Int × Int)} (h : RiseB l) : (unionS l).filter fullB = unionS (l.filter fullB) := by
 rw [unionS_is, unionS_is]
 cases l with
 | nil => rfl
 | cons x r =>
  obtain ⟨x1, x2, x3⟩ := h.cons
  show (mergeU x r).filter fullB = _
  rw [mergeU_filter r x x3 x1 x2]
  cases hbx : fullB x with
  | true => rw [if_pos rfl, List.filter_cons_of_pos hbx]; rfl
  | false => rw [if_neg (by simp), List.filter_cons_of_neg (by simp [hbx])]
theorem insR_perms {α : Type} (less : α → α → Bool) (out : List α) (x : α) : (insR less out x).Perm (x :: out) := by
 unfold insR
 refine List.perm_middle.trans (List.Perm.cons x ?_)
 rw [List.take_append_drop]
theorem sorted_perm {α : Type} (less : α → α → Bool) (l : List α) : (sorted less l).Perm l := by
 have : ∀ (l out : List α), (l.foldl (insR less) out).Perm (out ++ l) := by
  intro l
  induction l with
  | nil => intro out; rw [List.append_nil]; exact List.Perm.refl _
  | cons x r ih =>
   intro out
   rw [List.foldl_cons]
   refine (ih _).trans ?_
   refine (List.Perm.append_right r (insR_perms less out x)).trans ?_
   exact (List.perm_middle (l₁ := out)).symm
 exact this l []
theorem leB_anti {x y : Int × Int} (h : leB x y) (k : leB y x) : x = y := by
 unfold leB at *
 exact Prod.ext (by omega) (by omega)
theorem rise_eq : ∀ {a b : List (Int × Int)}, a.Perm b → a.Pairwise leB → b.Pairwise leB → a = b := by
 intro a
 induction a with
 | nil => intro b h _ _; exact (List.nil_perm.1 h).symm
 | cons x r ih =>
  intro b h ha hb
  cases b with
  | nil => exact absurd h.symm (by simp)
  | cons y s =>
   rw [List.pairwise_cons] at ha hb
   have hx : x ∈ y :: s := h.mem_iff.1 (by simp)
   have hy : y ∈ x :: r := h.mem_iff.2 (by simp)
   have e : x = y := by
    rcases List.mem_cons.1 hx with e | hx
    ·exact e
    ·rcases List.mem_cons.1 hy with e | hy
     ·exact e.symm
     ·exact leB_anti (ha.1 y hy) (hb.1 x hx)
   subst e
   rw [ih (List.Perm.cons_inv h) ha.2 hb.2]
theorem sorted_filter (p : Int × Int → Bool) (l : List (Int × Int)) : (sorted lessB l).filter p = sorted lessB (l.filter p) :=
 rise_eq ((sorted_perm lessB l).filter p |>.trans (sorted_perm lessB _).symm) ((sortedB_rises l).filter p) (sortedB_rises _)
theorem unionL_filter {l : List (Int × Int)} (h : ∀ x ∈ l, x.1 ≤ x.2) : (unionL l).filter fullB = unionL (l.filter fullB) := by
 unfold unionL
 rw [unionS_filter ⟨sortedB_rises l, fun x hx => h x ((sorted_mem lessB l x).1 hx)⟩, sorted_filter]
end Go.Gim

/- Where selections come to, plain. Conditions: none. -/
import Derived.Test.YthlmgoagnfkhdaaGreatGimF31
import Derived.Test.YthlmgoagnfkhdaaGreatGimF24
import Derived.Test.YthlmgoagnfkhdaaGreatGimF15
set_option maxHeartbeats 6400000
set_option maxRecDepth 1000000
set_option linter.unusedVariables false
set_option linter.unusedSimpArgs false
namespace Go.Gim
theorem mayB_span {x : Int × Int} {n : Int} : mayB (spanI x) n = true ↔ 0 ≤ x.1 ∧ 0 ≤ x.2 ∧ x.1 ≤ n ∧ x.2 ≤ n := by
 unfold mayB spanI; rw [decide_eq_true_eq]; simp only; omega
theorem spanI_fuse (a b : Int × Int) : spanI (fuse a b) = ((spanI a).1, max (spanI a).2 (spanI b).2) := by
 unfold fuse
 split <;> simp only [spanI] <;> rw [Prod.mk.injEq] <;> omega
theorem mergeS_in (p : Int × Int → Prop) (hf : ∀ a b, p a → p b → p (fuse a b)) {out : List (Int × Int)} {s : Int × Int} (ho : ∀ x ∈ out, p x) (hs : p s) : ∀ x ∈ mergeS out s, p x := by
 unfold mergeS
 split
 ·rename_i a ha
  obtain ⟨l, rfl⟩ := List.getLast?_eq_some_iff.1 ha
  have hpa := ho a (by simp)
  split
  ·intro x hx
   rw [List.dropLast_concat] at hx
   rcases List.mem_append.1 hx with h | h
   ·exact ho x (List.mem_append_left _ h)
   ·rw [List.mem_singleton.1 h]; exact hf _ _ hpa hs
  ·intro x hx
   rcases List.mem_append.1 hx with h | h
   ·exact ho x h
   ·rw [List.mem_singleton.1 h]; exact hs
 ·intro x hx
  rcases List.mem_append.1 hx with h | h
  ·exact ho x h
  ·rw [List.mem_singleton.1 h]; exact hs
theorem merged_in (p : Int × Int → Prop) (hf : ∀ a b, p a → p b → p (fuse a b)) {l : List (Int × Int)} (h : ∀ x ∈ l, p x) : ∀ x ∈ merged l, p x := by
 have : ∀ (l out : List (Int × Int)), (∀ x ∈ out, p x) → (∀ x ∈ l, p x) → ∀ x ∈ l.foldl mergeS out, p x := by
  intro l
  induction l with
  | nil => intro out ho _; exact ho
  | cons y r ih =>
   intro out ho hl
   rw [List.foldl_cons]
   exact ih _ (mergeS_in p hf ho (hl y (by simp))) (fun x hx => hl x (by simp [hx]))
 exact this l [] (by simp) h
theorem orderN_in (p : Int × Int → Prop) (hf : ∀ a b, p a → p b → p (fuse a b)) {l : List (Int × Int)} (h : ∀ x ∈ l, p x) : ∀ x ∈ orderN l, p x :=
 merged_in p hf (fun x hx => h x ((sorted_mem lessS l x).1 hx))
theorem merged_pos {l : List (Int × Int)} (h : 0 < l.length) : 0 < (merged l).length := by
 obtain ⟨r, x, rfl⟩ : ∃ r x, l = r ++ [x] := ⟨l.dropLast, l.getLast (List.ne_nil_of_length_pos h), (List.dropLast_concat_getLast _).symm⟩
 unfold merged
 rw [List.foldl_append, List.foldl_cons, List.foldl_nil]; exact mergeS_pos _ _
theorem orderN_pos {l : List (Int × Int)} (h : 0 < l.length) : 0 < (orderN l).length := merged_pos (by rw [sorted_length]; exact h)
theorem may_fuse (n : Int) : ∀ a b, mayB (spanI a) n = true → mayB (spanI b) n = true → mayB (spanI (fuse a b)) n = true := by
 intro a b ha hb
 rw [mayB_span] at *
 unfold fuse spanI
 split <;> simp only <;> omega
theorem normE_ok {n : Int} {l : List (Int × Int)} (h : normE n l = 0) : 0 < l.length ∧ l.length ≤ 64 ∧ ∀ x ∈ l, mayB (spanI x) n = true := by
 unfold normE at h
 split at h
 ·cases h
 ·split at h
  ·cases h
  ·split at h
   ·rename_i h1 h2 h3
    exact ⟨by omega, by omega, List.all_eq_true.1 h3⟩
   ·cases h
theorem normE_yes {n : Int} {l : List (Int × Int)} (h0 : 0 < l.length) (h1 : l.length ≤ 64) (h : ∀ x ∈ l, mayB (spanI x) n = true) : normE n l = 0 := by
 rw [normE_in h0 h1, if_pos (List.all_eq_true.2 h)]
theorem normL_ok {n : Int} {l : List (Int × Int)} (h : normE n l = 0) : normL n l = orderN l := by unfold normL; rw [if_pos h]
theorem normL_in {n : Int} {l : List (Int × Int)} : ∀ x ∈ normL n l, mayB (spanI x) n = true := by
 unfold normL
 split
 ·rename_i h
  exact orderN_in _ (may_fuse n) (normE_ok h).2.2
 ·intro x hx; cases hx
def toN (t : List UInt8) (way : Int) (ext : Bool) (x : Int × Int) : Int :=
 if ext = true ∨ x.1 = x.2 ∨ 2 < way then (stepN t x.2.toNat way : Nat) else if way = 1 then (spanI x).1 else (spanI x).2
def turned (t : List UInt8) (way : Int) (ext : Bool) (x : Int × Int) : Int × Int := (if ext then x.1 else toN t way ext x, toN t way ext x)
def goE (n way : Int) (l : List (Int × Int)) : Int := if 1 ≤ way ∧ way ≤ 10 then normE n l else 2
def goL (t : List UInt8) (way : Int) (ext : Bool) (l : List (Int × Int)) : List (Int × Int) :=
 if goE t.length way l = 0 then normL t.length ((normL t.length l).map (turned t way ext)) else []
theorem turned_in {t : List UInt8} {way : Int} {ext : Bool} {x : Int × Int} (h : mayB (spanI x) t.length = true) : mayB (spanI (turned t way ext x)) t.length = true := by
 rw [mayB_span] at *
 have hs := stepN_le t x.2.toNat way (by omega)
 have ht : 0 ≤ toN t way ext x ∧ toN t way ext x ≤ t.length := by
  unfold toN spanI
  split
  ·omega
  ·split <;> simp only <;> omega
 unfold turned
 simp only
 split <;> omega
def halfway {α : Type} (f : α → α) (l : List α) (k : Nat) : List α := (l.take k).map f ++ l.drop k
theorem halfway_all {α : Type} (f : α → α) (l : List α) : halfway f l l.length = l.map f := by
 unfold halfway; rw [List.take_of_length_le (Nat.le_refl _), List.drop_of_length_le (Nat.le_refl _), List.append_nil]
theorem halfway_len {α : Type} (f : α → α) (l : List α) (k : Nat) : (halfway f l k).length = l.length := by
 unfold halfway; simp; omega
theorem halfway_at {α : Type} (f : α → α) {l : List α} {k : Nat} {x : α} (h : l[k]? = some x) : (halfway f l k)[k]? = some x := by
 obtain ⟨hk, rfl⟩ := List.getElem?_eq_some_iff.1 h
 unfold halfway
 rw [List.getElem?_append_right (by simp; omega)]
 simp [Nat.min_eq_left (Nat.le_of_lt hk)]
theorem halfway_step {α : Type} (f : α → α) {l : List α} {k : Nat} {x : α} (h : l[k]? = some x) : (halfway f l k).set k (f x) = halfway f l (k + 1) := by
 obtain ⟨hk, rfl⟩ := List.getElem?_eq_some_iff.1 h
 have hd : l.drop k = l[k] :: l.drop (k + 1) := List.drop_eq_getElem_cons hk
 unfold halfway
 rw [List.set_append_right _ _ (by simp; omega), List.take_succ_eq_append_getElem hk, List.map_append, hd]
 simp [Nat.min_eq_left (Nat.le_of_lt hk)]
 rw [hd]; rfl
theorem go_again {t : List UInt8} {way : Int} {ext : Bool} {l : List (Int × Int)} (h : normE t.length l = 0) : normE t.length ((normL t.length l).map (turned t way ext)) = 0 := by
 obtain ⟨h0, h1, _⟩ := normE_ok h
 have hl := normL_len t.length l
 refine normE_yes (by rw [List.length_map, normL_ok h]; exact orderN_pos h0) (by rw [List.length_map]; omega) ?_
 intro y hy
 obtain ⟨x, hx, rfl⟩ := List.mem_map.1 hy
 exact turned_in (normL_in x hx)
def goneS (t : List UInt8) (forth : Bool) (x : Int × Int) : Int × Int :=
 if x.1 = x.2 then (if forth then (x.2, (rightN t x.2.toNat : Nat)) else ((leftN t x.2.toNat : Nat), x.2)) else spanI x
def edOf (x : Int × Int) : Ed := ⟨x.1, x.2, ⟨#[]⟩⟩
def gonesL (t : List UInt8) (forth : Bool) (q : List (Int × Int)) : List (Int × Int) := (unionL (q.map (goneS t forth))).filter fullB
def erasedL (t : List UInt8) (forth : Bool) (q : List (Int × Int)) : List Ed := (gonesL t forth q).map edOf
theorem rightN_ge (l : List UInt8) (a : Nat) : a ≤ rightN l a := by
 unfold rightN
 split
 ·have := fwdN_ge inB l (a + 1); omega
 ·omega
theorem goneS_in {t : List UInt8} {forth : Bool} {x : Int × Int} (h : 0 ≤ x.1 ∧ 0 ≤ x.2 ∧ x.1 ≤ t.length ∧ x.2 ≤ t.length) : 0 ≤ (goneS t forth x).1 ∧ (goneS t forth x).1 ≤ (goneS t forth x).2 ∧ (goneS t forth x).2 ≤ t.length := by
 obtain ⟨p, q⟩ := x
 simp only at h
 unfold goneS
 simp only
 have h1 := rightN_ge t q.toNat
 have h2 := rightN_le t q.toNat (by omega)
 have h3 := leftN_le t q.toNat
 split
 ·split <;> (simp only; omega)
 ·unfold spanI; simp only; omega
theorem mayB_in {n : Int} {x : Int × Int} (h : mayB (spanI x) n = true) : 0 ≤ x.1 ∧ 0 ≤ x.2 ∧ x.1 ≤ n ∧ x.2 ≤ n := by
 rw [mayB_span] at h
 omega
def InT (n : Int) (q : List (Int × Int)) : Prop := ∀ x ∈ q, 0 ≤ x.1 ∧ 0 ≤ x.2 ∧ x.1 ≤ n ∧ x.2 ≤ n
theorem gones_in {t : List UInt8} {forth : Bool} {q : List (Int × Int)} (h : InT t.length q) : ∀ y ∈ q.map (goneS t forth), 0 ≤ y.1 ∧ y.1 ≤ y.2 ∧ y.2 ≤ t.length := by
 intro y hy
 obtain ⟨x, hx, rfl⟩ := List.mem_map.1 hy
 exact goneS_in (h x hx)
theorem gonesL_in {t : List UInt8} {forth : Bool} {q : List (Int × Int)} (h : InT t.length q) : ∀ y ∈ gonesL t forth q, 0 ≤ y.1 ∧ y.1 < y.2 ∧ y.2 ≤ t.length := by
 intro y hy
 obtain ⟨h1, h2⟩ := List.mem_filter.1 hy
 have h2 : y.1 < y.2 := by simpa [fullB] using h2
 have := unionL_all (fun y => 0 ≤ y.1 ∧ y.2 ≤ t.length) (fun a b ha hb => ⟨ha.1, by have := ha.2; have := hb.2; show max a.2 b.2 ≤ _; omega⟩) (fun y hy => by have := gones_in h y hy; exact ⟨this.1, this.2.2⟩) y h1
 have h3 := this.1
 have h4 := this.2
 omega
theorem gonesL_asc {t : List UInt8} {forth : Bool} {q : List (Int × Int)} (h : InT t.length q) : (gonesL t forth q).Pairwise (fun x y => x.2 < y.1) :=
 (unionL_asc (fun y hy => (gones_in h y hy).2.1)).1.filter _
theorem gonesL_len (t : List UInt8) (forth : Bool) (q : List (Int × Int)) : (gonesL t forth q).length ≤ q.length := by
 unfold gonesL
 have h1 := List.length_filter_le fullB (unionL (q.map (goneS t forth)))
 have h2 := unionL_len (q.map (goneS t forth))
 rw [List.length_map] at h2
 omega
theorem erasedL_len (t : List UInt8) (forth : Bool) (q : List (Int × Int)) : (erasedL t forth q).length ≤ q.length := by
 unfold erasedL; rw [List.length_map]; exact gonesL_len t forth q
end Go.Gim

/- A deed's range, mostly one that may be. Conditions: none. -/
import Derived.Test.YthlmgoagnfkhdaaGreatGimG25
import Derived.Test.YthlmgoagnfkhdaaGreatGimG35
import Derived.Test.YthlmgoagnfkhdaaGreatGimG26
import Derived.Test.YthlmgoagnfkhdaaGreatGimG07
import Derived.Test.YthlmgoagnfkhdaaGreatGimG05
import Derived.Test.YthlmgoagnfkhdaaGreatGimG11
import Derived.Test.YthlmgoagnfkhdaaGreatGimG01
import Derived.Deep.CutBlock
import Derived.Handy
set_option maxHeartbeats 6400000
set_option maxRecDepth 1000000
set_option linter.unusedVariables false
set_option linter.unusedSimpArgs false
namespace Go.Proofs.YthlmgoagnfkhdaaGreat
open Go.RowKit Go.Gim
theorem lowC (x : Int) (n : Nat) (m : Int) (hm : m = n) (h1 : 1 ≤ n) (h2 : n ≤ 1000000) (v : World) : Calls Tryz.prog 21 #[.int .i64 x, .int .i64 m] v fun e w' => e = .returned (.int .i64 (lowN x n : Nat)) ∧ w' = v := by
 subst hm
 have h := low_any x n v (by omega) (by omega)
 rwa [Int.toNat_natCast] at h
end Go.Proofs.YthlmgoagnfkhdaaGreat
namespace Go.Gim
structure Dn where
 L : Tb
 last : Int
 n : Int
 e : Int
def moveD (L : Tb) (last : Int) (es : List Ed) : Dn := if rangedE 65536 es = 0 then ⟨moveT es L, last, 0, 0⟩ else ⟨L, last, 0, rangedE 65536 es⟩
def addD (L : Tb) (last : Int) (r : Rg) : Dn := if addE L r = 0 then ⟨L ++ [(last + 1, r)], last + 1, last + 1, 0⟩ else ⟨L, last, 0, addE L r⟩
theorem ranged_ok {es : List Ed} (h : rangedE 65536 es = 0) (ht : ∀ e ∈ es, e.t.size ≤ 100000) : ∀ e ∈ es, EdOk e := by
 intro e he
 unfold rangedE at h
 split at h
 ·rename_i hm
  have h1 := List.all_eq_true.1 hm e he
  unfold mayS edS at h1
  have h1 := of_decide_eq_true h1
  exact ⟨h1.1, h1.2.1, h1.2.2, ht e he⟩
 ·cases h
def DnOk (d : Dn) (last Bd : Int) : Prop := Tok d.L d.last Bd ∧ last ≤ d.last ∧ d.last ≤ last + 1
theorem moveD_ok {L : Tb} {last B : Int} (h : Tok L last B) {es : List Ed} (hn : es.length ≤ 19) (ht : ∀ e ∈ es, e.t.size ≤ 100000) (hB : 65536 ≤ B) : DnOk (moveD L last es) last (B + 2000000) := by
 unfold moveD
 split
 ·rename_i hr
  exact ⟨h.move (ranged_ok hr ht) hn hB, by simp only; omega, by simp only; omega⟩
 ·exact ⟨h.mono (by omega), by simp only; omega, by simp only; omega⟩
theorem addD_ok {L : Tb} {last B : Int} (h : Tok L last B) {r : Rg} (hB : 65536 ≤ B) (hl : last < 1000000) : DnOk (addD L last r) last (B + 2000000) := by
 unfold addD
 split
 ·rename_i hr
  exact ⟨(h.add hr hB hl).mono (by omega), by simp only; omega, by simp only; omega⟩
 ·exact ⟨h.mono (by omega), by simp only; omega, by simp only; omega⟩
end Go.Gim
namespace Go.Proofs.YthlmgoagnfkhdaaGreat
open Go.RowKit Go.Gim
end Go.Proofs.YthlmgoagnfkhdaaGreat
namespace Go.Gim
theorem place_end {α : Type} (less : α → α → Bool) (x : α) (out : List α) (h : ∀ y ∈ out, less x y = false) : place less x out out.length = out.length := by
 cases hn : out.length with
 | zero => rfl
 | succ k =>
  rw [place.eq_2]
  split
  ·rename_i y hy
   rw [if_neg (by rw [h y (List.mem_of_getElem? hy)]; decide)]
  ·rfl
theorem sorted_self {α : Type} (less : α → α → Bool) (l : List α) (h : l.Pairwise (fun x y => less y x = false)) : sorted less l = l := by
 have : ∀ k, k ≤ l.length → sorted less (l.take k) = l.take k := by
  intro k
  induction k with
  | zero => intro _; rfl
  | succ k ih =>
   intro hk
   have hk' : k < l.length := by omega
   rw [List.take_succ_eq_append_getElem hk', sorted_snoc, ih (by omega)]
   unfold insR
   rw [place_end less _ _ (fun y hy => ?_)]
   ·rw [List.take_of_length_le (Nat.le_refl _), List.drop_of_length_le (Nat.le_refl _)]
   ·obtain ⟨i, hi, rfl⟩ := List.getElem_of_mem hy
    rw [List.length_take] at hi
    rw [List.getElem_take]
    exact List.pairwise_iff_getElem.1 h i k (by omega) hk' (by omega)
 have h2 := this l.length (Nat.le_refl _)
 rwa [List.take_of_length_le (Nat.le_refl _)] at h2
def Asc (es : List Ed) : Prop := (∀ e ∈ es, e.a ≤ e.b) ∧ es.Pairwise (fun e f => e.b < f.a)
theorem asc_sorted {es : List Ed} (h : Asc es) : sorted lessE es = es := by
 refine sorted_self lessE es ?_
 refine List.Pairwise.imp_of_mem ?_ h.2
 intro e f he hf hlt
 have := h.1 e he
 unfold lessE lessB
 refine decide_eq_false ?_
 simp only
 omega
theorem asc_ranged {es : List Ed} (h : Asc es) (hm : ∀ e ∈ es, 0 ≤ e.a ∧ e.b ≤ 65536) : rangedE 65536 es = 0 := by
 unfold rangedE
 rw [if_pos, if_pos]
 ·refine apartB_yes (fun i hi => ?_)
  have hs : sorted lessB (es.map edS) = es.map edS := by
   refine sorted_self lessB _ ?_
   rw [List.pairwise_map]
   refine List.Pairwise.imp_of_mem ?_ h.2
   intro e f he hf hlt
   have := h.1 e he
   unfold lessB edS
   refine decide_eq_false ?_
   simp only
   omega
  rw [hs]
  rw [List.length_map] at hi
  have hx : (es.map edS)[i]? = some (edS es[i]) := by rw [List.getElem?_map, List.getElem?_eq_getElem hi]; rfl
  rw [okAt_yes hx]
  refine ⟨h.1 _ (List.getElem_mem hi), fun j y e hy => ?_⟩
  subst e
  rw [List.getElem?_map, List.getElem?_eq_getElem (by omega : j < es.length)] at hy
  cases hy
  have := List.pairwise_iff_getElem.1 h.2 j (j + 1) (by omega) hi (by omega)
  have h3 := h.1 _ (List.getElem_mem (show j < es.length by omega))
  unfold edS
  simp only
  omega
 ·refine List.all_eq_true.2 (fun e he => ?_)
  have := hm e he
  have := h.1 e he
  unfold mayS edS
  refine decide_eq_true ?_
  simp only
  omega
def mvR (es : List Ed) (r : Rg) : Rg := ⟨min (moveE r.p es r.a) (moveE r.q es r.b), moveE r.q es r.b, r.p, r.q, r.u⟩
def oldE (s : ByteArray) (e : Ed) : ByteArray := s.extract e.a.toNat e.b.toNat
def dE (e : Ed) : Int := (e.t.size : Int) - (e.b - e.a)
structure Bk where
 out : List Ed
 g : Int
 e : Int
def newE (s : ByteArray) (g : Int) (x : Ed) : Ed := ⟨x.a + g, x.a + g + x.t.size, oldE s x⟩
def backOut (s : ByteArray) (st : Bk) (x : Ed) : List Ed :=
 match st.out.getLast? with
 | some y => if x.a = st.e then st.out.set (st.out.length - 1) ⟨y.a, y.b + x.t.size, y.t ++ oldE s x⟩ else st.out ++ [newE s st.g x]
 | none => st.out ++ [newE s st.g x]
def backStep (s : ByteArray) (st : Bk) (x : Ed) : Bk := ⟨backOut s st x, st.g + dE x, x.b⟩
def backT (s : ByteArray) (es : List Ed) : Bk := es.foldl (backStep s) ⟨[], 0, -1⟩
def backE (s : ByteArray) (es : List Ed) : List Ed := (backT s (sorted lessE es)).out
def backL (s : ByteArray) : Int → List Ed → List Ed
 | _, [] => []
 | g, e :: r => newE s g e :: backL s (g + dE e) r
theorem backT_asc (s : ByteArray) : ∀ (es : List Ed) (st : Bk), Asc es → (∀ e ∈ es, st.e < e.a) → (es.foldl (backStep s) st).out = st.out ++ backL s st.g es := by
 intro es
 induction es with
 | nil => intro st _ _; simp [backL]
 | cons x r ih =>
  intro st ha hl
  have h2 := List.pairwise_cons.1 ha.2
  rw [List.foldl_cons, ih (backStep s st x) ⟨fun e he => ha.1 e (List.mem_cons_of_mem _ he), h2.2⟩ (fun e he => h2.1 e he)]
  have ho : (backStep s st x).out = st.out ++ [newE s st.g x] := by
   show backOut s st x = _
   unfold backOut
   split
   ·rw [if_neg (by have := hl x (List.mem_cons_self ..); omega)]
   ·rfl
  rw [ho, List.append_assoc]
  rfl
theorem backE_asc {s : ByteArray} {es : List Ed} (h : Asc es) (h0 : ∀ e ∈ es, 0 ≤ e.a) : backE s es = backL s 0 es := by
 unfold backE backT
 rw [asc_sorted h, backT_asc s es _ h (fun e he => by have := h0 e he; show (-1 : Int) < e.a; omega)]
 rfl
theorem oldE_size {s : ByteArray} {e : Ed} (h0 : 0 ≤ e.a) (h1 : e.a ≤ e.b) (h2 : e.b ≤ s.size) : ((oldE s e).size : Int) = e.b - e.a := by
 unfold oldE
 rw [ByteArray.size_extract]
 omega
def foldE (right : Bool) (es : List Ed) (o : Int) : Int := es.foldr (fun e o => oneE right o e) o
theorem moveE_asc {right : Bool} {es : List Ed} (h : Asc es) (o : Int) : moveE right es o = foldE right es o := by
 unfold moveE foldE
 rw [asc_sorted h, List.foldl_reverse]
def Far (es : List Ed) (o : Int) : Prop := ∀ e ∈ es, o < e.a ∨ e.b < o
theorem Asc.tail {x : Ed} {r : List Ed} (h : Asc (x :: r)) : Asc r ∧ x.a ≤ x.b ∧ ∀ e ∈ r, x.b < e.a :=
 ⟨⟨fun e he => h.1 e (List.mem_cons_of_mem _ he), (List.pairwise_cons.1 h.2).2⟩, h.1 x (List.mem_cons_self ..), (List.pairwise_cons.1 h.2).1⟩
theorem fold_stay {right : Bool} : ∀ (es : List Ed) (o : Int), (∀ e ∈ es, o < e.a) → foldE right es o = o := by
 intro es
 induction es with
 | nil => intro o _; rfl
 | cons x r ih =>
  intro o h
  show oneE right (foldE right r o) x = o
  rw [ih o (fun e he => h e (List.mem_cons_of_mem _ he))]
  unfold oneE
  rw [if_pos (h x (List.mem_cons_self ..))]
theorem fold_over {right : Bool} : ∀ (es : List Ed) (o c : Int), Asc es → Far es o → (∀ e ∈ es, c < e.a) → c < o → c < foldE right es o := by
 intro es
 induction es with
 | nil => intro o c _ _ _ h; exact h
 | cons x r ih =>
  intro o c ha hf hc h
  obtain ⟨h1, h2, h3⟩ := ha.tail
  have hcx := hc x (List.mem_cons_self ..)
  rcases hf x (List.mem_cons_self ..) with e | e
  ·rw [fold_stay (x :: r) o (fun y hy => by
    rcases List.mem_cons.1 hy with rfl | hy
    ·exact e
    ·have := h3 y hy; omega)]
   exact h
  ·have hR := ih o x.b h1 (fun y hy => hf y (List.mem_cons_of_mem _ hy)) h3 e
   show c < oneE right (foldE right r o) x
   unfold oneE
   rw [if_neg (by omega), if_pos hR]
   omega
theorem fold_step {right : Bool} {x : Ed} {r : List Ed} {o : Int} (ha : Asc (x :: r)) (hf : Far (x :: r) o) : (o < x.a ∧ foldE right (x :: r) o = o ∧ foldE right r o = o) ∨ (x.b < o ∧ foldE right (x :: r) o = foldE right r o + dE x ∧ x.b < foldE right r o) := by
 obtain ⟨h1, h2, h3⟩ := ha.tail
 rcases hf x (List.mem_cons_self ..) with e | e
 ·refine .inl ⟨e, fold_stay _ o (fun y hy => ?_), fold_stay _ o (fun y hy => by have := h3 y hy; omega)⟩
  rcases List.mem_cons.1 hy with rfl | hy
  ·exact e
  ·have := h3 y hy; omega
 ·have hR := fold_over (right := right) r o x.b h1 (fun y hy => hf y (List.mem_cons_of_mem _ hy)) h3 e
  refine .inr ⟨e, ?_, hR⟩
  show oneE right (foldE right r o) x = _
  unfold oneE dE
  rw [if_neg (by omega), if_pos hR]
theorem fold_mono {p q : Bool} : ∀ (es : List Ed) (o1 o2 : Int), Asc es → Far es o1 → Far es o2 → o1 ≤ o2 → foldE p es o1 ≤ foldE q es o2 := by
 intro es
 induction es with
 | nil => intro o1 o2 _ _ _ h; exact h
 | cons x r ih =>
  intro o1 o2 ha h1 h2 h
  have hR := ih o1 o2 ha.tail.1 (fun y hy => h1 y (List.mem_cons_of_mem _ hy)) (fun y hy => h2 y (List.mem_cons_of_mem _ hy)) h
  have hx := ha.tail.2.1
  rcases fold_step (right := p) ha h1 with ⟨a1, a2, a3⟩ | ⟨a1, a2, a3⟩
  ·rcases fold_step (right := q) ha h2 with ⟨b1, b2, b3⟩ | ⟨b1, b2, b3⟩
   ·omega
   ·unfold dE at b2; omega
  ·rcases fold_step (right := q) ha h2 with ⟨b1, b2, b3⟩ | ⟨b1, b2, b3⟩ <;> omega
theorem backL_low (s : ByteArray) : ∀ (es : List Ed) (g c : Int), Asc es → (∀ e ∈ es, c < e.a) → ∀ y ∈ backL s g es, c + g < y.a := by
 intro es
 induction es with
 | nil => intro g c _ _ y hy; cases hy
 | cons x r ih =>
  intro g c ha hc y hy
  obtain ⟨h1, h2, h3⟩ := ha.tail
  have hcx := hc x (List.mem_cons_self ..)
  rcases List.mem_cons.1 hy with rfl | hy
  ·show c + g < x.a + g; omega
  ·have := ih (g + dE x) x.b h1 h3 y hy
   unfold dE at this
   omega
theorem backL_asc (s : ByteArray) : ∀ (es : List Ed) (g : Int), Asc es → Asc (backL s g es) := by
 intro es
 induction es with
 | nil => intro g h; exact ⟨fun e he => by simp [backL] at he, List.Pairwise.nil⟩
 | cons x r ih =>
  intro g ha
  obtain ⟨h1, h2, h3⟩ := ha.tail
  obtain ⟨i1, i2⟩ := ih (g + dE x) h1
  refine ⟨fun e he => ?_, List.pairwise_cons.2 ⟨fun y hy => ?_, i2⟩⟩
  ·rcases List.mem_cons.1 he with rfl | he
   ·show x.a + g ≤ x.a + g + x.t.size; omega
   ·exact i1 e he
  ·have := backL_low s r (g + dE x) x.b h1 h3 y hy
   unfold dE at this
   show x.a + g + x.t.size < y.a
   omega
theorem fold_back {p q : Bool} (s : ByteArray) : ∀ (es : List Ed) (g o : Int), Asc es → Far es o → (∀ e ∈ es, 0 ≤ e.a ∧ e.b ≤ s.size) → foldE p (backL s g es) (foldE q es o + g) = o + g := by
 intro es
 induction es with
 | nil => intro g o _ _ _; rfl
 | cons x r ih =>
  intro g o ha hf hb
  obtain ⟨h1, h2, h3⟩ := ha.tail
  have hz := oldE_size (s := s) (hb x (List.mem_cons_self ..)).1 h2 (hb x (List.mem_cons_self ..)).2
  show oneE p (foldE p (backL s (g + dE x) r) (foldE q (x :: r) o + g)) (newE s g x) = o + g
  rcases fold_step (right := q) ha hf with ⟨a1, a2, a3⟩ | ⟨a1, a2, a3⟩
  ·rw [a2, fold_stay _ _ (fun y hy => by
    have := backL_low s r (g + dE x) x.b h1 h3 y hy
    unfold dE at this
    omega)]
   unfold oneE newE
   simp only
   rw [if_pos (by omega)]
  ·have hI := ih (g + dE x) o h1 (fun y hy => hf y (List.mem_cons_of_mem _ hy)) (fun e he => hb e (List.mem_cons_of_mem _ he))
   rw [a2, show foldE q r o + dE x + g = foldE q r o + (g + dE x) by omega, hI]
   unfold oneE newE
   simp only
   unfold dE at *
   rw [if_neg (by omega), if_pos (by omega), hz]
   omega
theorem backL_mem (s : ByteArray) : ∀ (es : List Ed) (g : Int), ∀ y ∈ backL s g es, ∃ x ∈ es, y.t = oldE s x ∧ y.b = y.a + x.t.size := by
 intro es
 induction es with
 | nil => intro g y hy; cases hy
 | cons x r ih =>
  intro g y hy
  rcases List.mem_cons.1 hy with rfl | hy
  ·exact ⟨x, List.mem_cons_self .., rfl, rfl⟩
  ·obtain ⟨z, hz, e1, e2⟩ := ih _ y hy
   exact ⟨z, List.mem_cons_of_mem _ hz, e1, e2⟩
theorem backL_len (s : ByteArray) : ∀ (es : List Ed) (g : Int), (backL s g es).length = es.length := by
 intro es
 induction es with
 | nil => intro g; rfl
 | cons x r ih => intro g; simp [backL, ih]
theorem backL_pos (s : ByteArray) {es : List Ed} (ha : Asc es) (h0 : ∀ e ∈ es, 0 ≤ e.a) : ∀ y ∈ backL s 0 es, 0 ≤ y.a := by
 intro y hy
 have := backL_low s es 0 (-1) ha (fun e he => by have := h0 e he; omega) y hy
 omega
theorem mvR_back {s : ByteArray} {es : List Ed} (ha : Asc es) (hb : ∀ e ∈ es, 0 ≤ e.a ∧ e.b ≤ s.size) {r : Rg} (h1 : Far es r.a) (h2 : Far es r.b) (h3 : r.a ≤ r.b) : mvR (backL s 0 es) (mvR es r) = r := by
 obtain ⟨a, b, p, q, u⟩ := r
 simp only at h1 h2 h3
 have hB := backL_asc s es 0 ha
 have m1 := fold_mono (p := p) (q := q) es a b ha h1 h2 h3
 have e1 := fold_back (p := p) (q := p) s es 0 a ha h1 hb
 have e2 := fold_back (p := q) (q := q) s es 0 b ha h2 hb
 rw [Int.add_zero, Int.add_zero] at e1 e2
 unfold mvR
 simp only [moveE_asc ha, moveE_asc hB]
 rw [Int.min_eq_left m1, e1, e2, Int.min_eq_left h3]
def grownE (n : Int) (es : List Ed) : Int := es.foldl (fun n e => n + dE e) n
def mayE (n : Int) (es : List Ed) : Int := if rangedE n es ≠ 0 then rangedE n es else if 65536 < grownE n es then 4 else 0
theorem rangedE_or (n : Int) (es : List Ed) : rangedE n es = 0 ∨ rangedE n es = 3 ∨ rangedE n es = 5 := by
 unfold rangedE
 split
 ·split
  ·exact .inl rfl
  ·exact .inr (.inr rfl)
 ·exact .inr (.inl rfl)
theorem mayE_bad {n : Int} {es : List Ed} (h : rangedE n es ≠ 0) : mayE n es = rangedE n es := if_pos h
theorem mayE_fit {n : Int} {es : List Ed} (h : rangedE n es = 0) : mayE n es = if 65536 < grownE n es then 4 else 0 := by unfold mayE; rw [if_neg (fun e => e h)]
theorem rangedE_mem {n : Int} {es : List Ed} (h : rangedE n es = 0) : ∀ e ∈ es, 0 ≤ e.a ∧ e.a ≤ e.b ∧ e.b ≤ n := by
 unfold rangedE at h
 split at h
 ·rename_i ha
  intro e he
  have := List.all_eq_true.1 ha e he
  unfold mayS edS at this
  exact of_decide_eq_true this
 ·cases h
theorem grownE_step (n : Int) {es : List Ed} {k : Nat} {x : Ed} (hx : es[k]? = some x) : grownE n (es.take (k + 1)) = grownE n (es.take k) + dE x := by
 obtain ⟨hk, rfl⟩ := List.getElem?_eq_some_iff.1 hx
 unfold grownE
 rw [List.take_succ_eq_append_getElem hk, List.foldl_append]
 rfl
def EdNear (e : Ed) : Prop := -1000000 ≤ e.a ∧ e.a ≤ 1000000 ∧ -1000000 ≤ e.b ∧ e.b ≤ 1000000 ∧ e.t.size ≤ 100000
theorem EdOk.near {e : Ed} (h : EdOk e) : EdNear e := by obtain ⟨h1, h2, h3, h4⟩ := h; exact ⟨by omega, by omega, by omega, by omega, h4⟩
theorem grownE_bd {n : Int} {es : List Ed} (hok : ∀ e ∈ es, EdNear e) : ∀ k, n - k * 3000000 ≤ grownE n (es.take k) ∧ grownE n (es.take k) ≤ n + k * 3000000 := by
 intro k
 induction k with
 | zero => simp [grownE]
 | succ k ih =>
  by_cases hk : k < es.length
  ·rw [grownE_step n (List.getElem?_eq_getElem hk)]
   obtain ⟨h1, h2, h3, h4, h5⟩ := hok _ (List.getElem_mem hk)
   unfold dE
   omega
  ·rw [List.take_of_length_le (by omega)]
   rw [List.take_of_length_le (by omega)] at ih
   omega
end Go.Gim
namespace Go.Proofs.YthlmgoagnfkhdaaGreat
open Go.RowKit Go.Gim
theorem cspans_any (ao : Option Addr) (cap : Nat) (l : List Ed) (w : World) (hr : Reads w 3 ao l.length (edE.cells l)) (hn : l.length ≤ 1000) :
  Calls Tryz.prog 57 #[.slice ao l.length cap] w fun e w' => ∃ a2 c2, e = .returned (.slice a2 l.length c2) ∧ Reads w' 2 a2 l.length (prE.cells (l.map edS)) ∧ NilOr a2 l.length ∧ Ext w w' := by
 have hl1 : maxLen = 9223372036854775807 := rfl
 have Hr := Lib.hid hr
 obtain ⟨N, hN⟩ : ∃ N, N = l.length := ⟨_, rfl⟩
 have HN := Lib.hid hN
 rw [← hN] at hn ⊢
 clear hr hN
 go_enter Tryz.func57, Tryz.ntmps57
 go_wp2_with fail
 go_loopw [3, 8] (fun v i wr => ∃ k : Nat, k ≤ N ∧ i = .int .i64 k ∧ Hid (wr.ownsRow w.heap.size 49 2 v k (prE.cells ((l.map edS).take k)) ∧ (k = 0 → v = .slice none 0 0)) ∧ Ext w wr) (fun _ i _ => N - (intOf i).toNat)
 case atStart => exact ⟨0, by omega, rfl, Lib.hid ⟨World.ownsRow_nil _ _ _ _, fun _ => rfl⟩, Mod.refl _ _⟩
 case round =>
  obtain ⟨k, hk, rfl, HO, hx⟩ := hrel
  by_cases hlt : k < N
  ·have hlt' : (k : Int) < (N : Int) := by omega
   have hk0 : (0 : Int) ≤ (k : Int) := by omega
   obtain ⟨b, off, rfl⟩ := Hr.out.some (by have := HN.out; omega)
   have hlk : k < l.length := by rw [← HN.out]; exact hlt
   obtain ⟨c0, c1, c2⟩ := rdEd_at (Hr.out.mod hx (fun _ _ f => f)) (List.getElem?_eq_getElem hlk)
   have Hts := Lib.hid (show (l.map edS).take (k + 1) = (l.map edS).take k ++ [edS l[k]] by rw [List.take_succ_eq_append_getElem (by simpa using hlk)]; simp)
   generalize l[k] = x at *
   have Hlt := Lib.hid hlt
   have hbl := World.block_lt_of_cell? wr _ c0
   clear hlk
   go_upto_region 5 with fail
   obtain ⟨u, hu⟩ : ∃ u, u = wr.alloc (.cells #[.int .i64 x.a, .int .i64 x.b, .string x.t] 59) := ⟨_, rfl⟩
   have hxu : Ext wr u := by rw [hu]; exact (Mod.refl _ wr).alloc _
   have hbu : Blk u wr.heap.size 59 #[.int .i64 x.a, .int .i64 x.b, .string x.t] := by rw [hu]; exact Blk.new _ _ _
   rw [← hu]
   clear c0 c1 c2 hbl hu
   have c0 : u.cell? ⟨wr.heap.size, 0, none⟩ = some (.int .i64 x.a) := hbu.cell 0
   have c1 : u.cell? ⟨wr.heap.size, 1, none⟩ = some (.int .i64 x.b) := hbu.cell 1
   have hlu := hbu.lt
   have hy := hx.ext_trans hxu
   have HOu := Lib.hid (ownsRow_mod HO.out.1 hxu (fun _ _ f => f))
   go_wp2_with (at_builtin; refine wpList_append_reads rfl _ _ 114 rfl w.heap.size 49 _ 2 16 Tryz.info49 Tryz.underlying114 rfl (by decide) _ k _ rfl (HOu.out.alloc _) _ 1 1 [.int .i64 x.a, .int .i64 x.b] rfl ?hrd (prE.one (x.a, x.b)) (by omega) (by omega) ?hbs ?_)
   case hrd =>
    have := Reads.new u 49 #[.int .i64 x.a, .int .i64 x.b] 2 1 rfl
    simpa using this
   case hbs => have := hy.size; simp; omega
   intro v' w4 hown hm4 hbk
   have hx4 := (hy.alloc _).over hm4 (fun i hi => (HOu.out.lt i hi).1)
   have Hown := Lib.hid hown
   clear hm4 hbk hown c0 c1 hlu
   go_wp2_with fail
   go_roundw
   case rel => exact ⟨k + 1, Hlt.out, by go_num, Lib.hid ⟨by rw [Hts.out, prE.cells_append]; exact Hown.out, fun h => absurd h (by omega)⟩, hx4⟩
   case measure => have := Hlt.out; simp [intOf]; omega
  ·have hlt' : ¬ (k : Int) < (N : Int) := by omega
   obtain rfl : k = N := by omega
   have hS := HO.out.1
   rw [List.take_of_length_le (by rw [List.length_map, ← HN.out]; exact Nat.le_refl _)] at hS
   obtain ⟨a2, c2, hv2, hrd⟩ := Enc.owns_reads (E := prE) hS
   have Hnil := Lib.hid (show NilOr a2 k from fun hz => by have := HO.out.2 hz; rw [hv2] at this; cases this; rfl)
   subst hv2
   have Hrd := Lib.hid hrd
   clear hS HO hrd
   go_wp2_with fail
   go_ret
   exact ⟨a2, ⟨c2, rfl⟩, Hrd.out, Hnil.out, hx⟩
theorem cgrown_any (n : Int) (ao : Option Addr) (cap : Nat) (l : List Ed) (w : World) (hr : Reads w 3 ao l.length (edE.cells l)) (hn : l.length ≤ 1000) (hok : ∀ e ∈ l, EdNear e) (h0 : -1000000000 ≤ n) (h1 : n ≤ 1000000000) :
  Calls Tryz.prog 58 #[.int .i64 n, .slice ao l.length cap] w fun e w' => e = .returned (.int .i64 (grownE n l)) ∧ Ext w w' := by
 have Hr := Lib.hid hr
 have Hok := Lib.hid hok
 have Hbd := Lib.hid (grownE_bd (n := n) hok)
 obtain ⟨N, hN⟩ : ∃ N, N = l.length := ⟨_, rfl⟩
 have HN := Lib.hid hN
 rw [← hN] at hn ⊢
 clear hr hN hok
 go_enter Tryz.func58, Tryz.ntmps58
 go_wp2_with fail
 go_loopw [0, 9] (fun g i wr => ∃ k : Nat, k ≤ N ∧ i = .int .i64 k ∧ g = .int .i64 (grownE n (l.take k)) ∧ Ext w wr) (fun _ i _ => N - (intOf i).toNat)
 case atStart => exact ⟨0, by omega, rfl, rfl, Mod.refl _ _⟩
 case round =>
  obtain ⟨k, hk, rfl, rfl, hx⟩ := hrel
  by_cases hlt : k < N
  ·have hlt' : (k : Int) < (N : Int) := by omega
   have hk0 : (0 : Int) ≤ (k : Int) := by omega
   obtain ⟨b, off, rfl⟩ := Hr.out.some (by have := HN.out; omega)
   have hlk : k < l.length := by rw [← HN.out]; exact hlt
   obtain ⟨c0, c1, c2⟩ := rdEd_at (Hr.out.mod hx (fun _ _ f => f)) (List.getElem?_eq_getElem hlk)
   have Hst := Lib.hid (grownE_step n (List.getElem?_eq_getElem hlk))
   obtain ⟨e1, e2, e3, e4, e5⟩ := Hok.out _ (List.getElem_mem hlk)
   have hb1 := Hbd.out k
   have hb2 := Hbd.out (k + 1)
   rw [Hst.out] at hb2
   generalize l[k] = x at *
   generalize grownE n (l.take k) = G at *
   unfold dE at Hst hb2
   have HL := Lib.hid (fun w' => spLen_any (x.a, x.b) w' (by simp only; omega) (by simp only; omega))
   have s1 : IntKind.i64.wrap ((x.t.size : Int) - (x.b - x.a)) = (x.t.size : Int) - (x.b - x.a) := IntWalk.i64_in _ (by omega)
   have s2 : IntKind.i64.wrap (G + ((x.t.size : Int) - (x.b - x.a))) = G + ((x.t.size : Int) - (x.b - x.a)) := IntWalk.i64_in _ (by omega)
   have hbl := World.block_lt_of_cell? wr _ c0
   clear hlk
   go_upto_region 4 with fail
   obtain ⟨u, hu⟩ : ∃ u, u = wr.alloc (.cells #[.int .i64 x.a, .int .i64 x.b, .string x.t] 59) := ⟨_, rfl⟩
   have hxu : Ext wr u := by rw [hu]; exact (Mod.refl _ wr).alloc _
   have hbu : Blk u wr.heap.size 59 #[.int .i64 x.a, .int .i64 x.b, .string x.t] := by rw [hu]; exact Blk.new _ _ _
   rw [← hu]
   clear c0 c1 c2 hbl hu
   have c0 : u.cell? ⟨wr.heap.size, 0, none⟩ = some (.int .i64 x.a) := hbu.cell 0
   have c1 : u.cell? ⟨wr.heap.size, 1, none⟩ = some (.int .i64 x.b) := hbu.cell 1
   have c2 : u.cell? ⟨wr.heap.size, 2, none⟩ = some (.string x.t) := hbu.cell 2
   have hlu := hbu.lt
   refine wp_region_ext_lit (by kernel_rfl) (by kernel_rfl) ?_
   repeat (go_big_quiet_step (exact Calls.ext_of (HL.out _)))
   refine wpQuiet_nil ?_
   intro we hxe
   have hy := (hx.ext_trans hxu).ext_trans hxe
   clear c0 c1 c2 hlu hbu
   go_wp2_with fail
   go_roundw
   case rel => exact ⟨k + 1, by omega, by go_num, by rw [Hst.out], hy⟩
   case measure => simp [intOf]; omega
  ·have hlt' : ¬ (k : Int) < (N : Int) := by omega
   obtain rfl : k = N := by omega
   have HE := Lib.hid (show grownE n (l.take k) = grownE n l by rw [List.take_of_length_le (by rw [← HN.out]; exact Nat.le_refl _)])
   go_wp2_with fail
   go_ret
   exact ⟨ret_int HE.out, hx⟩
theorem cmay_any (n : Int) (ao : Option Addr) (cap : Nat) (l : List Ed) (w : World) (hr : Reads w 3 ao l.length (edE.cells l)) (hn : l.length ≤ 19) (h0 : 0 ≤ n) (h1 : n ≤ 1000000) (ht : ∀ e ∈ l, e.t.size ≤ 100000) :
  Calls Tryz.prog 29 #[.int .i64 n, .slice ao l.length cap] w fun e w' => e = .returned (.int .i64 (mayE n l)) ∧ Ext w w' := by
 have Hr := Lib.hid hr
 have Hno := Lib.hid (fun i e hi h => rangedE_no (n := n) (es := l) (i := i) (e := e) hi h)
 have Hyes := Lib.hid (rangedE_yes (n := n) (es := l))
 have Hbad := Lib.hid (mayE_bad (n := n) (es := l))
 have Hfit := Lib.hid (mayE_fit (n := n) (es := l))
 have Ht := Lib.hid ht
 have HSp := Lib.hid (fun w' (h : Ext w w') => cspans_any ao cap l w' (hr.mod h (fun _ _ f => f)) (by omega))
 have HAp := Lib.hid (fun a c w' hh hz => apart_any a c (l.map edS) w' hh hz (by rw [List.length_map]; exact hn))
 rw [List.length_map] at HAp
 have HGr := Lib.hid (fun w' (h : Ext w w') (hok : ∀ e ∈ l, EdNear e) => cgrown_any n ao cap l w' (hr.mod h (fun _ _ f => f)) (by omega) hok (by omega) (by omega))
 obtain ⟨N, hN⟩ : ∃ N, N = l.length := ⟨_, rfl⟩
 have HN := Lib.hid hN
 rw [← hN] at hn HSp HAp HGr Hyes ⊢
 generalize mayE n l = C at *
 clear hr hN ht
 go_enter Tryz.func29, Tryz.ntmps29
 go_wp2_with fail
 go_loopw [9] (fun i wr => ∃ k : Nat, k ≤ N ∧ i = .int .i64 k ∧ Hid (∀ (j : Nat) (e : Ed), j < k → l[j]? = some e → mayS (edS e) n = true) ∧ Ext w wr) (fun i _ => N - (intOf i).toNat)
 case atStart => exact ⟨0, by omega, rfl, Lib.hid (fun j e hj => absurd hj (Nat.not_lt_zero j)), Mod.refl _ _⟩
 case round =>
  obtain ⟨k, hk, rfl, HO, hx⟩ := hrel
  by_cases hlt : k < N
  ·have hlt' : (k : Int) < (N : Int) := by omega
   have hk0 : (0 : Int) ≤ (k : Int) := by omega
   obtain ⟨b, off, rfl⟩ := Hr.out.some (by have := HN.out; omega)
   have hlk : k < l.length := by rw [← HN.out]; exact hlt
   obtain ⟨c0, c1, c2⟩ := rdEd_at (Hr.out.mod hx (fun _ _ f => f)) (List.getElem?_eq_getElem hlk)
   have Hlx := Lib.hid (List.getElem?_eq_getElem hlk)
   generalize l[k] = x at *
   have Hlt := Lib.hid hlt
   have Hm := Lib.hid (fun w' => spMay_any (edS x) n w')
   have hbl := World.block_lt_of_cell? wr _ c0
   clear hlk
   go_upto_region 4 with fail
   obtain ⟨u, hu⟩ : ∃ u, u = wr.alloc (.cells #[.int .i64 x.a, .int .i64 x.b, .string x.t] 59) := ⟨_, rfl⟩
   have hxu : Ext wr u := by rw [hu]; exact (Mod.refl _ wr).alloc _
   have hbu : Blk u wr.heap.size 59 #[.int .i64 x.a, .int .i64 x.b, .string x.t] := by rw [hu]; exact Blk.new _ _ _
   rw [← hu]
   clear c0 c1 c2 hbl hu
   have c0 : u.cell? ⟨wr.heap.size, 0, none⟩ = some (.int .i64 x.a) := hbu.cell 0
   have c1 : u.cell? ⟨wr.heap.size, 1, none⟩ = some (.int .i64 x.b) := hbu.cell 1
   have hlu := hbu.lt
   have hy := hx.ext_trans hxu
   cases hm : mayS (edS x) n with
   | false =>
    have HR3 := Lib.hid (Hno.out k x Hlx.out hm)
    have HC := Lib.hid (show (3 : Int) = C by rw [Hbad.out (by rw [HR3.out]; decide), HR3.out])
    rw [hm] at Hm
    go_wp2_with fail
    refine (Hm.out _).mono ?_
    rintro e w2 ⟨rfl, hx2⟩
    go_wp2_with fail
    go_ret
    exact ⟨ret_int HC.out, hy.ext_trans hx2⟩
   | true =>
    rw [hm] at Hm
    have Hmay := Lib.hid hm
    clear hm
    go_wp2_with fail
    refine (Hm.out _).mono ?_
    rintro e w2 ⟨rfl, hx2⟩
    clear c0 c1 hlu
    go_wp2_with fail
    go_roundw
    case rel =>
     refine ⟨k + 1, Hlt.out, by go_num, Lib.hid (fun j e hj he => ?_), hy.ext_trans hx2⟩
     by_cases hjk : j = k
     ·subst hjk
      rw [Hlx.out] at he
      cases he; exact Hmay.out
     ·exact HO.out j e (by omega) he
    case measure => have := Hlt.out; simp [intOf]; omega
  ·have hlt' : ¬ (k : Int) < (N : Int) := by omega
   obtain rfl : k = N := by omega
   have HR := Lib.hid (Hyes.out HO.out)
   have Hnear := Lib.hid (show ∀ e ∈ l, EdNear e by
    intro e he
    obtain ⟨i, hi, rfl⟩ := List.getElem_of_mem he
    have hm := HO.out i _ (by rw [HN.out]; exact hi) (List.getElem?_eq_getElem hi)
    unfold mayS edS at hm
    have hm := of_decide_eq_true hm
    simp only at hm
    have := Ht.out _ he
    exact ⟨by omega, by omega, by omega, by omega, this⟩)
   have HSp2 := Lib.hid (HSp.out _ hx)
   have HGr2 := Lib.hid (fun w' (h : Ext w w') => HGr.out w' h Hnear.out)
   clear HO HSp HGr Hnear
   go_wp2_with fail
   refine HSp2.out.mono ?_
   rintro e w2 ⟨a1, c1, rfl, hrd, hnil, hx2⟩
   have HAp1 := Lib.hid (HAp.out a1 c1 w2 hrd hnil)
   have hy2 := hx.ext_trans hx2
   clear HAp HSp2 hrd hnil hx2
   go_wp2_with fail
   refine HAp1.out.mono ?_
   rintro e w3 ⟨rfl, hx3⟩
   have hy3 := hy2.ext_trans hx3
   clear HAp1
   cases hap : apartB (l.map edS) with
   | false =>
    rw [hap] at HR
    have HR5 := Lib.hid (show rangedE n l = 5 from HR.out)
    have HC := Lib.hid (show (5 : Int) = C by rw [Hbad.out (by rw [HR5.out]; decide), HR5.out])
    go_wp2_with fail
    go_ret
    exact ⟨ret_int HC.out, hy3⟩
   | true =>
    rw [hap] at HR
    have HC := Lib.hid (Hfit.out (show rangedE n l = 0 from HR.out))
    have HGr3 := Lib.hid (HGr2.out _ hy3)
    generalize grownE n l = G at *
    clear HGr2 HR hap
    go_wp2_with fail
    refine HGr3.out.mono ?_
    rintro e w4 ⟨rfl, hx4⟩
    have hy4 := hy3.ext_trans hx4
    by_cases hG : 65536 < G
    ·have HC4 := Lib.hid (show (4 : Int) = C by rw [HC.out, if_pos hG])
     go_wp2_with fail
     go_ret
     exact ⟨ret_int HC4.out, hy4⟩
    ·have HC4 := Lib.hid (show (0 : Int) = C by rw [HC.out, if_neg hG])
     go_wp2_with fail
     go_ret
     exact ⟨ret_int HC4.out, hy4⟩
theorem sortC_any (ao : Option Addr) (cap : Nat) (l : List Ed) (w : World) (hr : Reads w 3 ao l.length (edE.cells l)) (hn : l.length ≤ 19) :
  Calls Tryz.prog 48 #[.slice ao l.length cap] w fun e w' => ∃ a2 c2, e = .returned (.slice a2 l.length c2) ∧ Reads w' 3 a2 l.length (edE.cells (sorted lessE l)) ∧ (0 < l.length → ∀ a, a2 = some a → w.heap.size ≤ a.block) ∧ Ext w w' := by
 by_cases h0 : 0 < l.length
 ·obtain ⟨b, off, rfl⟩ := hr.some h0
  refine (sortC_some b off cap l w hr h0 hn).mono ?_
  rintro e w' ⟨g, c, rfl, hg, hrow, hx⟩
  have h1 := hrow.reads
  rw [sorted_length] at h1
  exact ⟨_, c, rfl, h1, fun _ a ha => by cases ha; exact hg, hx⟩
 ·obtain rfl : l = [] := List.eq_nil_of_length_eq_zero (by omega)
  cases ao with
  | none =>
   refine (sortC_none cap w).mono ?_
   rintro e w' ⟨rfl, rfl⟩
   exact ⟨none, 0, rfl, Enc.reads_none (E := edE), fun h => absurd h (by decide), Mod.refl _ _⟩
  | some a =>
   refine (sortC_empty a cap w).mono ?_
   rintro e w' ⟨ao, c, rfl, hx⟩
   exact ⟨ao, c, rfl, Enc.reads_none (E := edE), fun h => absurd h (by decide), hx⟩
end Go.Proofs.YthlmgoagnfkhdaaGreat
namespace Go.Gim
abbrev By := List UInt8
def A (e : Ed) : Nat := e.a.toNat
def Z (e : Ed) : Nat := e.b.toNat
def Ord (n : Nat) : Nat → List Ed → Prop
 | c, [] => c ≤ n
 | c, e :: r => c ≤ A e ∧ A e ≤ Z e ∧ Ord n (Z e) r
theorem Ord.le {n : Nat} : ∀ {l : List Ed} {c : Nat}, Ord n c l → c ≤ n := by
 intro l
 induction l with
 | nil => intro c h; exact h
 | cons e r ih => intro c h; have := ih h.2.2; have := h.1; have := h.2.1; omega
def rest (s : By) : Nat → List Ed → By
 | c, [] => s.drop c
 | c, e :: r => (s.take (A e)).drop c ++ e.t.data.toList ++ rest s (Z e) r
def less (s : By) : Nat → List Ed → By
 | c, [] => s.drop c
 | c, e :: r => (s.take (A e)).drop c ++ less s (Z e) r
def cutE (e : Ed) (t : By) : By := splice t e.a e.b []
def doE (e : Ed) (t : By) : By := splice t e.a e.b e.t.data.toList
theorem take_split (s : By) {c a : Nat} (h : c ≤ a) : s.take c ++ (s.take a).drop c = s.take a := by
 have := List.take_append_drop c (s.take a)
 rw [List.take_take, Nat.min_eq_left h] at this
 exact this
theorem splice_at (s L t : By) {e : Ed} (h2 : A e ≤ Z e) (hZ : Z e ≤ s.length) : splice (s.take (Z e) ++ L) e.a e.b t = s.take (A e) ++ (t ++ L) := by
 unfold splice
 show (s.take (Z e) ++ L).take (A e) ++ (t ++ (s.take (Z e) ++ L).drop (Z e)) = _
 rw [List.take_append_of_le_length (by rw [List.length_take]; omega), List.take_take, Nat.min_eq_left h2, List.drop_append_of_le_length (by rw [List.length_take]; omega), List.drop_of_length_le (by rw [List.length_take]; omega), List.nil_append]
theorem cut_all_is (s : By) : ∀ (l : List Ed) (c : Nat), Ord s.length c l → l.foldr cutE s = s.take c ++ less s c l := by
 intro l
 induction l with
 | nil => intro c _; exact (List.take_append_drop c s).symm
 | cons e r ih =>
  intro c h
  rw [List.foldr_cons, ih (Z e) h.2.2]
  unfold cutE
  rw [splice_at s _ _ h.2.1 h.2.2.le, List.nil_append]
  show s.take (A e) ++ less s (Z e) r = s.take c ++ ((s.take (A e)).drop c ++ less s (Z e) r)
  rw [← List.append_assoc, take_split s h.1]
theorem do_all_is (s : By) : ∀ (l : List Ed) (c : Nat), Ord s.length c l → l.foldr doE s = s.take c ++ rest s c l := by
 intro l
 induction l with
 | nil => intro c _; exact (List.take_append_drop c s).symm
 | cons e r ih =>
  intro c h
  rw [List.foldr_cons, ih (Z e) h.2.2]
  unfold doE
  rw [splice_at s _ _ h.2.1 h.2.2.le]
  show s.take (A e) ++ (e.t.data.toList ++ rest s (Z e) r) = s.take c ++ ((s.take (A e)).drop c ++ e.t.data.toList ++ rest s (Z e) r)
  rw [List.append_assoc, ← List.append_assoc (s.take c), take_split s h.1]
def putE (st : By × Int) (e : Ed) : By × Int := (splice st.1 (e.a + st.2) (e.a + st.2) e.t.data.toList, st.2 + dE e)
theorem put_all_is (s : By) : ∀ (l : List Ed) (c : Nat) (P : By) (g : Int), Ord s.length c l → (∀ e ∈ l, 0 ≤ e.a ∧ 0 ≤ e.b) → (P.length : Int) = c + g → (l.foldl putE (P ++ less s c l, g)).1 = P ++ rest s c l := by
 intro l
 induction l with
 | nil => intro c P g _ _ _; rfl
 | cons e r ih =>
  intro c P g h h0 hP
  obtain ⟨p1, p2⟩ := h0 e (List.mem_cons_self ..)
  have hA : ((A e : Nat) : Int) = e.a := Int.toNat_of_nonneg p1
  have hZe : ((Z e : Nat) : Int) = e.b := Int.toNat_of_nonneg p2
  have h1 := h.1
  have hZ := h.2.2.le
  have h2 := h.2.1
  rw [List.foldl_cons]
  have hlen : (((s.take (A e)).drop c).length : Int) = A e - c := by rw [List.length_drop, List.length_take]; omega
  have hst : putE (P ++ less s c (e :: r), g) e = ((P ++ (s.take (A e)).drop c ++ e.t.data.toList) ++ less s (Z e) r, g + dE e) := by
   unfold putE
   refine Prod.ext ?_ rfl
   show splice (P ++ ((s.take (A e)).drop c ++ less s (Z e) r)) (e.a + g) (e.a + g) e.t.data.toList = _
   unfold splice
   have hn : (e.a + g).toNat = (P ++ (s.take (A e)).drop c).length := by rw [List.length_append]; omega
   have e1 : P ++ ((s.take (A e)).drop c ++ less s (Z e) r) = (P ++ (s.take (A e)).drop c) ++ less s (Z e) r := (List.append_assoc ..).symm
   rw [e1, hn, List.take_left, List.drop_left]
   exact (List.append_assoc ..).symm
  rw [hst, ih (Z e) _ _ h.2.2 (fun x hx => h0 x (List.mem_cons_of_mem _ hx))]
  ·show _ = P ++ ((s.take (A e)).drop c ++ e.t.data.toList ++ rest s (Z e) r)
   rw [List.append_assoc, List.append_assoc, List.append_assoc]
  ·rw [List.length_append, List.length_append]
   have : e.t.data.toList.length = e.t.size := rfl
   unfold dE
   omega
theorem two_ways (s : By) {l : List Ed} (h : Ord s.length 0 l) (h0 : ∀ e ∈ l, 0 ≤ e.a ∧ 0 ≤ e.b) : (l.foldl putE (l.foldr cutE s, 0)).1 = l.foldr doE s := by
 have h1 := cut_all_is s l 0 h
 have h2 := do_all_is s l 0 h
 have h3 := put_all_is s l 0 [] 0 h h0 rfl
 rw [h1, h2]
 simpa using h3
theorem rest_len (s : By) : ∀ (l : List Ed) (c : Nat), Ord s.length c l → (∀ e ∈ l, 0 ≤ e.a ∧ 0 ≤ e.b) → ((rest s c l).length : Int) = grownE s.length l - c := by
 intro l
 induction l with
 | nil => intro c h _; show ((s.drop c).length : Int) = s.length - c; rw [List.length_drop]; have : c ≤ s.length := h; omega
 | cons e r ih =>
  intro c h h0
  obtain ⟨p1, p2⟩ := h0 e (List.mem_cons_self ..)
  have hA : ((A e : Nat) : Int) = e.a := Int.toNat_of_nonneg p1
  have hZe : ((Z e : Nat) : Int) = e.b := Int.toNat_of_nonneg p2
  have h1 := h.1
  have hZ := h.2.2.le
  have h2 := h.2.1
  have := ih (Z e) h.2.2 (fun x hx => h0 x (List.mem_cons_of_mem _ hx))
  show (((s.take (A e)).drop c ++ e.t.data.toList ++ rest s (Z e) r).length : Int) = grownE ((s.length : Int) + dE e) r - c
  rw [List.length_append, List.length_append, List.length_drop, List.length_take]
  have hg : ∀ (l : List Ed) (n d : Int), grownE (n + d) l = grownE n l + d := by
   intro l
   induction l with
   | nil => intro n d; rfl
   | cons x r ih => intro n d; show grownE (n + d + dE x) r = grownE (n + dE x) r + d; rw [← ih]; congr 1; omega
  have ht : e.t.data.toList.length = e.t.size := rfl
  rw [hg]
  unfold dE
  omega
theorem ord_of {n : Int} {es : List Ed} {m : Nat} (hn : n = m) (h : rangedE n es = 0) : Ord m 0 (sorted lessE es) := by
 have hm : ∀ e ∈ sorted lessE es, 0 ≤ e.a ∧ e.a ≤ e.b ∧ e.b ≤ n := fun e he => rangedE_mem h e ((sorted_mem lessE es e).1 he)
 have hap : apartB (es.map edS) = true := by
  unfold rangedE at h
  split at h
  ·split at h
   ·rename_i ha; exact ha
   ·cases h
  ·cases h
 have hadj : ∀ (i : Nat) (x y : Ed), (sorted lessE es)[i]? = some x → (sorted lessE es)[i + 1]? = some y → x.b ≤ y.a := by
  intro i x y hx hy
  have hl : i + 1 < (es.map edS).length := by
   have := (List.getElem?_eq_some_iff.1 hy).1
   rw [sorted_length] at this
   rw [List.length_map]; exact this
  unfold apartB at hap
  have h1 := List.all_eq_true.1 hap (i + 1) (List.mem_range.2 hl)
  rw [← sortedE_map] at h1
  have hy2 : ((sorted lessE es).map edS)[i + 1]? = some (edS y) := by rw [List.getElem?_map, hy]; rfl
  have hx2 : ((sorted lessE es).map edS)[i]? = some (edS x) := by rw [List.getElem?_map, hx]; rfl
  have h2 := ((okAt_yes hy2).1 h1).2 i (edS x) rfl hx2
  exact h2.2
 have key : ∀ (k i : Nat), (sorted lessE es).length - i = k → ∀ c : Nat, (∀ x, (sorted lessE es)[i]? = some x → (c : Int) ≤ x.a) → c ≤ m → Ord m c ((sorted lessE es).drop i) := by
  intro k
  induction k with
  | zero =>
   intro i hi c _ hc
   rw [List.drop_of_length_le (by omega)]
   exact hc
  | succ k ih =>
   intro i hi c hx hc
   have hil : i < (sorted lessE es).length := by omega
   rw [List.drop_eq_getElem_cons hil]
   have hx1 := hx _ (List.getElem?_eq_getElem hil)
   obtain ⟨m1, m2, m3⟩ := hm _ (List.getElem_mem hil)
   have hadj' := fun y hy => hadj i _ y (List.getElem?_eq_getElem hil) hy
   generalize (sorted lessE es)[i] = x at *
   have hA : ((A x : Nat) : Int) = x.a := Int.toNat_of_nonneg m1
   have hZ : ((Z x : Nat) : Int) = x.b := Int.toNat_of_nonneg (by omega)
   refine ⟨by omega, by omega, ih (i + 1) (by omega) (Z x) (fun y hy => ?_) (by omega)⟩
   have := hadj' y hy
   omega
 have := key _ 0 rfl 0 (fun x hx => by have := (hm x (List.mem_of_getElem? hx)).1; omega) (by omega)
 rwa [List.drop_zero] at this
def applyL (s : By) (es : List Ed) : By := (sorted lessE es).foldr doE s
theorem asc_rangedN {n : Int} {es : List Ed} (h : Asc es) (hm : ∀ e ∈ es, 0 ≤ e.a ∧ e.b ≤ n) : rangedE n es = 0 := by
 unfold rangedE
 rw [if_pos, if_pos]
 ·have : apartB (es.map edS) = true := by
   refine apartB_yes (fun i hi => ?_)
   have hs : sorted lessB (es.map edS) = es.map edS := by
    refine sorted_self lessB _ ?_
    rw [List.pairwise_map]
    refine List.Pairwise.imp_of_mem ?_ h.2
    intro e f he hf hlt
    have := h.1 e he
    unfold lessB edS
    refine decide_eq_false ?_
    simp only
    omega
   rw [hs]
   rw [List.length_map] at hi
   have hx : (es.map edS)[i]? = some (edS es[i]) := by rw [List.getElem?_map, List.getElem?_eq_getElem hi]; rfl
   rw [okAt_yes hx]
   refine ⟨h.1 _ (List.getElem_mem hi), fun j y e hy => ?_⟩
   subst e
   have hy2 : y = edS (es[j]'(by omega)) := by
    rw [List.getElem?_map, List.getElem?_eq_getElem (by omega : j < es.length)] at hy
    exact (Option.some.inj hy).symm
   have hp := List.pairwise_iff_getElem.1 h.2 j (j + 1) (by omega) hi (by omega)
   have ha := h.1 _ (List.getElem_mem (l := es) (by omega : j < es.length))
   rw [hy2]
   unfold edS
   simp only
   omega
  exact this
 ·refine List.all_eq_true.2 fun e he => ?_
  have h1 := hm e he
  have h2 := h.1 e he
  unfold mayS edS
  exact decide_eq_true ⟨h1.1, h2, h1.2⟩
theorem grownE_le {M : Nat} : ∀ (es : List Ed) (n : Int), (∀ e ∈ es, e.a ≤ e.b ∧ e.t.size ≤ M) → grownE n es ≤ n + (es.length : Int) * M := by
 intro es
 induction es with
 | nil => intro n _; simp [grownE]
 | cons x r ih =>
  intro n h
  have h1 := ih (n + dE x) (fun e he => h e (List.mem_cons_of_mem _ he))
  obtain ⟨h2, h3⟩ := h x (List.mem_cons_self ..)
  have h4 : grownE n (x :: r) = grownE (n + dE x) r := rfl
  rw [h4, List.length_cons]
  have h5 : ((r.length + 1 : Nat) : Int) * (M : Int) = (r.length : Int) * M + M := by rw [Int.natCast_add, Int.add_mul]; simp
  rw [h5]
  unfold dE at *
  omega
theorem backL_top (s : ByteArray) {M : Nat} : ∀ (es : List Ed) (g c : Int), (∀ e ∈ es, e.a ≤ e.b ∧ e.b ≤ c ∧ e.t.size ≤ M) → ∀ y ∈ backL s g es, y.b ≤ c + g + (es.length : Int) * M := by
 intro es
 induction es with
 | nil => intro g c _ y hy; cases hy
 | cons x r ih =>
  intro g c h y hy
  obtain ⟨h1, h2, h3⟩ := h x (List.mem_cons_self ..)
  have h5 : ((r.length + 1 : Nat) : Int) * (M : Int) = (r.length : Int) * M + M := by rw [Int.natCast_add, Int.add_mul]; simp
  have h6 : (0 : Int) ≤ (r.length : Int) * M := Int.mul_nonneg (by omega) (by omega)
  rw [List.length_cons, h5]
  rcases List.mem_cons.1 hy with rfl | hy
  ·show x.a + g + x.t.size ≤ _
   omega
  ·have := ih (g + dE x) c (fun e he => h e (List.mem_cons_of_mem _ he)) y hy
   unfold dE at this
   omega
structure RetSt (z a b : Int) (E : List Ed) (A : Int) (k : Nat) : Prop where
 asc : Asc E
 far1 : Far E a
 far2 : Far E b
 mem : ∀ e ∈ E, 0 ≤ e.a ∧ e.b ≤ A ∧ e.t.size ≤ 100
 lo : 0 ≤ A
 hi : A ≤ z
 len : E.length ≤ k
 first : k = 0 → E = []
theorem RetSt.start (z a b : Int) (h : 0 ≤ z) : RetSt z a b [] 0 0 :=
 ⟨⟨by simp, List.Pairwise.nil⟩, (fun e he => by cases he), (fun e he => by cases he), (fun e he => by cases he), Int.le_refl _, h, Nat.le_refl _, fun _ => rfl⟩
theorem RetSt.skip {z a b : Int} {E : List Ed} {A : Int} {k : Nat} (h : RetSt z a b E A k) : RetSt z a b E A (k + 1) :=
 ⟨h.asc, h.far1, h.far2, h.mem, h.lo, h.hi, Nat.le_succ_of_le h.len, fun e => absurd e (by omega)⟩
theorem RetSt.take {z a b : Int} {E : List Ed} {A : Int} {k : Nat} (h : RetSt z a b E A k) {x y : Int} {t : ByteArray} (h1 : A ≤ x) (h2 : k = 0 ∨ x ≠ A) (h3 : x ≤ y) (h4 : y ≤ z) (h5 : a < x ∨ y < a) (h6 : b < x ∨ y < b) (ht : t.size ≤ 100) :
  RetSt z a b (E ++ [⟨x, y, t⟩]) y (k + 1) := by
 have hlo := h.lo
 have hE : ∀ e ∈ E, e.b < x := by
  intro e he
  rcases h2 with h2 | h2
  ·rw [h.first h2] at he; cases he
  ·have := (h.mem e he).2.1; omega
 refine ⟨⟨fun e he => ?_, ?_⟩, ?_, ?_, ?_, by omega, h4, ?_, fun e => absurd e (by omega)⟩
 ·rcases List.mem_append.1 he with he | he
  ·exact h.asc.1 e he
  ·rw [List.mem_singleton.1 he]; exact h3
 ·refine List.pairwise_append.2 ⟨h.asc.2, List.pairwise_singleton _ _, fun e he f hf => ?_⟩
  rw [List.mem_singleton.1 hf]
  exact hE e he
 ·intro e he
  rcases List.mem_append.1 he with he | he
  ·exact h.far1 e he
  ·rw [List.mem_singleton.1 he]; exact h5
 ·intro e he
  rcases List.mem_append.1 he with he | he
  ·exact h.far2 e he
  ·rw [List.mem_singleton.1 he]; exact h6
 ·intro e he
  rcases List.mem_append.1 he with he | he
  ·obtain ⟨m1, m2, m3⟩ := h.mem e he; exact ⟨m1, by omega, m3⟩
  ·rw [List.mem_singleton.1 he]; exact ⟨by simp only; omega, Int.le_refl _, ht⟩
 ·rw [List.length_append, List.length_singleton]; have := h.len; omega
theorem RetSt.done {s : ByteArray} {a b : Int} {E : List Ed} {A : Int} {k : Nat} (hs : s.size ≤ 80) (hk : k ≤ 8) (h : RetSt s.size a b E A k) (h0 : 0 ≤ a) (h1 : a ≤ b) (h2 : b ≤ s.size) (p q : Bool) :
  mayE s.size E = 0 ∧ rangedE 65536 E = 0 ∧ (∀ e ∈ E, EdOk e) ∧ backE s E = backL s 0 E ∧ rangedE 65536 (backL s 0 E) = 0 ∧ (∀ e ∈ backL s 0 E, EdOk e) ∧ (backL s 0 E).length ≤ 8 ∧ E.length ≤ 8 ∧ mvR (backL s 0 E) (mvR E ⟨a, b, p, q, 0⟩) = ⟨a, b, p, q, 0⟩ := by
 have hi := h.hi
 have hl := h.len
 have hab := h.asc.1
 have hmem : ∀ e ∈ E, 0 ≤ e.a ∧ e.b ≤ s.size := fun e he => by obtain ⟨m1, m2, m3⟩ := h.mem e he; exact ⟨m1, by omega⟩
 have hR : rangedE s.size E = 0 := asc_rangedN h.asc hmem
 have hG := grownE_le (M := 100) E s.size (fun e he => ⟨hab e he, (h.mem e he).2.2⟩)
 have hgl : (E.length : Int) * ((100 : Nat) : Int) ≤ 800 := by omega
 have hB : backE s E = backL s 0 E := backE_asc h.asc (fun e he => (h.mem e he).1)
 have hBa := backL_asc s E 0 h.asc
 have hBp := backL_pos s h.asc (fun e he => (h.mem e he).1)
 have hBt := backL_top s (M := 100) E 0 s.size (fun e he => ⟨hab e he, (hmem e he).2, (h.mem e he).2.2⟩)
 have hBm : ∀ e ∈ backL s 0 E, 0 ≤ e.a ∧ e.b ≤ 65536 := fun e he => ⟨hBp e he, by have := hBt e he; omega⟩
 refine ⟨?_, asc_ranged h.asc (fun e he => ⟨(hmem e he).1, by have := (hmem e he).2; omega⟩), fun e he => ⟨(hmem e he).1, hab e he, by have := (hmem e he).2; omega, by have := (h.mem e he).2.2; omega⟩, hB, asc_ranged hBa hBm, fun e he => ⟨(hBm e he).1, hBa.1 e he, (hBm e he).2, ?_⟩, by rw [backL_len]; omega, by omega, mvR_back h.asc hmem h.far1 h.far2 h1⟩
 ·rw [mayE_fit hR, if_neg (by omega)]
 ·obtain ⟨x, hx, e1, e2⟩ := backL_mem s E 0 e he
  rw [e1]
  unfold oldE
  rw [ByteArray.size_extract]
  omega
end Go.Gim

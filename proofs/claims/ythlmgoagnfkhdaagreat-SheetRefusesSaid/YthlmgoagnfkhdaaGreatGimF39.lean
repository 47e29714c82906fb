/- Edits done to a text, plainly: taken away from the last one to the first, then put in from the first to the last; what the document's way comes to. Conditions: none. -/
import Derived.Test.YthlmgoagnfkhdaaGreatGimF38
import Derived.Test.YthlmgoagnfkhdaaGreatGimF01
set_option maxHeartbeats 6400000
set_option maxRecDepth 1000000
set_option linter.unusedVariables false
set_option linter.unusedSimpArgs false
namespace Go.Gim
abbrev By := List UInt8
def A (e : Ed) : Nat := e.a.toNat
def Z (e : Ed) : Nat := e.b.toNat
def Ord (n : Nat) : Nat → List Ed → Prop
 | c, [] => c ≤ n
 | c, e :: r => c ≤ A e ∧ A e ≤ Z e ∧ Ord n (Z e) r
theorem Ord.le {n : Nat} : ∀ {l : List Ed} {c : Nat}, Ord n c l → c ≤ n := by
 intro l
 induction l with
 | nil => intro c h; exact h
 | cons e r ih => intro c h; have := ih h.2.2; have := h.1; have := h.2.1; omega
def rest (s : By) : Nat → List Ed → By
 | c, [] => s.drop c
 | c, e :: r => (s.take (A e)).drop c ++ e.t.data.toList ++ rest s (Z e) r
def less (s : By) : Nat → List Ed → By
 | c, [] => s.drop c
 | c, e :: r => (s.take (A e)).drop c ++ less s (Z e) r
def cutE (e : Ed) (t : By) : By := splice t e.a e.b []
def doE (e : Ed) (t : By) : By := splice t e.a e.b e.t.data.toList
theorem take_split (s : By) {c a : Nat} (h : c ≤ a) : s.take c ++ (s.take a).drop c = s.take a := by
 have := List.take_append_drop c (s.take a)
 rw [List.take_take, Nat.min_eq_left h] at this
 exact this
theorem splice_at (s L t : By) {e : Ed} (h2 : A e ≤ Z e) (hZ : Z e ≤ s.length) : splice (s.take (Z e) ++ L) e.a e.b t = s.take (A e) ++ (t ++ L) := by
 unfold splice
 show (s.take (Z e) ++ L).take (A e) ++ (t ++ (s.take (Z e) ++ L).drop (Z e)) = _
 rw [List.take_append_of_le_length (by rw [List.length_take]; omega), List.take_take, Nat.min_eq_left h2, List.drop_append_of_le_length (by rw [List.length_take]; omega), List.drop_of_length_le (by rw [List.length_take]; omega), List.nil_append]
theorem cut_all_is (s : By) : ∀ (l : List Ed) (c : Nat), Ord s.length c l → l.foldr cutE s = s.take c ++ less s c l := by
 intro l
 induction l with
 | nil => intro c _; exact (List.take_append_drop c s).symm
 | cons e r ih =>
  intro c h
  rw [List.foldr_cons, ih (Z e) h.2.2]
  unfold cutE
  rw [splice_at s _ _ h.2.1 h.2.2.le, List.nil_append]
  show s.take (A e) ++ less s (Z e) r = s.take c ++ ((s.take (A e)).drop c ++ less s (Z e) r)
  rw [← List.append_assoc, take_split s h.1]
theorem do_all_is (s : By) : ∀ (l : List Ed) (c : Nat), Ord s.length c l → l.foldr doE s = s.take c ++ rest s c l := by
 intro l
 induction l with
 | nil => intro c _; exact (List.take_append_drop c s).symm
 | cons e r ih =>
  intro c h
  rw [List.foldr_cons, ih (Z e) h.2.2]
  unfold doE
  rw [splice_at s _ _ h.2.1 h.2.2.le]
  show s.take (A e) ++ (e.t.data.toList ++ rest s (Z e) r) = s.take c ++ ((s.take (A e)).drop c ++ e.t.data.toList ++ rest s (Z e) r)
  rw [List.append_assoc, ← List.append_assoc (s.take c), take_split s h.1]
def putE (st : By × Int) (e : Ed) : By × Int := (splice st.1 (e.a + st.2) (e.a + st.2) e.t.data.toList, st.2 + dE e)
theorem put_all_is (s : By) : ∀ (l : List Ed) (c : Nat) (P : By) (g : Int), Ord s.length c l → (∀ e ∈ l, 0 ≤ e.a ∧ 0 ≤ e.b) → (P.length : Int) = c + g → (l.foldl putE (P ++ less s c l, g)).1 = P ++ rest s c l := by
 intro l
 induction l with
 | nil => intro c P g _ _ _; rfl
 | cons e r ih =>
  intro c P g h h0 hP
  obtain ⟨p1, p2⟩ := h0 e (List.mem_cons_self ..)
  have hA : ((A e : Nat) : Int) = e.a := Int.toNat_of_nonneg p1
  have hZe : ((Z e : Nat) : Int) = e.b := Int.toNat_of_nonneg p2
  have h1 := h.1
  have hZ := h.2.2.le
  have h2 := h.2.1
  rw [List.foldl_cons]
  have hlen : (((s.take (A e)).drop c).length : Int) = A e - c := by rw [List.length_drop, List.length_take]; omega
  have hst : putE (P ++ less s c (e :: r), g) e = ((P ++ (s.take (A e)).drop c ++ e.t.data.toList) ++ less s (Z e) r, g + dE e) := by
   unfold putE
   refine Prod.ext ?_ rfl
   show splice (P ++ ((s.take (A e)).drop c ++ less s (Z e) r)) (e.a + g) (e.a + g) e.t.data.toList = _
   unfold splice
   have hn : (e.a + g).toNat = (P ++ (s.take (A e)).drop c).length := by rw [List.length_append]; omega
   have e1 : P ++ ((s.take (A e)).drop c ++ less s (Z e) r) = (P ++ (s.take (A e)).drop c) ++ less s (Z e) r := (List.append_assoc ..).symm
   rw [e1, hn, List.take_left, List.drop_left]
   exact (List.append_assoc ..).symm
  rw [hst, ih (Z e) _ _ h.2.2 (fun x hx => h0 x (List.mem_cons_of_mem _ hx))]
  ·show _ = P ++ ((s.take (A e)).drop c ++ e.t.data.toList ++ rest s (Z e) r)
   rw [List.append_assoc, List.append_assoc, List.append_assoc]
  ·rw [List.length_append, List.length_append]
   have : e.t.data.toList.length = e.t.size := rfl
   unfold dE
   omega
theorem two_ways (s : By) {l : List Ed} (h : Ord s.length 0 l) (h0 : ∀ e ∈ l, 0 ≤ e.a ∧ 0 ≤ e.b) : (l.foldl putE (l.foldr cutE s, 0)).1 = l.foldr doE s := by
 have h1 := cut_all_is s l 0 h
 have h2 := do_all_is s l 0 h
 have h3 := put_all_is s l 0 [] 0 h h0 rfl
 rw [h1, h2]
 simpa using h3
theorem rest_len (s : By) : ∀ (l : List Ed) (c : Nat), Ord s.length c l → (∀ e ∈ l, 0 ≤ e.a ∧ 0 ≤ e.b) → ((rest s c l).length : Int) = grownE s.length l - c := by
 intro l
 induction l with
 | nil => intro c h _; show ((s.drop c).length : Int) = s.length - c; rw [List.length_drop]; have : c ≤ s.length := h; omega
 | cons e r ih =>
  intro c h h0
  obtain ⟨p1, p2⟩ := h0 e (List.mem_cons_self ..)
  have hA : ((A e : Nat) : Int) = e.a := Int.toNat_of_nonneg p1
  have hZe : ((Z e : Nat) : Int) = e.b := Int.toNat_of_nonneg p2
  have h1 := h.1
  have hZ := h.2.2.le
  have h2 := h.2.1
  have := ih (Z e) h.2.2 (fun x hx => h0 x (List.mem_cons_of_mem _ hx))
  show (((s.take (A e)).drop c ++ e.t.data.toList ++ rest s (Z e) r).length : Int) = grownE ((s.length : Int) + dE e) r - c
  rw [List.length_append, List.length_append, List.length_drop, List.length_take]
  have hg : ∀ (l : List Ed) (n d : Int), grownE (n + d) l = grownE n l + d := by
   intro l
   induction l with
   | nil => intro n d; rfl
   | cons x r ih => intro n d; show grownE (n + d + dE x) r = grownE (n + dE x) r + d; rw [← ih]; congr 1; omega
  have ht : e.t.data.toList.length = e.t.size := rfl
  rw [hg]
  unfold dE
  omega
theorem ord_of {n : Int} {es : List Ed} {m : Nat} (hn : n = m) (h : rangedE n es = 0) : Ord m 0 (sorted lessE es) := by
 have hm : ∀ e ∈ sorted lessE es, 0 ≤ e.a ∧ e.a ≤ e.b ∧ e.b ≤ n := fun e he => rangedE_mem h e ((sorted_mem lessE es e).1 he)
 have hap : apartB (es.map edS) = true := by
  unfold rangedE at h
  split at h
  ·split at h
   ·rename_i ha; exact ha
   ·cases h
  ·cases h
 have hadj : ∀ (i : Nat) (x y : Ed), (sorted lessE es)[i]? = some x → (sorted lessE es)[i + 1]? = some y → x.b ≤ y.a := by
  intro i x y hx hy
  have hl : i + 1 < (es.map edS).length := by
   have := (List.getElem?_eq_some_iff.1 hy).1
   rw [sorted_length] at this
   rw [List.length_map]; exact this
  unfold apartB at hap
  have h1 := List.all_eq_true.1 hap (i + 1) (List.mem_range.2 hl)
  rw [← sortedE_map] at h1
  have hy2 : ((sorted lessE es).map edS)[i + 1]? = some (edS y) := by rw [List.getElem?_map, hy]; rfl
  have hx2 : ((sorted lessE es).map edS)[i]? = some (edS x) := by rw [List.getElem?_map, hx]; rfl
  have h2 := ((okAt_yes hy2).1 h1).2 i (edS x) rfl hx2
  exact h2.2
 have key : ∀ (k i : Nat), (sorted lessE es).length - i = k → ∀ c : Nat, (∀ x, (sorted lessE es)[i]? = some x → (c : Int) ≤ x.a) → c ≤ m → Ord m c ((sorted lessE es).drop i) := by
  intro k
  induction k with
  | zero =>
   intro i hi c _ hc
   rw [List.drop_of_length_le (by omega)]
   exact hc
  | succ k ih =>
   intro i hi c hx hc
   have hil : i < (sorted lessE es).length := by omega
   rw [List.drop_eq_getElem_cons hil]
   have hx1 := hx _ (List.getElem?_eq_getElem hil)
   obtain ⟨m1, m2, m3⟩ := hm _ (List.getElem_mem hil)
   have hadj' := fun y hy => hadj i _ y (List.getElem?_eq_getElem hil) hy
   generalize (sorted lessE es)[i] = x at *
   have hA : ((A x : Nat) : Int) = x.a := Int.toNat_of_nonneg m1
   have hZ : ((Z x : Nat) : Int) = x.b := Int.toNat_of_nonneg (by omega)
   refine ⟨by omega, by omega, ih (i + 1) (by omega) (Z x) (fun y hy => ?_) (by omega)⟩
   have := hadj' y hy
   omega
 have := key _ 0 rfl 0 (fun x hx => by have := (hm x (List.mem_of_getElem? hx)).1; omega) (by omega)
 rwa [List.drop_zero] at this
def applyL (s : By) (es : List Ed) : By := (sorted lessE es).foldr doE s
theorem asc_rangedN {n : Int} {es : List Ed} (h : Asc es) (hm : ∀ e ∈ es, 0 ≤ e.a ∧ e.b ≤ n) : rangedE n es = 0 := by
 unfold rangedE
 rw [if_pos, if_pos]
 ·have : apartB (es.map edS) = true := by
   refine apartB_yes (fun i hi => ?_)
   have hs : sorted lessB (es.map edS) = es.map edS := by
    refine sorted_self lessB _ ?_
    rw [List.pairwise_map]
    refine List.Pairwise.imp_of_mem ?_ h.2
    intro e f he hf hlt
    have := h.1 e he
    unfold lessB edS
    refine decide_eq_false ?_
    simp only
    omega
   rw [hs]
   rw [List.length_map] at hi
   have hx : (es.map edS)[i]? = some (edS es[i]) := by rw [List.getElem?_map, List.getElem?_eq_getElem hi]; rfl
   rw [okAt_yes hx]
   refine ⟨h.1 _ (List.getElem_mem hi), fun j y e hy => ?_⟩
   subst e
   have hy2 : y = edS (es[j]'(by omega)) := by
    rw [List.getElem?_map, List.getElem?_eq_getElem (by omega : j < es.length)] at hy
    exact (Option.some.inj hy).symm
   have hp := List.pairwise_iff_getElem.1 h.2 j (j + 1) (by omega) hi (by omega)
   have ha := h.1 _ (List.getElem_mem (l := es) (by omega : j < es.length))
   rw [hy2]
   unfold edS
   simp only
   omega
  exact this
 ·refine List.all_eq_true.2 fun e he => ?_
  have h1 := hm e he
  have h2 := h.1 e he
  unfold mayS edS
  exact decide_eq_true ⟨h1.1, h2, h1.2⟩
theorem grownE_le {M : Nat} : ∀ (es : List Ed) (n : Int), (∀ e ∈ es, e.a ≤ e.b ∧ e.t.size ≤ M) → grownE n es ≤ n + (es.length : Int) * M := by
 intro es
 induction es with
 | nil => intro n _; simp [grownE]
 | cons x r ih =>
  intro n h
  have h1 := ih (n + dE x) (fun e he => h e (List.mem_cons_of_mem _ he))
  obtain ⟨h2, h3⟩ := h x (List.mem_cons_self ..)
  have h4 : grownE n (x :: r) = grownE (n + dE x) r := rfl
  rw [h4, List.length_cons]
  have h5 : ((r.length + 1 : Nat) : Int) * (M : Int) = (r.length : Int) * M + M := by rw [Int.natCast_add, Int.add_mul]; simp
  rw [h5]
  unfold dE at *
  omega
theorem backL_top (s : ByteArray) {M : Nat} : ∀ (es : List Ed) (g c : Int), (∀ e ∈ es, e.a ≤ e.b ∧ e.b ≤ c ∧ e.t.size ≤ M) → ∀ y ∈ backL s g es, y.b ≤ c + g + (es.length : Int) * M := by
 intro es
 induction es with
 | nil => intro g c _ y hy; cases hy
 | cons x r ih =>
  intro g c h y hy
  obtain ⟨h1, h2, h3⟩ := h x (List.mem_cons_self ..)
  have h5 : ((r.length + 1 : Nat) : Int) * (M : Int) = (r.length : Int) * M + M := by rw [Int.natCast_add, Int.add_mul]; simp
  have h6 : (0 : Int) ≤ (r.length : Int) * M := Int.mul_nonneg (by omega) (by omega)
  rw [List.length_cons, h5]
  rcases List.mem_cons.1 hy with rfl | hy
  ·show x.a + g + x.t.size ≤ _
   omega
  ·have := ih (g + dE x) c (fun e he => h e (List.mem_cons_of_mem _ he)) y hy
   unfold dE at this
   omega
structure RetSt (z a b : Int) (E : List Ed) (A : Int) (k : Nat) : Prop where
 asc : Asc E
 far1 : Far E a
 far2 : Far E b
 mem : ∀ e ∈ E, 0 ≤ e.a ∧ e.b ≤ A ∧ e.t.size ≤ 100
 lo : 0 ≤ A
 hi : A ≤ z
 len : E.length ≤ k
 first : k = 0 → E = []
theorem RetSt.start (z a b : Int) (h : 0 ≤ z) : RetSt z a b [] 0 0 :=
 ⟨⟨by simp, List.Pairwise.nil⟩, (fun e he => by cases he), (fun e he => by cases he), (fun e he => by cases he), Int.le_refl _, h, Nat.le_refl _, fun _ => rfl⟩
theorem RetSt.skip {z a b : Int} {E : List Ed} {A : Int} {k : Nat} (h : RetSt z a b E A k) : RetSt z a b E A (k + 1) :=
 ⟨h.asc, h.far1, h.far2, h.mem, h.lo, h.hi, Nat.le_succ_of_le h.len, fun e => absurd e (by omega)⟩
theorem RetSt.take {z a b : Int} {E : List Ed} {A : Int} {k : Nat} (h : RetSt z a b E A k) {x y : Int} {t : ByteArray} (h1 : A ≤ x) (h2 : k = 0 ∨ x ≠ A) (h3 : x ≤ y) (h4 : y ≤ z) (h5 : a < x ∨ y < a) (h6 : b < x ∨ y < b) (ht : t.size ≤ 100) :
  RetSt z a b (E ++ [⟨x, y, t⟩]) y (k + 1) := by
 have hlo := h.lo
 have hE : ∀ e ∈ E, e.b < x := by
  intro e he
  rcases h2 with h2 | h2
  ·rw [h.first h2] at he; cases he
  ·have := (h.mem e he).2.1; omega
 refine ⟨⟨fun e he => ?_, ?_⟩, ?_, ?_, ?_, by omega, h4, ?_, fun e => absurd e (by omega)⟩
 ·rcases List.mem_append.1 he with he | he
  ·exact h.asc.1 e he
  ·rw [List.mem_singleton.1 he]; exact h3
 ·refine List.pairwise_append.2 ⟨h.asc.2, List.pairwise_singleton _ _, fun e he f hf => ?_⟩
  rw [List.mem_singleton.1 hf]
  exact hE e he
 ·intro e he
  rcases List.mem_append.1 he with he | he
  ·exact h.far1 e he
  ·rw [List.mem_singleton.1 he]; exact h5
 ·intro e he
  rcases List.mem_append.1 he with he | he
  ·exact h.far2 e he
  ·rw [List.mem_singleton.1 he]; exact h6
 ·intro e he
  rcases List.mem_append.1 he with he | he
  ·obtain ⟨m1, m2, m3⟩ := h.mem e he; exact ⟨m1, by omega, m3⟩
  ·rw [List.mem_singleton.1 he]; exact ⟨by simp only; omega, Int.le_refl _, ht⟩
 ·rw [List.length_append, List.length_singleton]; have := h.len; omega
theorem RetSt.done {s : ByteArray} {a b : Int} {E : List Ed} {A : Int} {k : Nat} (hs : s.size ≤ 80) (hk : k ≤ 8) (h : RetSt s.size a b E A k) (h0 : 0 ≤ a) (h1 : a ≤ b) (h2 : b ≤ s.size) (p q : Bool) :
  mayE s.size E = 0 ∧ rangedE 65536 E = 0 ∧ (∀ e ∈ E, EdOk e) ∧ backE s E = backL s 0 E ∧ rangedE 65536 (backL s 0 E) = 0 ∧ (∀ e ∈ backL s 0 E, EdOk e) ∧ (backL s 0 E).length ≤ 8 ∧ E.length ≤ 8 ∧ mvR (backL s 0 E) (mvR E ⟨a, b, p, q, 0⟩) = ⟨a, b, p, q, 0⟩ := by
 have hi := h.hi
 have hl := h.len
 have hab := h.asc.1
 have hmem : ∀ e ∈ E, 0 ≤ e.a ∧ e.b ≤ s.size := fun e he => by obtain ⟨m1, m2, m3⟩ := h.mem e he; exact ⟨m1, by omega⟩
 have hR : rangedE s.size E = 0 := asc_rangedN h.asc hmem
 have hG := grownE_le (M := 100) E s.size (fun e he => ⟨hab e he, (h.mem e he).2.2⟩)
 have hgl : (E.length : Int) * ((100 : Nat) : Int) ≤ 800 := by omega
 have hB : backE s E = backL s 0 E := backE_asc h.asc (fun e he => (h.mem e he).1)
 have hBa := backL_asc s E 0 h.asc
 have hBp := backL_pos s h.asc (fun e he => (h.mem e he).1)
 have hBt := backL_top s (M := 100) E 0 s.size (fun e he => ⟨hab e he, (hmem e he).2, (h.mem e he).2.2⟩)
 have hBm : ∀ e ∈ backL s 0 E, 0 ≤ e.a ∧ e.b ≤ 65536 := fun e he => ⟨hBp e he, by have := hBt e he; omega⟩
 refine ⟨?_, asc_ranged h.asc (fun e he => ⟨(hmem e he).1, by have := (hmem e he).2; omega⟩), fun e he => ⟨(hmem e he).1, hab e he, by have := (hmem e he).2; omega, by have := (h.mem e he).2.2; omega⟩, hB, asc_ranged hBa hBm, fun e he => ⟨(hBm e he).1, hBa.1 e he, (hBm e he).2, ?_⟩, by rw [backL_len]; omega, by omega, mvR_back h.asc hmem h.far1 h.far2 h1⟩
 ·rw [mayE_fit hR, if_neg (by omega)]
 ·obtain ⟨x, hx, e1, e2⟩ := backL_mem s E 0 e he
  rw [e1]
  unfold oldE
  rw [ByteArray.size_extract]
  omega
theorem backT_step (s : ByteArray) {S : List Ed} {k : Nat} {x : Ed} (hx : S[k]? = some x) : backT s (S.take (k + 1)) = backStep s (backT s (S.take k)) x := by
 obtain ⟨hk, rfl⟩ := List.getElem?_eq_some_iff.1 hx
 unfold backT
 rw [List.take_succ_eq_append_getElem hk, List.foldl_append]
 rfl
theorem oldE_le (s : ByteArray) {e : Ed} (h : EdOk e) : ((oldE s e).size : Int) ≤ 65536 := by
 obtain ⟨h1, h2, h3, _⟩ := h
 unfold oldE
 rw [ByteArray.size_extract]
 omega
structure BkBd (st : Bk) (k : Nat) : Prop where
 len : st.out.length ≤ k
 g0 : -((k : Int) * 65536) ≤ st.g
 g1 : st.g ≤ (k : Int) * 100000
 b : ∀ y ∈ st.out, -((k : Int) * 65536) ≤ y.b ∧ y.b ≤ 65536 + (k : Int) * 200000 ∧ (y.t.size : Int) ≤ (k : Int) * 65536
theorem BkBd.step {s : ByteArray} {st : Bk} {k : Nat} (h : BkBd st k) {x : Ed} (hx : EdOk x) : BkBd (backStep s st x) (k + 1) := by
 have ho := oldE_le s hx
 obtain ⟨x1, x2, x3, x4⟩ := hx
 have g0 := h.g0
 have g1 := h.g1
 have hl := h.len
 have hnew : ∀ y ∈ st.out ++ [newE s st.g x], -(((k + 1 : Nat) : Int) * 65536) ≤ y.b ∧ y.b ≤ 65536 + ((k + 1 : Nat) : Int) * 200000 ∧ (y.t.size : Int) ≤ ((k + 1 : Nat) : Int) * 65536 := by
  intro y hy
  rcases List.mem_append.1 hy with hy | hy
  ·obtain ⟨b1, b2, b3⟩ := h.b y hy
   exact ⟨by omega, by omega, by omega⟩
  ·rw [List.mem_singleton.1 hy]
   unfold newE
   simp only
   refine ⟨by omega, by omega, by omega⟩
 have hlen : (st.out ++ [newE s st.g x]).length ≤ k + 1 := by rw [List.length_append, List.length_singleton]; omega
 refine ⟨?_, ?_, ?_, ?_⟩
 ·show (backOut s st x).length ≤ k + 1
  unfold backOut
  split
  ·split
   ·rw [List.length_set]; omega
   ·exact hlen
  ·exact hlen
 ·show -(((k + 1 : Nat) : Int) * 65536) ≤ st.g + dE x
  unfold dE; omega
 ·show st.g + dE x ≤ ((k + 1 : Nat) : Int) * 100000
  unfold dE; omega
 ·show ∀ y ∈ backOut s st x, _
  unfold backOut
  split
  ·rename_i z hz
   split
   ·intro y hy
    rcases List.mem_or_eq_of_mem_set hy with hy | rfl
    ·obtain ⟨b1, b2, b3⟩ := h.b y hy
     exact ⟨by omega, by omega, by omega⟩
    ·obtain ⟨b1, b2, b3⟩ := h.b z (List.mem_of_getLast? hz)
     simp only
     refine ⟨by omega, by omega, ?_⟩
     rw [ByteArray.size_append]
     omega
   ·exact hnew
  ·exact hnew
theorem backT_bd {s : ByteArray} {S : List Ed} (hok : ∀ e ∈ S, EdOk e) : ∀ k, k ≤ S.length → BkBd (backT s (S.take k)) k := by
 intro k
 induction k with
 | zero => intro _; exact ⟨by simp [backT], by simp [backT], by simp [backT], by simp [backT]⟩
 | succ k ih =>
  intro hk
  rw [backT_step s (List.getElem?_eq_getElem (by omega : k < S.length))]
  exact (ih (by omega)).step (hok _ (List.getElem_mem _))
theorem backOut_new {s : ByteArray} {st : Bk} {x : Ed} (h : st.out = [] ∨ x.a ≠ st.e) : backOut s st x = st.out ++ [newE s st.g x] := by
 unfold backOut
 split
 ·rename_i y hy
  rcases h with h | h
  ·rw [h] at hy; cases hy
  ·rw [if_neg h]
 ·rfl
theorem backOut_add {s : ByteArray} {st : Bk} {x y : Ed} (hy : st.out.getLast? = some y) (h : x.a = st.e) : backOut s st x = st.out.set (st.out.length - 1) ⟨y.a, y.b + x.t.size, y.t ++ oldE s x⟩ := by
 unfold backOut
 rw [hy]
 simp only
 rw [if_pos h]
end Go.Gim
namespace Go.Proofs.YthlmgoagnfkhdaaGreat
open Go.RowKit Go.Gim
def BackPost (s : ByteArray) (l : List Ed) (w : World) (e : Ending) (w' : World) : Prop :=
 ∃ a2 c2, e = .returned (.tuple #[.slice a2 (backE s l).length c2, .int .i64 0]) ∧ w'.ownsRow w.heap.size 59 3 (.slice a2 (backE s l).length c2) (backE s l).length (edE.cells (backE s l)) ∧ Ext w w'
theorem cback_yes (s : ByteArray) (ao : Option Addr) (cap : Nat) (l : List Ed) (w : World) (hs : s.size ≤ 65536) (hr : Reads w 3 ao l.length (edE.cells l)) (hn : l.length ≤ 19) (ht : ∀ e ∈ l, e.t.size ≤ 100000) (hm : mayE s.size l = 0) :
  Calls Tryz.prog 47 #[.string s, .slice ao l.length cap] w (BackPost s l w) := by
 have hl1 : maxLen = 9223372036854775807 := rfl
 have HM := Lib.hid (cmay_any s.size ao cap l w hr hn (by omega) (by omega) ht)
 rw [hm] at HM
 have hrz : rangedE s.size l = 0 := by
  rcases rangedE_or s.size l with h | h | h
  ·exact h
  ·rw [mayE_bad (by rw [h]; decide), h] at hm; cases hm
  ·rw [mayE_bad (by rw [h]; decide), h] at hm; cases hm
 have hok : ∀ e ∈ sorted lessE l, EdOk e := fun e he => by
  have he := (sorted_mem lessE l e).1 he
  obtain ⟨h1, h2, h3⟩ := rangedE_mem hrz e he
  exact ⟨h1, h2, by omega, ht e he⟩
 have hin : ∀ e ∈ sorted lessE l, e.b ≤ s.size := fun e he => (rangedE_mem hrz e ((sorted_mem lessE l e).1 he)).2.2
 have HSo := Lib.hid (fun w' (h : Ext w w') => sortC_any ao cap l w' (hr.mod h (fun _ _ f => f)) hn)
 have hSl := sorted_length lessE l
 have Hbd := Lib.hid (backT_bd (s := s) hok)
 have Hok := Lib.hid hok
 have Hin := Lib.hid hin
 have Hfin := Lib.hid (show backE s l = (backT s (sorted lessE l)).out from rfl)
 unfold BackPost
 generalize sorted lessE l = S at *
 generalize backE s l = E at *
 obtain ⟨N, hN⟩ : ∃ N, N = l.length := ⟨_, rfl⟩
 rw [← hN] at hn hSl HSo HM ⊢
 have HSl := Lib.hid hSl
 clear hr hN ht hm hrz hok hin hSl
 go_enter Tryz.func47, Tryz.ntmps47
 go_wp2_with fail
 refine HM.out.mono ?_
 rintro e w1 ⟨rfl, hx1⟩
 have HSo2 := Lib.hid (HSo.out w1 hx1)
 clear HM HSo
 go_wp2_with fail
 refine HSo2.out.mono ?_
 rintro e w2 ⟨a1, c1, rfl, hrd, -, hx2⟩
 have Hrd := Lib.hid hrd
 have hx0 := hx1.ext_trans hx2
 have hz2 := hx0.size
 clear HSo2 hrd hx1 hx2
 go_wp2_with fail
 go_loopw [7, 8, 9, 25] (fun v g en i wr => ∃ k : Nat, k ≤ N ∧ i = .int .i64 k ∧ g = .int .i64 (backT s (S.take k)).g ∧ en = .int .i64 (backT s (S.take k)).e ∧ Hid (wr.ownsRow w2.heap.size 59 3 v (backT s (S.take k)).out.length (edE.cells (backT s (S.take k)).out)) ∧ Ext w wr ∧ Ext w2 wr) (fun _ _ _ i _ => N - (intOf i).toNat)
 case atStart => exact ⟨0, by omega, rfl, rfl, rfl, Lib.hid (World.ownsRow_nil _ _ _ _), hx0, Mod.refl _ _⟩
 case round =>
  obtain ⟨k, hk, rfl, rfl, rfl, HO, hx, hy⟩ := hrel
  by_cases hlt : k < N
  ·have hlt' : (k : Int) < (N : Int) := by omega
   have hk0 : (0 : Int) ≤ (k : Int) := by omega
   obtain ⟨b, off, rfl⟩ := Hrd.out.some (by omega)
   have hlk : k < S.length := by rw [HSl.out]; exact hlt
   obtain ⟨c0, c1', c2⟩ := rdEd_at (Hrd.out.mod hy (fun _ _ f => f)) (List.getElem?_eq_getElem hlk)
   have Hst := Lib.hid (backT_step s (List.getElem?_eq_getElem hlk))
   have hbd := Hbd.out k (by omega)
   have HO1 := Lib.hid (oldE_le s (Hok.out _ (List.getElem_mem hlk)))
   obtain ⟨x1, x2, x3, x4⟩ := Hok.out _ (List.getElem_mem hlk)
   have x5 := Hin.out _ (List.getElem_mem hlk)
   generalize S[k] = x at *
   generalize backT s (S.take k) = st at *
   obtain ⟨out, g, en⟩ := st
   obtain ⟨d1, d2, d3, d4⟩ := hbd
   simp only at d1 d2 d3 d4 HO
   have HB4 := Lib.hid d4
   have HL := Lib.hid (fun w' => spLen_any (x.a, x.b) w' (by simp only; omega) (by simp only; omega))
   obtain ⟨va, vc, hva, _, _⟩ := ownsRow_shape HO.out
   subst hva
   have Hlow := Lib.hid (fun i hi => (HO.out.lt i hi).2)
   have hbl := World.block_lt_of_cell? wr _ c0
   clear hlk d4
   go_upto_region 11 with fail
   obtain ⟨u, hu⟩ : ∃ u, u = wr.alloc (.cells #[.int .i64 x.a, .int .i64 x.b, .string x.t] 59) := ⟨_, rfl⟩
   have hxu : Ext wr u := by rw [hu]; exact (Mod.refl _ wr).alloc _
   have hbu : Blk u wr.heap.size 59 #[.int .i64 x.a, .int .i64 x.b, .string x.t] := by rw [hu]; exact Blk.new _ _ _
   rw [← hu]
   clear c0 c1' c2 hbl hu
   have c0 : u.cell? ⟨wr.heap.size, 0, none⟩ = some (.int .i64 x.a) := hbu.cell 0
   have c1' : u.cell? ⟨wr.heap.size, 1, none⟩ = some (.int .i64 x.b) := hbu.cell 1
   have c2 : u.cell? ⟨wr.heap.size, 2, none⟩ = some (.string x.t) := hbu.cell 2
   have hlu := hbu.lt
   have s1 : IntKind.i64.wrap ((x.t.size : Int) - (x.b - x.a)) = (x.t.size : Int) - (x.b - x.a) := IntWalk.i64_in _ (by omega)
   have s2 : IntKind.i64.wrap (g + ((x.t.size : Int) - (x.b - x.a))) = g + ((x.t.size : Int) - (x.b - x.a)) := IntWalk.i64_in _ (by omega)
   refine wp_region_ext_lit (by kernel_rfl) (by kernel_rfl) ?_
   repeat (go_big_quiet_step (exact Calls.ext_of (HL.out _)))
   refine wpQuiet_nil ?_
   intro we hxe
   have hbe := hbu.mod hxe (fun f => f)
   have hxw := hxu.ext_trans hxe
   have HOe := Lib.hid (ownsRow_mod HO.out hxw (fun _ _ f => f))
   have hxB := hx.ext_trans hxw
   have hyB := hy.ext_trans hxw
   clear c0 c1' c2 hlu hbu hxu hxe HL s1 s2 HO hx hy
   have c0 : we.cell? ⟨wr.heap.size, 0, none⟩ = some (.int .i64 x.a) := hbe.cell 0
   have c1' : we.cell? ⟨wr.heap.size, 1, none⟩ = some (.int .i64 x.b) := hbe.cell 1
   have c2 : we.cell? ⟨wr.heap.size, 2, none⟩ = some (.string x.t) := hbe.cell 2
   have hlu := hbe.lt
   rcases Nat.eq_zero_or_pos out.length with hz | hz
   ·have HZ := Lib.hid (backOut_new (s := s) (st := ⟨out, g, en⟩) (x := x) (.inl (List.eq_nil_of_length_eq_zero hz)))
    have hz1 : (out.length : Int) - 1 = -1 := by omega
    have hj0 : ¬ (0 : Int) ≤ -1 := by omega
    go_upto_region 17 with fail
    clear hz hz1 hj0
    have HStep := Lib.hid (show backT s (S.take (k + 1)) = ⟨out ++ [newE s g x], g + dE x, x.b⟩ by rw [Hst.out]; unfold backStep; rw [HZ.out])
    go_wp2_with (at_builtin; refine wpList_append_reads rfl _ _ 35 rfl w2.heap.size 59 _ 3 32 Tryz.info59 Tryz.underlying35 rfl (by decide) _ out.length _ rfl (HOe.out.alloc _) _ 1 1 [.int .i64 (x.a + g), .int .i64 (x.a + g + x.t.size), .string (oldE s x)] rfl ?hrd (edE.one (newE s g x)) (by omega) (by omega) ?hbs ?_)
    case hrd =>
     have := Reads.new we 59 #[.int .i64 (x.a + g), .int .i64 (x.a + g + x.t.size), .string (oldE s x)] 3 1 rfl
     simpa [oldE] using this
    case hbs => have := hyB.size; simp; omega
    intro v' w4 hown hm4 hbk
    have hal : Ext we (we.alloc (.cells #[.int .i64 (x.a + g), .int .i64 (x.a + g + x.t.size), .string (oldE s x)] 59)) := (Mod.refl _ we).alloc _
    have hx4 := (hxB.ext_trans hal).over hm4 (fun i hi => Nat.le_trans hz2 (HOe.out.lt i hi).1)
    have hy4 := (hyB.ext_trans hal).over hm4 (fun i hi => (HOe.out.lt i hi).1)
    have hb4 := (hbe.mod hal (fun f => f)).mod hm4 (fun e => Nat.lt_irrefl _ (Hlow.out _ e))
    have Hown := Lib.hid hown
    clear hm4 hbk hown c0 c1' c2 hlu hal
    have c1' : w4.cell? ⟨wr.heap.size, 1, none⟩ = some (.int .i64 x.b) := hb4.cell 1
    have hlu := hb4.lt
    go_wp2_with fail
    go_roundw
    case rel => exact ⟨k + 1, by omega, by go_num, by rw [HStep.out]; rfl, by rw [HStep.out], Lib.hid (by rw [HStep.out, edE.cells_append, List.length_append, List.length_singleton]; exact Hown.out), hx4, hy4⟩
    case measure => simp [intOf]; omega
   ·obtain ⟨j, hj⟩ : ∃ j, out.length = j + 1 := ⟨out.length - 1, by omega⟩
    have hz1 : (out.length : Int) - 1 = (j : Int) := by omega
    have hjm : (j : Int) < (out.length : Int) := by omega
    have hj0 : (0 : Int) ≤ (j : Int) := by omega
    have HJ := Lib.hid hj
    clear hj hz
    by_cases he : x.a = en
    ·have he1 : (x.a == en) = true := by simpa using he
     obtain ⟨g0, gc, hg0⟩ := Enc.owns_some (E := edE) HOe.out (by rw [HJ.out]; omega)
     injection hg0 with e1 e2 e3
     subst e1
     subst e3
     clear e2
     have hjo : j < out.length := by omega
     obtain ⟨y, hjl⟩ : ∃ y, out[j]? = some y := ⟨_, List.getElem?_eq_getElem hjo⟩
     have hla : out.getLast? = some y := by rw [List.getLast?_eq_getElem?, show out.length - 1 = j from by have := HJ.out; omega]; exact hjl
     obtain ⟨b1, b2, b3⟩ := HB4.out _ (List.mem_of_getElem? hjl)
     clear hjo
     have HZ := Lib.hid (backOut_add (s := s) (st := ⟨out, g, en⟩) (x := x) (y := y) hla he)
     have Hjl := Lib.hid hjl
     have ho2 := HO1.out
     have y0 := Enc.owns_cell (E := edE) HOe.out hjl (j := 0) rfl
     have y1 := Enc.owns_cell (E := edE) HOe.out hjl (j := 1) rfl
     have y2 := Enc.owns_cell (E := edE) HOe.out hjl (j := 2) rfl
     rw [show edE.k = 3 from rfl] at y0 y1 y2
     rw [Nat.add_zero] at y0
     have f1 := Enc.owns_free (E := edE) HOe.out (j * 3 + 1)
     have f2 := Enc.owns_free (E := edE) HOe.out (j * 3 + 2)
     have hgl := (Enc.owns_block (E := edE) HOe.out).2
     have hne : g0 ≠ wr.heap.size := fun e => Nat.lt_irrefl _ (Hlow.out _ (by rw [e]; rfl))
     clear hjl hla he
     go_upto_region 15 with fail
     refine wp_region_ext_tail 13 (by kernel_rfl) (by kernel_rfl) ?_
     simp only [List.take_succ_cons, List.take_zero, List.drop_succ_cons, List.drop_zero]
     repeat (go_big_quiet_step (fail))
     refine wpQuiet_nil ?_
     intro wf hxf
     have HOf := Lib.hid (ownsRow_mod HOe.out hxf (fun _ _ f => f))
     have hbf := hbe.mod hxf (fun f => f)
     have hxF := hxB.ext_trans hxf
     have hyF := hyB.ext_trans hxf
     clear c0 c1' c2 hlu hbe y0 y1 y2 f1 f2 hgl hxf hxB hyB HOe
     have c1' : wf.cell? ⟨wr.heap.size, 1, none⟩ = some (.int .i64 x.b) := hbf.cell 1
     have hlu := hbf.lt
     have y1 := Enc.owns_cell (E := edE) HOf.out Hjl.out (j := 1) rfl
     have y2 := Enc.owns_cell (E := edE) HOf.out Hjl.out (j := 2) rfl
     rw [show edE.k = 3 from rfl] at y1 y2
     have f1 := Enc.owns_free (E := edE) HOf.out (j * 3 + 1)
     have f2 := Enc.owns_free (E := edE) HOf.out (j * 3 + 2)
     have hgl := (Enc.owns_block (E := edE) HOf.out).2
     have hgb := (Enc.owns_block (E := edE) HOf.out).1
     have ho3 : ((s.extract x.a.toNat x.b.toNat).size : Int) ≤ 65536 := ho2
     have hcat : ¬ (9223372036854775807 : Int) < (y.t.size : Int) + ((s.extract x.a.toNat x.b.toNat).size : Int) := by omega
     have hne2 : ¬ wr.heap.size = g0 := fun e => hne e.symm
     have hs1 := Enc.owns_set (E := edE) HOf.out Hjl.out (j := 1) (by decide) (v := .int .i64 (y.b + x.t.size)) ⟨y.a, y.b + x.t.size, y.t⟩ rfl
     have hs2 := Enc.owns_set2 (E := edE) hs1 (List.getElem?_eq_some_iff.1 Hjl.out).1 (j := 2) (by decide) (v := .string (y.t ++ oldE s x)) (y := ⟨y.a, y.b + x.t.size, y.t ++ oldE s x⟩) rfl
     have HS2 := Lib.hid hs2
     have HStep := Lib.hid (show backT s (S.take (k + 1)) = ⟨out.set (out.length - 1) ⟨y.a, y.b + x.t.size, y.t ++ oldE s x⟩, g + dE x, x.b⟩ by rw [Hst.out]; unfold backStep; rw [HZ.out])
     clear hs1 hs2
     go_wp2_with fail
     go_roundw
     case rel =>
      refine ⟨k + 1, by omega, by go_num, by rw [HStep.out]; rfl, by rw [HStep.out], Lib.hid ?_, ?_, ?_⟩
      ·rw [HStep.out]
       simp only
       rw [List.length_set, show out.length - 1 = j from by have := HJ.out; omega]
       exact HS2.out
      ·exact (hxF.setCell (p := ⟨g0, j * 3 + 1, none⟩) (fun h => absurd h (by simp only; omega)) _).setCell (p := ⟨g0, j * 3 + 2, none⟩) (fun h => absurd h (by simp only; omega)) _
      ·exact (hyF.setCell (p := ⟨g0, j * 3 + 1, none⟩) (fun h => absurd h (by simp only; omega)) _).setCell (p := ⟨g0, j * 3 + 2, none⟩) (fun h => absurd h (by simp only; omega)) _
     case measure => simp [intOf]; omega
    ·have he1 : (x.a == en) = false := by simpa using he
     have HZ := Lib.hid (backOut_new (s := s) (st := ⟨out, g, en⟩) (x := x) (.inr he))
     go_upto_region 17 with fail
     have HStep := Lib.hid (show backT s (S.take (k + 1)) = ⟨out ++ [newE s g x], g + dE x, x.b⟩ by rw [Hst.out]; unfold backStep; rw [HZ.out])
     go_wp2_with (at_builtin; refine wpList_append_reads rfl _ _ 35 rfl w2.heap.size 59 _ 3 32 Tryz.info59 Tryz.underlying35 rfl (by decide) _ out.length _ rfl (HOe.out.alloc _) _ 1 1 [.int .i64 (x.a + g), .int .i64 (x.a + g + x.t.size), .string (oldE s x)] rfl ?hrd (edE.one (newE s g x)) (by omega) (by omega) ?hbs ?_)
     case hrd =>
      have := Reads.new we 59 #[.int .i64 (x.a + g), .int .i64 (x.a + g + x.t.size), .string (oldE s x)] 3 1 rfl
      simpa [oldE] using this
     case hbs => have := hyB.size; simp; omega
     intro v' w4 hown hm4 hbk
     have hal : Ext we (we.alloc (.cells #[.int .i64 (x.a + g), .int .i64 (x.a + g + x.t.size), .string (oldE s x)] 59)) := (Mod.refl _ we).alloc _
     have hx4 := (hxB.ext_trans hal).over hm4 (fun i hi => Nat.le_trans hz2 (HOe.out.lt i hi).1)
     have hy4 := (hyB.ext_trans hal).over hm4 (fun i hi => (HOe.out.lt i hi).1)
     have hb4 := (hbe.mod hal (fun f => f)).mod hm4 (fun e => Nat.lt_irrefl _ (Hlow.out _ e))
     have Hown := Lib.hid hown
     clear hm4 hbk hown c0 c1' c2 hlu hal
     have c1' : w4.cell? ⟨wr.heap.size, 1, none⟩ = some (.int .i64 x.b) := hb4.cell 1
     have hlu := hb4.lt
     go_wp2_with fail
     go_roundw
     case rel => exact ⟨k + 1, by omega, by go_num, by rw [HStep.out]; rfl, by rw [HStep.out], Lib.hid (by rw [HStep.out, edE.cells_append, List.length_append, List.length_singleton]; exact Hown.out), hx4, hy4⟩
     case measure => simp [intOf]; omega
  ·have hlt' : ¬ (k : Int) < (N : Int) := by omega
   obtain rfl : k = N := by omega
   have hO := HO.out
   rw [List.take_of_length_le (by rw [HSl.out]; exact Nat.le_refl _), ← Hfin.out] at hO
   obtain ⟨va, vc, hva, _, _⟩ := ownsRow_shape hO
   subst hva
   have HO2 := Lib.hid hO
   clear hO HO
   go_wp2_with fail
   go_ret2
   exact ⟨va, vc, rfl, ownsRow_base HO2.out hz2, hx⟩
end Go.Proofs.YthlmgoagnfkhdaaGreat

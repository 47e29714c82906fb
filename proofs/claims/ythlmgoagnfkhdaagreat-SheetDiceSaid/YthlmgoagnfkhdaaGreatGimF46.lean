/- What is typed at carets and taken away again, character by character: plain. Conditions: none. -/
import Derived.Test.YthlmgoagnfkhdaaGreatGimF45
import Derived.Test.YthlmgoagnfkhdaaGreatGimF07
set_option maxHeartbeats 6400000
set_option maxRecDepth 1000000
set_option linter.unusedVariables false
set_option linter.unusedSimpArgs false
namespace Go.Gim
def dup (l : List Int) : List (Int × Int) := l.map fun k => (k, k)
def ins (s : By) (c : By) : Nat → List Int → By
 | f, [] => s.drop f
 | f, p :: r => (s.take p.toNat).drop f ++ c ++ ins s c p.toNat r
def kT (m : Int) : Int → List Int → List Int
 | _, [] => []
 | g, p :: r => (p + m + g) :: kT m (g + m) r
def Pl (n : Nat) : Nat → List Int → Prop
 | f, [] => f ≤ n
 | f, p :: r => (f : Int) ≤ p ∧ Pl n p.toNat r ∧ ∀ x ∈ r, p < x
theorem Pl.le {n : Nat} : ∀ {ps : List Int} {f : Nat}, Pl n f ps → f ≤ n := by
 intro ps
 induction ps with
 | nil => intro f h; exact h
 | cons p r ih => intro f h; have := ih h.2.1; have := h.1; omega
theorem pl_of {n : Nat} : ∀ {ps : List Int} {f : Nat}, f ≤ n → (∀ x ∈ ps, (f : Int) ≤ x ∧ x ≤ n) → ps.Pairwise (· < ·) → Pl n f ps := by
 intro ps
 induction ps with
 | nil => intro f h _ _; exact h
 | cons p r ih =>
  intro f _ h hp
  obtain ⟨h1, h2⟩ := h p (by simp)
  rw [List.pairwise_cons] at hp
  exact ⟨h1, ih (by omega) (fun x hx => by have := hp.1 x hx; have := (h x (by simp [hx])).2; omega) hp.2, hp.1⟩
theorem kT_zero : ∀ (ps : List Int) , kT 0 0 ps = ps := by
 intro ps
 induction ps with
 | nil => rfl
 | cons p r ih => show (p + 0 + 0) :: kT 0 (0 + 0) r = _; rw [show (0 : Int) + 0 = 0 from rfl, ih]; simp
theorem ins_nil (s : By) : ∀ (ps : List Int) (f : Nat), Pl s.length f ps → ins s [] f ps = s.drop f := by
 intro ps
 induction ps with
 | nil => intro f _; rfl
 | cons p r ih =>
  intro f h
  have h1 := h.1
  show (s.take p.toNat).drop f ++ [] ++ ins s [] p.toNat r = _
  rw [ih _ h.2.1, List.append_nil, List.drop_take]
  rw [show s.drop p.toNat = (s.drop f).drop (p.toNat - f) by rw [List.drop_drop]; congr 1; omega]
  exact List.take_append_drop _ _
theorem kT_gt (m : Int) (hm : 0 ≤ m) : ∀ (ps : List Int) (g b : Int), (∀ x ∈ ps, b < x) → ps.Pairwise (· < ·) → ∀ k ∈ kT m g ps, b + m + g < k := by
 intro ps
 induction ps with
 | nil => intro g b _ _ k hk; cases hk
 | cons p r ih =>
  intro g b hb hp k hk
  rw [List.pairwise_cons] at hp
  have h0 := hb p (by simp)
  rcases List.mem_cons.1 hk with rfl | hk
  ·omega
  ·have := ih (g + m) p hp.1 hp.2 k hk
   omega
theorem kT_apart (m : Int) (hm : 0 ≤ m) : ∀ (ps : List Int) (g : Int), ps.Pairwise (· < ·) → (kT m g ps).Pairwise (fun a b => a + m < b) := by
 intro ps
 induction ps with
 | nil => intro g _; exact List.Pairwise.nil
 | cons p r ih =>
  intro g hp
  rw [List.pairwise_cons] at hp
  refine List.pairwise_cons.2 ⟨fun k hk => ?_, ih _ hp.2⟩
  have := kT_gt m hm r (g + m) p hp.1 hp.2 k hk
  omega
theorem downN_mid {P c R : By} (hc : 0 < c.length) (h0 : inB (c.getD 0 0) = false) : ∀ j, j < c.length → downN inB (P ++ c ++ R) (P.length + j) = P.length + downN inB c j := by
 have hg : ∀ j, j < c.length → (P ++ c ++ R).getD (P.length + j) 0 = c.getD j 0 := by
  intro j hj
  rw [List.getD_eq_getElem?_getD, List.getD_eq_getElem?_getD, List.append_assoc, List.getElem?_append_right (by omega), Nat.add_sub_cancel_left, List.getElem?_append_left hj]
 intro j
 induction j with
 | zero =>
  intro _
  cases hP : P.length with
  | zero => rfl
  | succ k =>
   have := hg 0 hc
   rw [hP, Nat.add_zero] at this
   show (if inB ((P ++ c ++ R).getD (k + 1) 0) then _ else k + 1) = k + 1 + 0
   rw [this, h0]
   rfl
 | succ j ih =>
  intro hj
  have h1 := ih (by omega)
  have h2 := hg (j + 1) hj
  show (if inB ((P ++ c ++ R).getD (P.length + j + 1) 0) then downN inB (P ++ c ++ R) (P.length + j) else P.length + j + 1) = _
  rw [show P.length + j + 1 = P.length + (j + 1) from rfl, h2, h1]
  show _ = P.length + (if inB (c.getD (j + 1) 0) then downN inB c j else j + 1)
  split <;> rfl
theorem leftN_mid {P c R : By} (hc : 0 < c.length) (h0 : inB (c.getD 0 0) = false) : leftN (P ++ c ++ R) (P.length + c.length) = P.length + leftN c c.length := by
 unfold leftN
 rw [if_neg (by omega), if_neg (by omega), show P.length + c.length - 1 = P.length + (c.length - 1) by omega]
 exact downN_mid hc h0 _ (by omega)
theorem left_ins {s c : By} (hc : 0 < c.length) (h0 : inB (c.getD 0 0) = false) : ∀ (ps : List Int) (f : Nat) (g : Int) (P T : By), Pl s.length f ps → T = P ++ ins s c f ps → (P.length : Int) = f + g → ∀ k ∈ kT c.length g ps, ((leftN T k.toNat : Nat) : Int) = k - (c.length - leftN c c.length : Nat) := by
 intro ps
 induction ps with
 | nil => intro f g P T _ _ _ k hk; cases hk
 | cons p r ih =>
  intro f g P T h hT hP k hk
  obtain ⟨h1, h2, h3⟩ := h
  have hle := h2.le
  have hX : ((s.take p.toNat).drop f).length = p.toNat - f := by rw [List.length_drop, List.length_take]; omega
  have hT2 : T = (P ++ (s.take p.toNat).drop f) ++ c ++ ins s c p.toNat r := by
   rw [hT]
   show P ++ ((s.take p.toNat).drop f ++ c ++ ins s c p.toNat r) = _
   simp only [List.append_assoc]
  rcases List.mem_cons.1 hk with rfl | hk
  ·have hl := leftN_mid (P := P ++ (s.take p.toNat).drop f) (R := ins s c p.toNat r) hc h0
   rw [← hT2, List.length_append, hX] at hl
   have hle2 := leftN_le c c.length
   rw [show (p + (c.length : Int) + g).toNat = P.length + (p.toNat - f) + c.length by omega, hl]
   omega
  ·refine ih p.toNat (g + c.length) ((P ++ (s.take p.toNat).drop f) ++ c) T h2 hT2 ?_ k hk
   rw [List.length_append, List.length_append, hX]
   omega
theorem sorted_same {l : List (Int × Int)} (h : l.Pairwise leB) : sorted lessB l = l := rise_eq (sorted_perm lessB l) (sortedB_rises l) h
theorem mergeU0_same : ∀ {l : List (Int × Int)}, (∀ x ∈ l, x.1 ≤ x.2) → l.Pairwise (fun x y => x.2 < y.1) → mergeU0 l = l := by
 intro l
 induction l with
 | nil => intro _ _; rfl
 | cons x r ih =>
  intro h hp
  rw [List.pairwise_cons] at hp
  show mergeU x r = _
  rw [merge_far (h x (by simp)) (fun y hy => ⟨hp.1 y hy, h y (by simp [hy])⟩), ih (fun y hy => h y (by simp [hy])) hp.2]
theorem unionL_same {l : List (Int × Int)} (h : ∀ x ∈ l, x.1 ≤ x.2) (hp : l.Pairwise (fun x y => x.2 < y.1)) : unionL l = l := by
 unfold unionL
 rw [sorted_same, unionS_is]
 ·exact mergeU0_same h hp
 ·refine hp.imp_of_mem (fun {a b} ha hb hab => ?_)
  have := h a ha
  unfold leB
  omega
def delE (l : Int) (ks : List Int) : List Ed := ks.map fun k => edOf (k - l, k)
theorem erased_is {T : By} {l : Int} {K : List Int} (hl : 0 < l) (h : ∀ k ∈ K, ((leftN T k.toNat : Nat) : Int) = k - l) (hp : K.Pairwise (fun a b => a + l < b)) : erasedL T false (dup K) = delE l K := by
 have hm : (dup K).map (goneS T false) = K.map fun k => (k - l, k) := by
  unfold dup
  rw [List.map_map]
  refine List.map_congr_left (fun k hk => ?_)
  show goneS T false (k, k) = _
  unfold goneS
  simp only [if_true]
  rw [h k hk]
  rfl
 unfold erasedL gonesL
 rw [hm, unionL_same, List.filter_eq_self.2]
 ·unfold delE; rw [List.map_map]; rfl
 ·intro x hx
  obtain ⟨k, _, rfl⟩ := List.mem_map.1 hx
  unfold fullB
  exact decide_eq_true (by simp only; omega)
 ·intro x hx
  obtain ⟨k, _, rfl⟩ := List.mem_map.1 hx
  simp only
  omega
 ·rw [List.pairwise_map]
  refine hp.imp (fun {a b} hab => ?_)
  simp only
  omega
theorem del_ks (l m : Int) : ∀ (ps : List Int) (g G : Int), ks G (delE l (kT m g ps)) = kT (m - l) (g + G) ps := by
 intro ps
 induction ps with
 | nil => intro g G; rfl
 | cons p r ih =>
  intro g G
  show ks G (edOf (p + m + g - l, p + m + g) :: delE l (kT m (g + m) r)) = _
  show (p + m + g - l + ((0 : Nat) : Int) + G) :: ks (G + dE (edOf (p + m + g - l, p + m + g))) (delE l (kT m (g + m) r)) = (p + (m - l) + (g + G)) :: kT (m - l) (g + G + (m - l)) r
  rw [ih, show dE (edOf (p + m + g - l, p + m + g)) = -l by unfold dE edOf; show ((0 : Nat) : Int) - (p + m + g - (p + m + g - l)) = _; omega]
  rw [show p + m + g - l + ((0 : Nat) : Int) + G = p + (m - l) + (g + G) by omega, show g + m + (G + -l) = g + G + (m - l) by omega]
theorem del_rest {s c : By} {d : Nat} (hd : d ≤ c.length) : ∀ (ps : List Int) (f a : Nat) (g : Int) (P T : By), Pl s.length f ps → T = P ++ ins s c f ps → P.length = a → (a : Int) = f + g → rest T a (delE (c.length - d : Nat) (kT c.length g ps)) = ins s (c.take d) f ps := by
 intro ps
 induction ps with
 | nil =>
  intro f a g P T h hT hP _
  show T.drop a = s.drop f
  rw [hT, ← hP, List.drop_left]
  rfl
 | cons p r ih =>
  intro f a g P T h hT hP hg
  obtain ⟨h1, h2, h3⟩ := h
  have hle := h2.le
  have hX : ((s.take p.toNat).drop f).length = p.toNat - f := by rw [List.length_drop, List.length_take]; omega
  have hT2 : T = ((P ++ (s.take p.toNat).drop f) ++ c) ++ ins s c p.toNat r := by
   rw [hT]
   show P ++ ((s.take p.toNat).drop f ++ c ++ ins s c p.toNat r) = _
   simp only [List.append_assoc]
  have hP2 : (P ++ (s.take p.toNat).drop f).length = a + (p.toNat - f) := by rw [List.length_append, hX, hP]
  have hi := ih p.toNat (a + (p.toNat - f) + c.length) (g + c.length) _ T h2 hT2 (by rw [List.length_append, hP2]) (by omega)
  show (T.take (p + (c.length : Int) + g - ((c.length - d : Nat) : Int)).toNat).drop a ++ [] ++ rest T (p + (c.length : Int) + g).toNat (delE (c.length - d : Nat) (kT c.length (g + c.length) r)) = (s.take p.toNat).drop f ++ c.take d ++ ins s (c.take d) p.toNat r
  rw [show (p + (c.length : Int) + g).toNat = a + (p.toNat - f) + c.length by omega, hi, List.append_nil]
  congr 1
  rw [show (p + (c.length : Int) + g - ((c.length - d : Nat) : Int)).toNat = (P ++ (s.take p.toNat).drop f).length + d by rw [hP2]; omega]
  rw [hT2, List.append_assoc (P ++ (s.take p.toNat).drop f), List.take_length_add_append, List.take_append_of_le_length hd, List.append_assoc, ← hP, List.drop_left]
theorem sels_ks {E : List Ed} {K : List Int} (ha : Asc E) (hl : K.length = E.length) (h : ∀ (i : Nat) (k : Int) (e : Ed), K[i]? = some k → E[i]? = some e → e.a ≤ k ∧ k ≤ e.b) : selsM E (dup K) = dup (ks 0 E) := by
 have he : (dup K).map (moveS E) = dup (ks 0 E) := by
  unfold dup
  refine List.ext_getElem? (fun i => ?_)
  rw [List.map_map, List.getElem?_map, List.getElem?_map]
  cases hx : K[i]? with
  | none =>
   have : K.length ≤ i := List.getElem?_eq_none_iff.1 hx
   rw [List.getElem?_eq_none (by rw [ks_len]; omega)]
   rfl
  | some k =>
   have hi : i < E.length := by rw [← hl]; exact (List.getElem?_eq_some_iff.1 hx).1
   obtain ⟨h1, h2⟩ := h i k _ hx (List.getElem?_eq_getElem hi)
   have k1 := (ks_fold _ 0 i _ k ha (List.getElem?_eq_getElem hi) h1 h2).1
   rw [k1, Int.add_zero]
   show some (moveS E (k, k)) = some _
   unfold moveS
   rw [moveE_asc ha]
 unfold selsM
 rw [he]
 exact order_same (carets_rS (ks_rises _ 0 ha))
def firsts (c : By) : Nat := (c.filter (fun b => !inB b)).length
theorem firsts_nil : firsts [] = 0 := rfl
theorem firsts_take {c : By} {j : Nat} {b : UInt8} (h : c[j]? = some b) : firsts (c.take (j + 1)) = firsts (c.take j) + if inB b then 0 else 1 := by
 obtain ⟨hj, rfl⟩ := List.getElem?_eq_some_iff.1 h
 unfold firsts
 rw [List.take_succ_eq_append_getElem hj, List.filter_append, List.length_append]
 cases hb : inB c[j] <;> simp [hb]
theorem firsts_down {c : By} (h0 : inB (c.getD 0 0) = false) : ∀ j, j < c.length → firsts (c.take (downN inB c j)) + 1 = firsts (c.take (j + 1)) := by
 intro j
 induction j with
 | zero =>
  intro hj
  have hb : c[0]? = some c[0] := List.getElem?_eq_getElem hj
  rw [firsts_take hb]
  have : inB c[0] = false := by rw [List.getD_eq_getElem?_getD, hb] at h0; exact h0
  rw [this]
  rfl
 | succ j ih =>
  intro hj
  have hb : c[j + 1]? = some c[j + 1] := List.getElem?_eq_getElem hj
  rw [firsts_take hb]
  have hg : c.getD (j + 1) 0 = c[j + 1] := by rw [List.getD_eq_getElem?_getD, hb]; rfl
  show firsts (c.take (if inB (c.getD (j + 1) 0) then downN inB c j else j + 1)) + 1 = _
  rw [hg]
  cases hin : inB c[j + 1] with
  | true => rw [if_pos rfl, ih (by omega)]; rfl
  | false => rfl
def cutN (c : By) : By := c.take (leftN c c.length)
theorem cutN_firsts {c : By} (hc : 0 < c.length) (h0 : inB (c.getD 0 0) = false) : firsts (cutN c) + 1 = firsts c := by
 unfold cutN leftN
 rw [if_neg (by omega), firsts_down h0 _ (by omega), show c.length - 1 + 1 = c.length by omega, List.take_length]
theorem cutN_len (c : By) : (cutN c).length = leftN c c.length ∧ leftN c c.length ≤ c.length - 1 := by
 have := leftN_le c c.length
 unfold cutN
 rw [List.length_take]
 omega
def Head (c : By) : Prop := c = [] ∨ inB (c.getD 0 0) = false
theorem cutN_head {c : By} (h : Head c) : Head (cutN c) := by
 rcases h with rfl | h
 ·exact .inl rfl
 ·by_cases hz : (cutN c).length = 0
  ·exact .inl (List.length_eq_zero_iff.1 hz)
  ·refine .inr ?_
   have hl := (cutN_len c).1
   rw [List.getD_eq_getElem?_getD] at h ⊢
   unfold cutN
   rw [List.getElem?_take, if_pos (by omega)]
   exact h
theorem firsts_none {c : By} (h : Head c) (hf : firsts c = 0) : c = [] := by
 rcases h with h | h
 ·exact h
 ·cases c with
  | nil => rfl
  | cons b r =>
   have : inB b = false := h
   unfold firsts at hf
   rw [List.filter_cons_of_pos (by simp [this])] at hf
   simp at hf
def txA (s : By) (ps : List Int) (c : By) : ByteArray := bs (ins s c 0 ps)
def qA (ps : List Int) (c : By) : List (Int × Int) := dup (kT c.length 0 ps)
theorem again_step {s : By} {ps : List Int} {c : By} (hs : Pl s.length 0 ps) (hp : ps.Pairwise (· < ·)) (hc : 0 < c.length) (h0 : inB (c.getD 0 0) = false) (hin : InT (txA s ps c).size (qA ps c)) (hz : (txA s ps c).size ≤ 65536) :
  mayE (txA s ps c).size (erasedL (txA s ps c).data.toList false (qA ps c)) = 0 ∧ textC (txA s ps c) (erasedL (txA s ps c).data.toList false (qA ps c)) = txA s ps (cutN c) ∧ selC (txA s ps c) (erasedL (txA s ps c).data.toList false (qA ps c)) (qA ps c) = qA ps (cutN c) := by
 have hm := erased_may (forth := false) hin hz
 obtain ⟨hl1, hl2⟩ := cutN_len c
 have hT : (txA s ps c).data.toList = [] ++ ins s c 0 ps := rfl
 have hle := left_ins hc h0 ps 0 0 [] _ hs hT (by simp)
 have hap := kT_apart c.length (by omega) ps 0 hp
 have he := erased_is (l := ((c.length - leftN c c.length : Nat) : Int)) (by omega) hle (hap.imp (fun {a b} hab => by omega))
 have ha := erased_asc (forth := false) (show InT ((txA s ps c).data.toList.length : Nat) (qA ps c) from hin)
 have hi := erased_in (forth := false) (show InT ((txA s ps c).data.toList.length : Nat) (qA ps c) from hin)
 refine ⟨hm, ?_, ?_⟩
 ·unfold textC
  rw [if_pos hm, apply_rest ha (fun e he => by have := hi e he; omega)]
  unfold qA
  rw [he]
  unfold txA
  have := del_rest (d := leftN c c.length) (by omega) ps 0 0 0 [] _ hs hT rfl (by simp)
  exact congrArg bs this
 ·unfold selC
  rw [if_pos hm]
  unfold qA at ha ⊢
  rw [he] at ha ⊢
  rw [sels_ks ha]
  ·have := del_ks ((c.length - leftN c c.length : Nat) : Int) c.length ps 0 0
   rw [this]
   congr 1
   rw [hl1]
   congr 1
   omega
  ·unfold delE; rw [List.length_map]
  ·intro i k e hk hE
   unfold delE at hE
   rw [List.getElem?_map, hk] at hE
   cases hE
   unfold edOf
   simp only
   omega
theorem typed_ins {s : By} {c : ByteArray} : ∀ (ps : List Int) (f : Nat), rest s f (typedL c (dup ps)) = ins s c.data.toList f ps := by
 intro ps
 induction ps with
 | nil => intro f; rfl
 | cons p r ih =>
  intro f
  have e : spanI (p, p) = (p, p) := by unfold spanI; simp
  show (s.take (spanI (p, p)).1.toNat).drop f ++ c.data.toList ++ rest s (spanI (p, p)).2.toNat (typedL c (dup r)) = _
  rw [e, ih]
  rfl
theorem typed_ks {c : ByteArray} : ∀ (ps : List Int) (g : Int), ks g (typedL c (dup ps)) = kT c.size g ps := by
 intro ps
 induction ps with
 | nil => intro g; rfl
 | cons p r ih =>
  intro g
  have e : spanI (p, p) = (p, p) := by unfold spanI; simp
  show ((spanI (p, p)).1 + (c.size : Int) + g) :: ks (g + dE ⟨(spanI (p, p)).1, (spanI (p, p)).2, c⟩) (typedL c (dup r)) = (p + (c.size : Int) + g) :: kT c.size (g + c.size) r
  rw [e, ih, show dE ⟨p, p, c⟩ = c.size by unfold dE; simp only; omega]
theorem again_first {s c : ByteArray} {ps : List Int} (hp : ps.Pairwise (· < ·)) (hin : ∀ x ∈ ps, 0 ≤ x ∧ x ≤ s.size) (hz : s.size + ps.length * c.size ≤ 65536) :
  mayE s.size (typedL c (dup ps)) = 0 ∧ textC s (typedL c (dup ps)) = txA s.data.toList ps c.data.toList ∧ selC s (typedL c (dup ps)) (dup ps) = qA ps c.data.toList ∧ (txA s.data.toList ps c.data.toList).size = s.size + ps.length * c.size := by
 have hq : InT s.size (dup ps) := fun x hx => by
  obtain ⟨k, hk, rfl⟩ := List.mem_map.1 hx
  have := hin k hk
  simp only
  omega
 have hr : (dup ps).Pairwise rS := carets_rS hp
 have hl : (dup ps).length = ps.length := List.length_map _
 have hm := typed_may (t := c) hq hr (by rw [hl]; exact hz)
 have ha := typed_asc (t := c) hr
 have hi := typed_in (t := c) hq
 have ht : textC s (typedL c (dup ps)) = txA s.data.toList ps c.data.toList := by
  unfold textC
  rw [if_pos hm, apply_rest ha (fun e he => by have := hi e he; have h2 : s.data.toList.length = s.size := rfl; omega), typed_ins]
  rfl
 refine ⟨hm, ht, ?_, ?_⟩
 ·unfold selC
  rw [if_pos hm, typed_sels hr, typed_ks]
  rfl
 ·have h1 := (textC_len hm).1
  rw [ht] at h1
  have hg : ∀ (ps : List Int) (n : Int), grownE n (typedL c (dup ps)) = n + ps.length * c.size := by
   intro ps
   induction ps with
   | nil => intro n; simp [grownE, typedL, dup]
   | cons p r ih =>
    intro n
    have e : spanI (p, p) = (p, p) := by unfold spanI; simp
    show grownE n (⟨(spanI (p, p)).1, (spanI (p, p)).2, c⟩ :: typedL c (dup r)) = _
    rw [grownE_cons, ih, e, show dE ⟨p, p, c⟩ = c.size by unfold dE; simp only; omega, List.length_cons, Int.natCast_succ, Int.add_mul]
    omega
  rw [hg] at h1
  have : ((ps.length * c.size : Nat) : Int) = ps.length * c.size := by rw [Int.natCast_mul]
  omega
theorem again_last {s : By} {ps : List Int} (hs : Pl s.length 0 ps) : txA s ps [] = bs s ∧ qA ps [] = dup ps := by
 unfold txA qA
 rw [ins_nil s ps 0 hs]
 exact ⟨rfl, by show dup (kT 0 0 ps) = _; rw [kT_zero]⟩
theorem dup_of {q : List (Int × Int)} (h : ∀ x ∈ q, x.1 = x.2) : dup (q.map (·.1)) = q := by
 unfold dup
 rw [List.map_map]
 refine (List.map_congr_left (fun x hx => ?_)).trans (List.map_id q)
 exact Prod.ext rfl (h x hx)
end Go.Gim
namespace Go.Proofs.YthlmgoagnfkhdaaGreat
open Go.RowKit Go.Gim
structure Sep (A B : Sh) : Prop where
 sh : ∀ k, ShS A k → ¬ ShS B k
 da : ∀ k, A.R.D.sv.ownBlock = some k → ¬ ShS B k
 db : ∀ k, B.R.D.sv.ownBlock = some k → ¬ ShS A k
theorem Sep.flip {A B : Sh} (h : Sep A B) : Sep B A := ⟨fun k hk e => h.sh k e hk, h.db, h.da⟩
theorem sels_far {w : World} {S U : Sh} (h : SheetAt w S) (k : SheetAt w U) : ∀ a, S.ao = some a → ¬ ShS U a.block := by
 intro a ha e
 have hk : (Value.slice S.ao S.q.length S.c).ownBlock = some a.block := by rw [ha]; rfl
 rcases h.sels.2 with ⟨hv, _⟩ | ⟨g, cap, cur, hv, _, hg, _⟩
 ·rw [hv] at hk; cases hk
 ·rw [hv] at hk
  cases hk
  have := sheet_types k e hg
  rcases this with h | h | h | h | h <;> (revert h; decide)
theorem Sep.turn {w w1 : World} {A A' B : Sh} (hs : Sep A B) (hA : SheetAt w A) (hB : SheetAt w B) (hd : ShDone A A' w w1) : SheetAt w1 B ∧ Sep A' B := by
 refine ⟨hB.mod hd.mod (fun k hk e => hs.sh k e hk) (fun k hk e => hs.db k hk e) (fun a ha => sels_far hB hA a ha), fun k hk e => ?_, fun k hk => ?_, fun k hk e => ?_⟩
 ·exact hs.sh k (hd.grew k (hB.lt k e) hk) e
 ·rw [hd.sv] at hk
  exact hs.da k hk
 ·exact hs.db k hk (hd.grew k (hB.rope.near k (.inr hk)) e)
theorem Alone.other {w0 w w1 : World} {A A' B : Sh} {Bd Bd' : Int} {m m' : Nat} (hA : Alone w0 w A Bd m) (hB : Alone w0 w B Bd' m') (hs : Sep A B) (hd : ShDone A A' w w1) : Alone w0 w1 B Bd' m' ∧ Sep A' B := by
 obtain ⟨h1, h2⟩ := hs.turn hA.sh hB.sh hd
 exact ⟨⟨h1, hB.own, hB.tok, hB.bd, hB.q0, hB.q1, hB.inq, (hA.turned hd).2⟩, h2⟩
structure Two (w0 w : World) (A B : Sh) (Bd : Int) (m : Nat) : Prop where
 a : Alone w0 w A Bd m
 b : Alone w0 w B Bd m
 sep : Sep A B
 s : B.s = A.s
 q : B.q = A.q
theorem Alone.bd_more {w0 w : World} {S : Sh} {Bd Bd' : Int} {m : Nat} (h : Alone w0 w S Bd m) (hb : Bd ≤ Bd') : Alone w0 w S Bd' m :=
 ⟨h.sh, h.own, h.tok.mono hb, by have := h.bd; omega, h.q0, h.q1, h.inq, h.ext⟩
theorem Two.on {w0 w w' : World} {A B : Sh} {Bd : Int} {m : Nat} (h : Two w0 w A B Bd m) (hx : Ext w w') : Two w0 w' A B Bd m := ⟨h.a.on hx, h.b.on hx, h.sep, h.s, h.q⟩
theorem Two.more {w0 w : World} {A B : Sh} {Bd Bd' : Int} {m : Nat} (h : Two w0 w A B Bd m) (hb : Bd ≤ Bd') : Two w0 w A B Bd' m := ⟨h.a.bd_more hb, h.b.bd_more hb, h.sep, h.s, h.q⟩
theorem Two.both {w0 w w1 w2 w3 : World} {A A' B B' : Sh} {Bd Bd' : Int} {m m' : Nat} (h : Two w0 w A B Bd m) (hA : ShDone A A' w w1) (hA' : Alone w0 w1 A' Bd' m') (hx : Ext w1 w2) (hB : ShDone B B' w2 w3) (hB' : Alone w0 w3 B' Bd' m') (es : B'.s = A'.s) (eq : B'.q = A'.q) : Two w0 w3 A' B' Bd' m' := by
 obtain ⟨h1, h2⟩ := h.a.other h.b h.sep hA
 obtain ⟨h3, h4⟩ := (h1.on hx).other (hA'.on hx) h2.flip hB
 exact ⟨h3, hB', h4.flip, es, eq⟩
theorem Two.start {w0 u2 u3 u4 : World} {A B : Sh} {D : Dice} {Bd : Int} {m : Nat} (hA : Alone w0 u2 A Bd m) (hD : MadeDice D u2 u3) (h1 : SheetAt u4 B) (h2 : B.s = A.s) (h3 : B.L = []) (h4 : B.last = 0) (h5 : B.q = [(0, 0)]) (hq : A.q = [(0, 0)]) (hr : B.R.D = D) (h6 : ∀ k, ShS B k → u3.heap.size ≤ k ∨ k = D.d) (h7 : Mod (· = D.d) u3 u4) (hm : 1 ≤ m) (hb : 65536 ≤ Bd) : Two w0 u4 A B Bd m := by
 have z1 := hA.ext.size
 have z2 := hD.ext.size
 have hge : ∀ k, ShS B k → u2.heap.size ≤ k := fun k hk => by
  have := hD.d
  rcases h6 k hk with h | h <;> omega
 have hBs : Alone w0 u4 B Bd m := (Alone.start (m := m) (hA.ext.ext_trans hD.ext) (Nat.le_trans z1 hD.d) h1 h3 h4 h5 h6 h7 hm).bd_more hb
 have hx : Mod (fun k => u2.heap.size ≤ k) u2 u4 := (hD.ext.any).trans h7 (fun i hi e => by have := hD.d; omega)
 have hA4 : SheetAt u4 A := hA.sh.mod hx (fun k hk e => by have := hA.sh.lt k hk; omega) (fun k hk e => by have := hA.sh.rope.near k (.inr hk); omega) (fun a ha e => by
  have := (hA.sh.sels.lt a.block (by rw [ha]; rfl)).2
  omega)
 refine ⟨⟨hA4, hA.own, hA.tok, hA.bd, hA.q0, hA.q1, hA.inq, hBs.ext⟩, hBs, ⟨fun k hk e => ?_, fun k hk e => ?_, fun k hk e => ?_⟩, h2, by rw [h5, hq]⟩
 ·have := hA.sh.lt k hk
  have := hge k e
  omega
 ·have := hA.sh.rope.near k (.inr hk)
  have := hge k e
  omega
 ·rw [hr] at hk
  have := hD.sv k hk
  have := hA.sh.lt k e
  omega
end Go.Proofs.YthlmgoagnfkhdaaGreat

/- A region that draws its order: what comes first only makes new memory, each operation with one value in every such world; what stands at its end waits for all of it and comes in one order. Conditions: none. -/
import Derived.Test.YthlmgoagnfkhdaaGreatGimG02
import Derived.Test.YthlmgoagnfkhdaaGreatGimG03
import Derived.StillTailTactics
import Derived.Orders
import Derived.StillTail
set_option maxHeartbeats 6400000
set_option maxRecDepth 1000000
set_option linter.unusedVariables false
set_option linter.unusedSimpArgs false
namespace Go.Gim
open Go.RowKit
instance (w : World) : Nonempty (Exts w) := ⟨⟨w, ⟨rfl, rfl, rfl, Nat.le_refl _, fun _ _ => rfl⟩⟩⟩
section
variable {P : Program} {md : Region.Mode} {C : World → Prop}
theorem wpAny_more {ops : Array Oper} {Q : Exit → Act → World → Prop} : ∀ (f : Nat) (listed : Array Bool) (a : Act) (w : World), wpAny P md ops Q f listed a w → wpAny P md ops Q (f + 1) listed a w
 | 0, _, _, _, h => ⟨fun _ => h.2, fun i hi => by rw [h.1] at hi; cases hi⟩
 | f + 1, _, _, _, h => ⟨h.1, fun i hi => wpOp_mono (fun a w h' => wpAny_more f _ a w h') (h.2 i hi)⟩
theorem wpAny_plus {ops : Array Oper} {Q : Exit → Act → World → Prop} {g : Nat} {listed : Array Bool} {a : Act} {w : World} (h : wpAny P md ops Q g listed a w) : ∀ f, wpAny P md ops Q (f + g) listed a w
 | 0 => by rw [Nat.zero_add]; exact h
 | f + 1 => by rw [show f + 1 + g = f + g + 1 by omega]; exact wpAny_more _ _ _ _ (wpAny_plus h f)
def backB (md : Region.Mode) (l : List Oper) (n : Nat) : Bool :=
 (List.range n).all fun i => match l[i]? with
  | some o => o.guard.isNone && o.after.all (fun e => !Region.binds md e || decide (e.on < i))
  | none => false
theorem backB_at {l : List Oper} {n i : Nat} (h : backB md l n = true) (hi : i < n) :
  ∃ o, l[i]? = some o ∧ o.guard = none ∧ ∀ e ∈ o.after, Region.binds md e = true → e.on < i := by
 have h1 := List.all_eq_true.1 h i (List.mem_range.2 hi)
 cases ho : l[i]? with
 | none => rw [ho] at h1; cases h1
 | some o =>
  rw [ho] at h1
  simp only [Bool.and_eq_true, Option.isNone_iff_eq_none, Array.all_eq_true_iff_forall_mem, Bool.or_eq_true, Bool.not_eq_true', decide_eq_true_eq] at h1
  refine ⟨o, rfl, h1.1, fun e he hb => ?_⟩
  rcases h1.2 e he with h2 | h2
  ·rw [hb] at h2; cases h2
  ·exact h2
theorem pre_at {l : List Oper} {n i : Nat} (hi : i < n) : (l.take n).toArray[i]? = l[i]? := by simp [hi]
theorem all_listed {l : List Oper} {n : Nat} {listed' : Array Bool} (hback : backB md l n = true) (hsz : listed'.size = n) (hr : Region.ready md (l.take n).toArray listed' = []) : ∀ i, i < n → listed'.getD i false = true := by
 intro i
 induction i using Nat.strongRecOn with
 | _ i ih =>
  intro hi
  cases hl : listed'.getD i false with
  | true => rfl
  | false =>
   obtain ⟨o, ho, _, hd⟩ := backB_at hback hi
   have : i ∈ Region.ready md (l.take n).toArray listed' := mem_ready.2 ⟨getD_in (by omega) hl, o, by rw [pre_at hi, ho], fun e he hb => ih e.on (hd e he hb) (by have := hd e he hb; omega)⟩
   rw [hr] at this; cases this
theorem wpAny_of_prefix {l : List Oper} {n g : Nat} {Qp : Act → Prop} {Q' : Exit → Act → World → Prop} (hback : backB md l n = true) (hn : n < l.length)
  (hs : Region.sinkB md l.toArray n = true) (hc : Region.chainB md l.toArray n = true)
  (hdone : ∀ listed a w, C w → HeadInv md l.toArray n listed → (∀ i, i < n → listed.getD i false = true) → Qp a → wpAny P md l.toArray Q' g listed a w) :
  ∀ (f : Nat) (listed listed' : Array Bool) (a : Act) (w : World), C w → HeadInv md l.toArray n listed → listed'.size = n → (∀ i, i < n → listed'.getD i false = listed.getD i false) →
   wpAnyQ P md (l.take n).toArray C Qp f listed' a → wpAny P md l.toArray Q' (f + g) listed a w := by
 have hn' : n < l.toArray.size := by simpa using hn
 have up : ∀ {listed listed' : Array Bool} {i : Nat}, HeadInv md l.toArray n listed → listed'.size = n → (∀ i, i < n → listed'.getD i false = listed.getD i false) → i ∈ Region.ready md (l.take n).toArray listed' → i < n ∧ i ∈ Region.ready md l.toArray listed := by
  intro listed listed' i inv hsz he hi
  obtain ⟨h1, o, h2, h3⟩ := mem_ready.1 hi
  have hin : i < n := by
   have := (Array.getElem?_eq_some_iff.1 h2).1
   simp at this; omega
  obtain ⟨o', ho', _, hd⟩ := backB_at hback hin
  have hoo : l[i]? = some o := by rw [← pre_at hin]; exact h2
  have : o' = o := Option.some.inj (ho'.symm.trans hoo)
  subst this
  refine ⟨hin, mem_ready.2 ⟨getD_in (by rw [inv.size]; omega) (by rw [← he i hin]; exact getD_both h1), o', by simpa using hoo, fun e hee hb => ?_⟩⟩
  have h4 := hd e hee hb
  rw [← he e.on (by omega)]
  exact h3 e hee hb
 have down : ∀ {listed listed' : Array Bool} {i : Nat}, listed'.size = n → (∀ i, i < n → listed'.getD i false = listed.getD i false) → i < n → i ∈ Region.ready md l.toArray listed → i ∈ Region.ready md (l.take n).toArray listed' := by
  intro listed listed' i hsz he hin hi
  obtain ⟨h1, o, h2, h3⟩ := mem_ready.1 hi
  obtain ⟨o', ho', _, hd⟩ := backB_at hback hin
  have hoo : l[i]? = some o := by simpa using h2
  have : o' = o := Option.some.inj (ho'.symm.trans hoo)
  subst this
  refine mem_ready.2 ⟨getD_in (by omega) (by rw [he i hin]; exact getD_both h1), o', by rw [pre_at hin]; exact hoo, fun e hee hb => ?_⟩
  have h4 := hd e hee hb
  rw [he e.on (by omega)]
  exact h3 e hee hb
 intro f
 induction f with
 | zero =>
  intro listed listed' a w hw inv hsz he h
  rw [Nat.zero_add]
  exact hdone listed a w hw inv (fun i hi => by rw [← he i hi]; exact all_listed hback hsz h.1 i hi) h.2
 | succ f ih =>
  intro listed listed' a w hw inv hsz he h
  by_cases hr : Region.ready md (l.take n).toArray listed' = []
  ·exact wpAny_plus (hdone listed a w hw inv (fun i hi => by rw [← he i hi]; exact all_listed hback hsz hr i hi) (h.1 hr)) _
  ·obtain ⟨i0, hi0⟩ := List.exists_mem_of_ne_nil _ hr
   obtain ⟨hin0, hir0⟩ := up inv hsz he hi0
   rw [show f + 1 + g = (f + g) + 1 by omega]
   refine ⟨fun h0 => (by rw [h0] at hir0; cases hir0), fun i hi => ?_⟩
   have hin : i < n := by
    rcases Nat.lt_or_ge i n with h' | h'
    ·exact h'
    ·exact absurd hi (tail_waits hs hc hn' inv _ i0 rfl hin0 (mem_ready.1 hir0).1 i h')
   have hq := h.2 i (down hsz he hin hi)
   obtain ⟨o, ho, hg, _⟩ := backB_at hback hin
   have hw0 : ∀ y, Region.wanted o y = true := fun y => by unfold Region.wanted; rw [hg]
   have hq' : qOp P l.toArray C i (wpAnyQ P md (l.take n).toArray C Qp f (listed'.setIfInBounds i true)) a := by
    unfold qOp at hq ⊢
    rw [pre_at hin, ho] at hq
    rw [show l.toArray[i]? = some o by simpa using ho]
    simp only [hw0] at hq ⊢
    exact hq
   refine wpOp_of_qOp hw (fun a' w' hw' h' => ih _ _ a' w' hw' (inv.set hi hin) (by simpa using hsz) (fun j hj => ?_) h') hq'
   by_cases hij : i = j
   ·subst hij
    rw [Array.getD_eq_getD_getElem?, Array.getD_eq_getD_getElem?]
    simp [hsz, hin, inv.size, show i < l.length by omega]
   ·rw [getD_set_ne false hij, getD_set_ne false hij]; exact he j hj
def tailB (l : List Oper) (n : Nat) : Bool :=
 decide (n < l.length) && backB .any l n && Region.sinkB .any l.toArray n && Region.chainB .any l.toArray n && Region.lexB .any (l.take n).toArray && Region.seqB .any l.toArray (l.length - n) n (Array.replicate n true ++ Array.replicate (l.length - n) false)
theorem wp_region_ext_tail {id : Nat} {Q : Exit → Act → World → Prop} {a : Act} {w : World} {l : List Oper} (n : Nat) (hm : P.follows .mixedOrders = true) (hB : tailB l n = true)
  (h : wpQuiet P (l.take n).toArray (fun w' => ∃ x : Exts w, w' = ext w x) (fun a' => ∀ w', Ext w w' → wpList P l.toArray Q (l.drop n) a' w') (l.take n) a) : (Code.region id l.toArray true).wp P Q a w := by
 simp only [tailB, Bool.and_eq_true, decide_eq_true_eq] at hB
 obtain ⟨⟨⟨⟨⟨hn, hback⟩, hs⟩, hc⟩, hlex⟩, hseq⟩ := hB
 simp only [Region.lexB, Bool.and_eq_true] at hlex
 have htl : (l.take n).length = n := by simp; omega
 have inv0 : HeadInv .any l.toArray n (Array.replicate l.toArray.size false) :=
  ⟨by simp, fun j oj _ hl => (by rw [getD_replicate_false] at hl; cases hl), fun t _ ht => getD_in (by simpa using ht) (getD_replicate_false _ _)⟩
 have H := wpAnyQ_lex (P := P) (C := fun w' => ∃ x : Exts w, w' = ext w x) (md := .any) hlex.1 (l.take n) 0 (Array.replicate (l.take n).toArray.size false) a (by simp) (by simpa using hlex.2) h
 refine wp_region_any hm ?_
 have := wpAny_of_prefix (P := P) (md := .any) (C := fun w' => ∃ x : Exts w, w' = ext w x) (g := l.length - n) (Q' := Q) hback hn hs hc ?_ _ (Array.replicate l.toArray.size false) _ a { w with drawn := w.drawn + 1 } (Exts.of ⟨rfl, rfl, rfl, Nat.le_refl _, fun _ _ => rfl⟩) inv0 (by simp; omega) (fun i _ => by rw [getD_replicate_false, getD_replicate_false]) H
 ·rw [htl, show n + (l.length - n) = l.length by omega] at this
  simpa using this
 ·intro listed a' w' hw' inv hall hq
  have hd : (l.drop n).length = l.length - n := by simp
  rw [← hd]
  obtain ⟨x, rfl⟩ := hw'
  refine wpAny_of_seq (md := .any) (Q' := Q) (l.drop n) n listed a' _ (fun j => by simp [List.getElem?_drop]) ?_ (hq _ (Mod.of_below (ext_below w x)))
  rw [hd]
  have hsz : listed.size = l.length := by rw [inv.size]; simp
  have : listed = Array.replicate n true ++ Array.replicate (l.length - n) false := by
   apply Array.ext
   ·simp [hsz]; omega
   ·intro i h1 h2
    by_cases hin : i < n
    ·have := hall i hin
     rw [Array.getD_eq_getD_getElem?, Array.getElem?_eq_getElem h1] at this
     simp only [Option.getD_some] at this
     rw [this, Array.getElem_append_left (by simpa using hin)]; simp
    ·have := inv.tail i (by omega) (by simp; omega)
     rw [Array.getD_eq_getD_getElem?, Array.getElem?_eq_getElem h1] at this
     simp only [Option.getD_some] at this
     rw [this, Array.getElem_append_right (by simp; omega)]; simp
  rw [this]; exact hseq
end
section
variable {P : Program} {md : Region.Mode} {C : World → Prop}
def sinkFrom (md : Region.Mode) (ops : Array Oper) (n : Nat) : Bool :=
 (List.range n).all fun i => decide (i = 0) || (List.range (n + 1)).any fun j => decide (i < j) && Region.waitsFor md ops j i
theorem tail_waits1 {ops : Array Oper} {n : Nat} {listed : Array Bool} (hs : sinkFrom md ops n = true) (hc : Region.chainB md ops n = true) (hn : n < ops.size) (inv : HeadInv md ops n listed) :
  ∀ (d i : Nat), n - i = d → 0 < i → i < n → listed.getD i true = false → ∀ t, n ≤ t → t ∉ Region.ready md ops listed := by
 intro d
 induction d using Nat.strongRecOn with
 | _ d ih =>
  intro i hd hi0 hi hun t ht hr
  obtain ⟨_, ot, hot, hall⟩ := mem_ready.1 hr
  have htlt : t < ops.size := (Array.getElem?_eq_some_iff.1 hot).1
  by_cases htn : t = n
  ·subst htn
   have h1 := List.all_eq_true.1 hs i (List.mem_range.2 hi)
   simp only [Bool.or_eq_true, decide_eq_true_eq] at h1
   have h1 := h1.resolve_left (by omega)
   obtain ⟨j, hj, hj2⟩ := List.any_eq_true.1 h1
   simp only [Bool.and_eq_true, decide_eq_true_eq] at hj2
   obtain ⟨oj, hoj, e, he, hb, hon⟩ := Region.waitsFor_spec hj2.2
   have hjle : j ≤ t := by have := List.mem_range.1 hj; omega
   by_cases hjt : j = t
   ·subst hjt
    have : oj = ot := Option.some.inj (hoj.symm.trans hot)
    subst this
    have h2 := hall e he hb
    rw [hon, getD_both hun] at h2
    cases h2
   ·cases hl : listed.getD j false with
    | true =>
     have h2 := inv.closed j oj hoj hl e he hb
     rw [hon, getD_both hun] at h2
     cases h2
    | false =>
     have hjs : j < listed.size := by rw [inv.size]; omega
     exact ih (t - j) (by omega) j rfl (by omega) (by omega) (getD_in hjs hl) t (Nat.le_refl _) hr
  ·have h1 := List.all_eq_true.1 hc t (List.mem_range.2 htlt)
   simp only [Bool.or_eq_true, decide_eq_true_eq] at h1
   rcases h1 with h1 | h1
   ·omega
   ·obtain ⟨o', ho', e, he, hb, hon⟩ := Region.waitsFor_spec h1
    have : o' = ot := Option.some.inj (ho'.symm.trans hot)
    subst this
    have h2 := hall e he hb
    rw [hon, getD_both (inv.tail (t - 1) (by omega) (by omega))] at h2
    cases h2
theorem wpAny_of_prefix1 {l : List Oper} {n g : Nat} {Qp : Act → Prop} {Q' : Exit → Act → World → Prop} (hback : backB md l n = true) (hn : n < l.length)
  (hs : sinkFrom md l.toArray n = true) (hc : Region.chainB md l.toArray n = true)
  (hdone : ∀ listed a w, C w → HeadInv md l.toArray n listed → (∀ i, i < n → listed.getD i false = true) → Qp a → wpAny P md l.toArray Q' g listed a w) :
  ∀ (f : Nat) (listed listed' : Array Bool) (a : Act) (w : World), C w → HeadInv md l.toArray n listed → listed.getD 0 false = true → listed'.size = n → (∀ i, i < n → listed'.getD i false = listed.getD i false) →
   wpAnyQ P md (l.take n).toArray C Qp f listed' a → wpAny P md l.toArray Q' (f + g) listed a w := by
 have hn' : n < l.toArray.size := by simpa using hn
 have up : ∀ {listed listed' : Array Bool} {i : Nat}, HeadInv md l.toArray n listed → listed'.size = n → (∀ i, i < n → listed'.getD i false = listed.getD i false) → i ∈ Region.ready md (l.take n).toArray listed' → i < n ∧ i ∈ Region.ready md l.toArray listed := by
  intro listed listed' i inv hsz he hi
  obtain ⟨h1, o, h2, h3⟩ := mem_ready.1 hi
  have hin : i < n := by
   have := (Array.getElem?_eq_some_iff.1 h2).1
   simp at this; omega
  obtain ⟨o', ho', _, hd⟩ := backB_at hback hin
  have hoo : l[i]? = some o := by rw [← pre_at hin]; exact h2
  have : o' = o := Option.some.inj (ho'.symm.trans hoo)
  subst this
  refine ⟨hin, mem_ready.2 ⟨getD_in (by rw [inv.size]; omega) (by rw [← he i hin]; exact getD_both h1), o', by simpa using hoo, fun e hee hb => ?_⟩⟩
  have h4 := hd e hee hb
  rw [← he e.on (by omega)]
  exact h3 e hee hb
 have down : ∀ {listed listed' : Array Bool} {i : Nat}, listed'.size = n → (∀ i, i < n → listed'.getD i false = listed.getD i false) → i < n → i ∈ Region.ready md l.toArray listed → i ∈ Region.ready md (l.take n).toArray listed' := by
  intro listed listed' i hsz he hin hi
  obtain ⟨h1, o, h2, h3⟩ := mem_ready.1 hi
  obtain ⟨o', ho', _, hd⟩ := backB_at hback hin
  have hoo : l[i]? = some o := by simpa using h2
  have : o' = o := Option.some.inj (ho'.symm.trans hoo)
  subst this
  refine mem_ready.2 ⟨getD_in (by omega) (by rw [he i hin]; exact getD_both h1), o', by rw [pre_at hin]; exact hoo, fun e hee hb => ?_⟩
  have h4 := hd e hee hb
  rw [he e.on (by omega)]
  exact h3 e hee hb
 intro f
 induction f with
 | zero =>
  intro listed listed' a w hw inv h00 hsz he h
  rw [Nat.zero_add]
  exact hdone listed a w hw inv (fun i hi => by rw [← he i hi]; exact all_listed hback hsz h.1 i hi) h.2
 | succ f ih =>
  intro listed listed' a w hw inv h00 hsz he h
  by_cases hr : Region.ready md (l.take n).toArray listed' = []
  ·exact wpAny_plus (hdone listed a w hw inv (fun i hi => by rw [← he i hi]; exact all_listed hback hsz hr i hi) (h.1 hr)) _
  ·obtain ⟨i0, hi0⟩ := List.exists_mem_of_ne_nil _ hr
   obtain ⟨hin0, hir0⟩ := up inv hsz he hi0
   have hpos : 0 < i0 := by
    rcases Nat.eq_zero_or_pos i0 with h0 | h0
    ·subst h0
     have h1 := getD_both (mem_ready.1 hir0).1
     rw [h00] at h1; cases h1
    ·exact h0
   rw [show f + 1 + g = (f + g) + 1 by omega]
   refine ⟨fun h0 => (by rw [h0] at hir0; cases hir0), fun i hi => ?_⟩
   have hin : i < n := by
    rcases Nat.lt_or_ge i n with h' | h'
    ·exact h'
    ·exact absurd hi (tail_waits1 hs hc hn' inv _ i0 rfl hpos hin0 (mem_ready.1 hir0).1 i h')
   have hq := h.2 i (down hsz he hin hi)
   obtain ⟨o, ho, hg, _⟩ := backB_at hback hin
   have hw0 : ∀ y, Region.wanted o y = true := fun y => by unfold Region.wanted; rw [hg]
   have hq' : qOp P l.toArray C i (wpAnyQ P md (l.take n).toArray C Qp f (listed'.setIfInBounds i true)) a := by
    unfold qOp at hq ⊢
    rw [pre_at hin, ho] at hq
    rw [show l.toArray[i]? = some o by simpa using ho]
    simp only [hw0] at hq ⊢
    exact hq
   refine wpOp_of_qOp hw (fun a' w' hw' h' => ih _ _ a' w' hw' (inv.set hi hin) (getD_set_true h00) (by simpa using hsz) (fun j hj => ?_) h') hq'
   by_cases hij : i = j
   ·subst hij
    rw [Array.getD_eq_getD_getElem?, Array.getD_eq_getD_getElem?]
    simp [hsz, hin, inv.size, show i < l.length by omega]
   ·rw [getD_set_ne false hij, getD_set_ne false hij]; exact he j hj
def tailB1 (l : List Oper) (n : Nat) : Bool :=
 decide (n < l.length) && backB .any l n && sinkFrom .any l.toArray n && Region.chainB .any l.toArray n && Region.noSelect (l.take n).toArray && Region.lexFrom .any (l.take n).toArray (n - 1) 1 (#[true] ++ Array.replicate (n - 1) false) && Region.seqB .any l.toArray (l.length - n) n (Array.replicate n true ++ Array.replicate (l.length - n) false) && (decide (0 < n) && Region.noSelect l.toArray && Region.free .any l.toArray (Array.replicate l.length false) 0 && (Region.ready .any l.toArray (Array.replicate l.length false)).contains 0)
theorem wp_region_ext_tail1 {id : Nat} {Q : Exit → Act → World → Prop} {a : Act} {w : World} {o : Oper} {l : List Oper} (n : Nat) (v : Value) (x : Operand) (ho : o.op = .move x) (hv : a.eval x = v) (hg : o.guard = none) (hm : P.follows .mixedOrders = true) (hB : tailB1 (o :: l) n = true)
  (hQ' : ∀ v c a w, Q (.panic c) (a.put o.dst v) w → Q (.panic c) a w)
  (h : wpQuiet P ((o :: l).take n).toArray (fun w' => ∃ x : Exts w, w' = ext w x) (fun a' => ∀ w', Ext w w' → wpList P (o :: l).toArray Q ((o :: l).drop n) a' w') (l.take (n - 1)) (a.put o.dst v)) : (Code.region id (o :: l).toArray true).wp P Q a w := by
 subst hv
 simp only [tailB1, Bool.and_eq_true, decide_eq_true_eq] at hB
 obtain ⟨⟨⟨⟨⟨⟨⟨hn, hback⟩, hs⟩, hc⟩, hns⟩, hlex⟩, hseq⟩, ⟨⟨hn0, hns0⟩, hfree⟩, hready⟩ := hB
 have htl : ((o :: l).take n).length = n := by simp at hn ⊢; omega
 have inv0 : HeadInv .any (o :: l).toArray n (Array.replicate (o :: l).toArray.size false) :=
  ⟨by simp, fun j oj _ hl => (by rw [getD_replicate_false] at hl; cases hl), fun t _ ht => getD_in (by simpa using ht) (getD_replicate_false _ _)⟩
 have hr0 : 0 ∈ Region.ready .any (o :: l).toArray (Array.replicate (o :: l).toArray.size false) := by simpa using hready
 have inv1 := inv0.set hr0 hn0
 have htail : (o :: l).take n = o :: l.take (n - 1) := by
  obtain ⟨m, rfl⟩ : ∃ m, n = m + 1 := ⟨n - 1, by omega⟩
  rfl
 have H := wpAnyQ_lex (P := P) (C := fun w' => ∃ x : Exts w, w' = ext w x) (md := .any) hns (l.take (n - 1)) 1 (#[true] ++ Array.replicate (n - 1) false) (a.put o.dst (a.eval x))
  (fun j => by rw [htail, Nat.add_comm 1 j]; simp)
  (by rw [show (l.take (n - 1)).length = n - 1 by simp at hn ⊢; omega]; exact hlex) h
 refine wp_region_any hm ?_
 have hy : Yields P (o :: l).toArray o (a.eval x) a := .inl ⟨by simp [Region.wanted, hg], fun w => BigFrame.run_move x ho w⟩
 have hsz : (o :: l).toArray.size = (o :: l).length := by simp
 have hlen : (o :: l).length = (l.length) + 1 := rfl
 rw [hsz, hlen]
 refine wpAny_take (i := 0) (oi := o) (v := a.eval x) (by simp) hns0 (by rw [← hlen]; exact hfree) (by rw [← hlen]; exact hready) (hQ' _) hy ?_
 have := wpAny_of_prefix1 (P := P) (md := .any) (C := fun w' => ∃ x : Exts w, w' = ext w x) (g := (o :: l).length - n) (Q' := Q) hback hn hs hc ?_ _ ((Array.replicate (o :: l).toArray.size false).setIfInBounds 0 true) _ _ { w with drawn := w.drawn + 1 } (Exts.of ⟨rfl, rfl, rfl, Nat.le_refl _, fun _ _ => rfl⟩) inv1 (by simp) (by simp; omega) (fun i hi => ?_) H
 ·rw [show (l.take (n - 1)).length + ((o :: l).length - n) = l.length by simp at hn ⊢; omega] at this
  simpa using this
 ·intro listed a' w' hw' inv hall hq
  have hd : ((o :: l).drop n).length = (o :: l).length - n := by simp
  rw [← hd]
  obtain ⟨x, rfl⟩ := hw'
  refine wpAny_of_seq (md := .any) (Q' := Q) ((o :: l).drop n) n listed a' _ (fun j => by simp [List.getElem?_drop]) ?_ (hq _ (Mod.of_below (ext_below w x)))
  rw [hd]
  have hsz : listed.size = (o :: l).length := by rw [inv.size]; simp
  have : listed = Array.replicate n true ++ Array.replicate ((o :: l).length - n) false := by
   apply Array.ext
   ·simp at hsz hn ⊢; omega
   ·intro i h1 h2
    by_cases hin : i < n
    ·have := hall i hin
     rw [Array.getD_eq_getD_getElem?, Array.getElem?_eq_getElem h1] at this
     simp only [Option.getD_some] at this
     rw [this, Array.getElem_append_left (by simpa using hin)]; simp
    ·have := inv.tail i (by omega) (by simp at hsz ⊢; omega)
     rw [Array.getD_eq_getD_getElem?, Array.getElem?_eq_getElem h1] at this
     simp only [Option.getD_some] at this
     rw [this, Array.getElem_append_right (by simp; omega)]; simp
  rw [this]; exact hseq
 ·rcases Nat.eq_zero_or_pos i with h0 | h0
  ·subst h0
   rw [Array.getD_eq_getD_getElem?, Array.getElem?_append_left (by simp)]
   simp
  ·rw [getD_set_ne false (by omega), getD_replicate_false, Array.getD_eq_getD_getElem?, Array.getElem?_append_right (by simp; omega), Array.getElem?_replicate]
   split <;> rfl
end
section
variable {P : Program} {md : Region.Mode} {ops : Array Oper} {Q : Exit → Act → World → Prop} {S : Nat → Prop} {w0 : World}
def wpM (P : Program) (md : Region.Mode) (ops : Array Oper) (Q : Exit → Act → World → Prop) (S : Nat → Prop) (w0 : World) : Nat → Array Bool → Act → World → Prop
 | 0, listed, a, w => Region.ready md ops listed = [] ∧ ∀ w', Ext w w' → Q .normal a w'
 | fuel + 1, listed, a, w =>
  (Region.ready md ops listed = [] → ∀ w', Ext w w' → Q .normal a w') ∧
  ∀ i ∈ Region.ready md ops listed, ∀ w', Ext w w' → wpOp P ops Q i (fun a' w'' => (i = ops.size - 1 ∨ Mod S w0 w'') ∧ wpM P md ops Q S w0 fuel (listed.setIfInBounds i true) a' w'') a w'
theorem wpAny_of_M : ∀ (fuel : Nat) (listed : Array Bool) (a : Act) (w : World), wpM P md ops Q S w0 fuel listed a w → wpAny P md ops Q fuel listed a w
 | 0, _, _, w, h => ⟨h.1, h.2 w (Mod.refl _ w)⟩
 | f + 1, _, _, w, h => ⟨fun h0 => h.1 h0 w (Mod.refl _ w), fun i hi => wpOp_mono (fun a' w' h' => wpAny_of_M f _ a' w' h'.2) (h.2 i hi w (Mod.refl _ w))⟩
theorem wpM_ext : ∀ (fuel : Nat) (listed : Array Bool) (a : Act) (w w1 : World), Ext w w1 → wpM P md ops Q S w0 fuel listed a w → wpM P md ops Q S w0 fuel listed a w1
 | 0, _, _, _, _, hx, h => ⟨h.1, fun w' hw' => h.2 w' (hx.ext_trans hw')⟩
 | _ + 1, _, _, _, _, hx, h => ⟨fun h0 w' hw' => h.1 h0 w' (hx.ext_trans hw'), fun i hi w' hw' => h.2 i hi w' (hx.ext_trans hw')⟩
theorem Mod.then {a b c : World} (h : Mod S a b) (k : Ext b c) : Mod S a c := h.trans k (fun _ _ f => f.elim)
def QuietM (P : Program) (ops : Array Oper) (S : Nat → Prop) (w0 : World) (o : Oper) (v : Value) (a : Act) : Prop :=
 (Region.wanted o (yielded ops a.tmps) = true ∧ ∀ w', Mod S w0 w' → QAt P w' v ((execOp a.eval o).run P w')) ∨ (Region.wanted o (yielded ops a.tmps) = false ∧ v = undef)
theorem QuietM.wpOp {i : Nat} {o : Oper} {v : Value} {a : Act} (hi : ops[i]? = some o) (hy : QuietM P ops S w0 o v a) {K : Act → World → Prop} {w : World} (hw : Mod S w0 w) (h : ∀ w2, Ext w w2 → K (a.put o.dst v) w2) : wpOp P ops Q i K a w := by
 unfold Go.wpOp
 rcases hy with hy | ⟨hy, rfl⟩
 ·simp only [hi, hy.1, if_true]
  refine .inl ?_
  unfold Oper.wp
  have h1 := hy.2 w hw
  generalize (execOp a.eval o).run P w = r at *
  cases r with
  | ok n w' =>
   cases n <;> simp only [QAt] at h1
   case value u => obtain ⟨rfl, hx⟩ := h1; simp only [Oper.upon]; exact h _ hx
   case enter f args =>
    obtain ⟨rfl, hc⟩ := h1
    simp only [Oper.upon]
    exact hc.mono fun e w2 ⟨he, hx⟩ => by rw [he]; exact h _ hx
  | halt x w' => simp only [QAt] at h1
 ·simp only [hi, hy, Bool.false_eq_true, if_false]
  exact h w (Mod.refl _ w)
theorem wpOp_putM {j : Nat} {oi oj : Oper} {v : Value} (hj : ops[j]? = some oj) (hap : oi.apart ops oj = true)
  (hsi : ∀ cs b, oi.op ≠ .select cs b) (hsj : ∀ cs b, oj.op ≠ .select cs b)
  (hQ : ∀ c a w, Q (.panic c) (a.put oi.dst v) w → Q (.panic c) a w) {K : Act → World → Prop} {a : Act} {w : World}
  (hy : QuietM P ops S w0 oi v a) (h : wpOp P ops Q j K (a.put oi.dst v) w) :
  wpOp P ops Q j (fun a' w' => QuietM P ops S w0 oi v a' ∧ K (a'.put oi.dst v) w') a w := by
 obtain ⟨h1, h2, h3⟩ := Oper.apart_spec hap
 have keep : ∀ (b : Act), QuietM P ops S w0 oi v b → ∀ u, QuietM P ops S w0 oi v (b.put oj.dst u) := fun b hb u => by
  unfold QuietM at *
  rw [execOp_put oi hsi b oj.dst u h3, wanted_put oi b oj.dst u h3]; exact hb
 have keepD : ∀ d, QuietM P ops S w0 oi v { a with defers := d :: a.defers } := fun _ => hy
 unfold wpOp at *
 simp only [hj] at *
 rw [wanted_put oj a oi.dst v h1] at h
 by_cases hw : Region.wanted oj (yielded ops a.tmps) = true
 ·rw [if_pos hw] at h ⊢
  rcases h with h | ⟨hasks, hlets⟩
  case inr => exact .inr ⟨by unfold Oper.asks at *; rw [execOp_put oj hsj a oi.dst v h1] at hasks; exact hasks, hlets⟩
  refine .inl ?_
  unfold Oper.wp at *
  rw [execOp_put oj hsj a oi.dst v h1] at h
  generalize (execOp a.eval oj).run P w = r at *
  cases r with
  | ok n w' =>
   cases n <;> simp only [Oper.upon] at h ⊢
   case value u => exact ⟨keep a hy u, by rw [← Act.put_comm a v u h2]; exact h⟩
   case skip => exact ⟨keep a hy _, by rw [← Act.put_comm a v undef h2]; exact h⟩
   case defer d => exact ⟨keep _ (keepD d) _, by rw [← Act.put_comm _ v undef h2, ← Act.put_defers]; exact h⟩
   case enter f args =>
    refine Calls.mono h fun e w'' he => ?_
    cases e with
    | returned u => exact ⟨keep a hy u, by rw [← Act.put_comm a v u h2]; exact he⟩
    | panicked c => exact hQ _ _ _ he
    | outgrown => exact he
   case row row args => exact Rows.mono h fun u w'' he => ⟨keep a hy u, by rw [← Act.put_comm a v u h2]; exact he⟩
  | halt x w' =>
   cases x <;> simp only [Oper.upon] at h ⊢
   case panic u => exact hQ _ _ _ h
 ·rw [if_neg hw] at h ⊢
  exact ⟨keep a hy _, by rw [← Act.put_comm a v undef h2]; exact h⟩
theorem wpM_first {i : Nat} {oi : Oper} {v : Value} (hi : ops[i]? = some oi) (hsel : ∀ (j : Nat) (o : Oper) cs b, ops[j]? = some o → o.op ≠ .select cs b)
  (hQ : ∀ c a w, Q (.panic c) (a.put oi.dst v) w → Q (.panic c) a w) (hlast : i = ops.size - 1 ∨ Region.waitsFor md ops (ops.size - 1) i = true) :
  ∀ (fuel : Nat) (listed : Array Bool) (a : Act) (w : World),
   (∀ j oj, ops[j]? = some oj → j ≠ i → listed.getD j true = false → (∀ e ∈ oj.after, Region.binds md e = true → e.on ≠ i) → oi.apart ops oj = true) →
   i ∈ Region.ready md ops listed → QuietM P ops S w0 oi v a → Mod S w0 w →
   wpM P md ops Q S w0 fuel (listed.setIfInBounds i true) (a.put oi.dst v) w → wpM P md ops Q S w0 (fuel + 1) listed a w := by
 intro fuel
 induction fuel with
 | zero =>
  intro listed a w _ hr hy hx H
  refine ⟨fun h => (by rw [h] at hr; cases hr), fun j hj w' hw' => ?_⟩
  by_cases hji : j = i
  ·subst hji
   exact hy.wpOp hi (hx.then hw') fun w2 h2 => ⟨.inr ((hx.then hw').then h2), wpM_ext 0 _ _ _ _ (hw'.ext_trans h2) H⟩
  ·have := ready_mono hj hji
   rw [H.1] at this
   cases this
 | succ fuel ih =>
  intro listed a w hfree hr hy hx H
  refine ⟨fun h => (by rw [h] at hr; cases hr), fun j hj w' hw' => ?_⟩
  by_cases hji : j = i
  ·subst hji
   exact hy.wpOp hi (hx.then hw') fun w2 h2 => ⟨.inr ((hx.then hw').then h2), wpM_ext _ _ _ _ _ (hw'.ext_trans h2) H⟩
  ·have h1 := H.2 j (ready_mono hj hji) w' hw'
   obtain ⟨hjun, oj, hoj, hall⟩ := mem_ready.1 hj
   have hnot : ∀ e ∈ oj.after, Region.binds md e = true → e.on ≠ i := fun e he hb heq => by
    have h1 := hall e he hb
    have h0 := (mem_ready.1 hr).1
    rw [heq] at h1
    rcases Nat.lt_or_ge i listed.size with h' | h'
    ·simp [h'] at h0 h1; rw [h0] at h1; cases h1
    ·simp [Array.getElem?_eq_none h'] at h1
   have hjl : j ≠ ops.size - 1 := fun e => by
    rcases hlast with h | h
    ·exact hji (e.trans h.symm)
    ·obtain ⟨oL, hoL, e', he', hb', hon'⟩ := Region.waitsFor_spec h
     rw [← e] at hoL
     rw [hoj] at hoL
     cases hoL
     exact hnot e' he' hb' hon'
   have h2 := wpOp_putM hoj (hfree j oj hoj hji hjun hnot) (fun cs b => hsel i oi cs b hi) (fun cs b => hsel j oj cs b hoj) hQ hy h1
   have hfree' : ∀ k ok, ops[k]? = some ok → k ≠ i → (listed.setIfInBounds j true).getD k true = false →
     (∀ e ∈ ok.after, Region.binds md e = true → e.on ≠ i) → oi.apart ops ok = true := fun k ok hk hki hun hno => by
    refine hfree k ok hk hki ?_ hno
    by_cases hjk : j = k
    ·subst hjk; exact hjun
    ·rw [getD_set_ne true hjk] at hun; exact hun
   refine wpOp_mono (fun a' w'' h3 => ⟨h3.2.1, ih (listed.setIfInBounds j true) a' w'' hfree' (ready_mono hr (Ne.symm hji)) h3.1 (h3.2.1.resolve_left hjl) ?_⟩) h2
   rw [Array.setIfInBounds_comm _ _ hji]
   exact h3.2.2
theorem wpM_take (i d : Nat) {oi : Oper} {v : Value} {fuel : Nat} {listed : Array Bool} {a : Act} {w : World} (hi : ops[i]? = some oi) (hd : oi.dst = some d)
  (hs : Region.noSelect ops = true) (hf : Region.free md ops listed i = true) (hr : (Region.ready md ops listed).contains i = true) (hl : Region.waitsFor md ops (ops.size - 1) i = true)
  (hQ : ∀ c a w, Q (.panic c) (a.put oi.dst v) w → Q (.panic c) a w) (hx : Mod S w0 w) (hw : Region.wanted oi (yielded ops a.tmps) = true) (hy : ∀ w', Mod S w0 w' → QAt P w' v ((execOp a.eval oi).run P w'))
  (h : wpM P md ops Q S w0 fuel (listed.setIfInBounds i true) (a.put (some d) v) w) : wpM P md ops Q S w0 (fuel + 1) listed a w :=
 wpM_first hi (Region.noSelect_spec hs) hQ (.inr hl) fuel listed a w (Region.free_spec hi hf) (by simpa using hr) (.inl ⟨hw, hy⟩) hx (by rw [hd]; exact h)
theorem wp_region_M (S : Nat → Prop) {id : Nat} {a : Act} {w : World} (hm : P.follows .mixedOrders = true)
  (h : wpM P .any ops Q S w ops.size (Array.replicate ops.size false) a { w with drawn := w.drawn + 1 }) : (Code.region id ops true).wp P Q a w :=
 wp_region_any hm (wpAny_of_M _ _ _ _ h)
theorem mod_draw (w : World) : Mod S w { w with drawn := w.drawn + 1 } := ⟨rfl, rfl, rfl, Nat.le_refl _, fun _ _ _ => rfl⟩
theorem wpM_done {listed : Array Bool} {a : Act} {w : World} (hr : Region.ready md ops listed = []) (h : ∀ w', Ext w w' → Q .normal a w') : ∀ fuel, wpM P md ops Q S w0 fuel listed a w
 | 0 => ⟨hr, h⟩
 | _ + 1 => ⟨fun _ => h, by rw [hr]; simp⟩
theorem wpM_next (i : Nat) {o : Oper} {fuel : Nat} {listed : Array Bool} {a : Act} {w : World} (hi : ops[i]? = some o) (hr : Region.ready md ops listed = [i]) (hw : Region.wanted o (yielded ops a.tmps) = true)
  (h : ∀ w', Ext w w' → Oper.wp P o a w' (fun a' w'' => (i = ops.size - 1 ∨ Mod S w0 w'') ∧ wpM P md ops Q S w0 fuel (listed.setIfInBounds i true) a' w'') Q) : wpM P md ops Q S w0 (fuel + 1) listed a w := by
 refine ⟨fun h0 => (by rw [hr] at h0; cases h0), fun j hj w' hw' => ?_⟩
 rw [hr] at hj
 obtain rfl : j = i := by simpa using hj
 unfold wpOp
 simp only [hi, hw, if_true]
 exact .inl (h w' hw')
theorem wpM_one (i d : Nat) {o : Oper} {fuel : Nat} {listed : Array Bool} {a : Act} {w : World} (hi : ops[i]? = some o) (hd : o.dst = some d) (hr : Region.ready md ops listed = [i]) (hw : Region.wanted o (yielded ops a.tmps) = true)
  (h : ∀ w', Ext w w' → ∃ v w2, (execOp a.eval o).run P w' = .ok (.value v) w2 ∧ (i = ops.size - 1 ∨ Mod S w0 w2) ∧ wpM P md ops Q S w0 fuel (listed.setIfInBounds i true) (a.put (some d) v) w2) : wpM P md ops Q S w0 (fuel + 1) listed a w := by
 refine wpM_next i hi hr hw fun w' hw' => ?_
 obtain ⟨v, w2, hrun, h1, h2⟩ := h w' hw'
 unfold Oper.wp
 rw [hrun]
 simp only [Oper.upon]
 rw [hd]
 exact ⟨h1, h2⟩
theorem wpM_put (i : Nat) {o : Oper} {fuel : Nat} {listed : Array Bool} {a : Act} {w : World} (hi : ops[i]? = some o) (hd : o.dst = none) (hr : Region.ready md ops listed = [i]) (hw : Region.wanted o (yielded ops a.tmps) = true)
  (h : ∀ w', Ext w w' → ∃ w2, (execOp a.eval o).run P w' = .ok .skip w2 ∧ (i = ops.size - 1 ∨ Mod S w0 w2) ∧ wpM P md ops Q S w0 fuel (listed.setIfInBounds i true) a w2) : wpM P md ops Q S w0 (fuel + 1) listed a w := by
 refine wpM_next i hi hr hw fun w' hw' => ?_
 obtain ⟨w2, hrun, h1, h2⟩ := h w' hw'
 unfold Oper.wp
 rw [hrun]
 simp only [Oper.upon]
 rw [hd]
 exact ⟨h1, h2⟩
theorem wpM_append (i d : Nat) {o : Oper} {fuel : Nat} {listed : Array Bool} {a : Act} {w : World} (hi : ops[i]? = some o) (hd : o.dst = some d) (hr : Region.ready md ops listed = [i]) (hw : Region.wanted o (yielded ops a.tmps) = true)
  (s x : Operand) (t : TypeId) (ho : o.op = .call { callee := .builtin .append, args := #[s, x], argTypes := #[t, t] })
  (base : Nat) (e : TypeId) (z : Value) (size bytes : Nat) (hinfo : (P.info? e).map (fun i => (i.zero, i.size, i.bytes)) = some (some z, size, bytes)) (ht : P.underlying t = some (.slice e))
  (hzs : z.cells.size = size) (hsz : 0 < size)
  (v : Value) (n : Nat) (xs : List Value) (hs : a.eval s = v) (ao : Option Addr) (m c : Nat) (news : List Value) (hx : a.eval x = .slice ao m c) (h1 : ∀ u ∈ news, u.oneCell' = true)
  (h63 : n + m ≤ maxLen) (hbytes : (n + m) * bytes ≤ 140737488355328) (hbase : base ≤ w.heap.size)
  (hown : w.ownsRow base e size v n xs) (hrd : Reads w size ao m news) (hm : Mod S w0 w) (hS : ∀ k, v.ownBlock = some k → k < w0.heap.size → S k)
  (h : ∀ wb v' w', Ext w wb → w'.ownsRow base e size v' (n + m) (xs ++ news) → Mod (fun k => v.ownBlock = some k) wb w' → (v'.ownBlock = v.ownBlock ∨ ∀ k, v'.ownBlock = some k → wb.heap.size ≤ k) → wpM P md ops Q S w0 fuel (listed.setIfInBounds i true) (a.put (some d) v') w') :
  wpM P md ops Q S w0 (fuel + 1) listed a w := by
 refine wpM_one i d hi hd hr hw fun wb hwb => ?_
 obtain ⟨v', w', hrun, k1, k2, k3⟩ := run_append_reads (P := P) (w := wb) t o.type base e z size bytes hinfo ht hzs hsz v n xs (ownsRow_mod hown hwb (fun _ _ f => f)) ao m c news (hrd.mod hwb (fun _ _ f => f)) h1 h63 hbytes (Nat.le_trans hbase hwb.size)
 refine ⟨v', w', ?_, .inr ((hm.then hwb).trans k2 (fun j hj hk => hS j hk hj)), h wb v' w' hwb k1 k2 k3⟩
 simp [execOp, ho, resolve, invoke, builtin, hs, hx, hrun, Result.andThen]
theorem wpE_callw (i d : Nat) {o : Oper} {f : FuncId} {args : Array Value} {fuel : Nat} {listed : Array Bool} {a : Act} {w : World} (hi : ops[i]? = some o) (hd : o.dst = some d) (hr : Region.ready md ops listed = [i]) (hw : Region.wanted o (yielded ops a.tmps) = true)
  (hrun : ∀ w', (execOp a.eval o).run P w' = .ok (.enter f args) w')
  (hc : ∀ w', Ext w w' → Calls P f args w' (fun e w'' => ∃ v, e = .returned v ∧ Ext w0 w'' ∧ wpE P md ops Q w0 fuel (listed.setIfInBounds i true) (a.put (some d) v) w'')) : wpE P md ops Q w0 (fuel + 1) listed a w := by
 refine wpE_all hr (by simp) fun j hj w' hw' => ?_
 obtain rfl : j = i := by simpa using hj
 unfold wpOp
 simp only [hi, hw, if_true]
 refine .inl ?_
 unfold Oper.wp
 rw [hrun w']
 simp only [Oper.upon]
 refine (hc w' hw').mono ?_
 rintro e w'' ⟨v, rfl, h1, h2⟩
 rw [hd]
 exact ⟨h1, h2⟩
end
section
variable {P : Program} {md : Region.Mode} {ops : Array Oper} {Q : Exit → Act → World → Prop} {w0 : World}
def wpB (c : Nat) (P : Program) (md : Region.Mode) (ops : Array Oper) (Q : Exit → Act → World → Prop) (w0 : World) : Nat → Array Bool → Act → World → Prop
 | 0, listed, a, w => Region.ready md ops listed = [] ∧ ∀ w', Ext w w' → Q .normal a w'
 | fuel + 1, listed, a, w =>
  (Region.ready md ops listed = [] → ∀ w', Ext w w' → Q .normal a w') ∧
  ∀ i ∈ Region.ready md ops listed, ∀ w', Ext w w' → wpOp P ops Q i (fun a' w'' => (i = c → wpE P md ops Q w'' fuel (listed.setIfInBounds i true) a' w'') ∧ (i ≠ c → Ext w0 w'' ∧ wpB c P md ops Q w0 fuel (listed.setIfInBounds i true) a' w'')) a w'
theorem wpAny_of_B {c : Nat} : ∀ (fuel : Nat) (listed : Array Bool) (a : Act) (w : World), wpB c P md ops Q w0 fuel listed a w → wpAny P md ops Q fuel listed a w
 | 0, _, _, w, h => ⟨h.1, h.2 w (Mod.refl _ w)⟩
 | f + 1, _, _, w, h => ⟨fun h0 => h.1 h0 w (Mod.refl _ w), fun i hi => wpOp_mono (fun a' w' h' => by
   by_cases e : i = c
   ·exact wpAny_of_E f _ a' w' (h'.1 e)
   ·exact wpAny_of_B f _ a' w' (h'.2 e).2) (h.2 i hi w (Mod.refl _ w))⟩
theorem wpB_ext {c : Nat} : ∀ (fuel : Nat) (listed : Array Bool) (a : Act) (w w1 : World), Ext w w1 → wpB c P md ops Q w0 fuel listed a w → wpB c P md ops Q w0 fuel listed a w1
 | 0, _, _, _, _, hx, h => ⟨h.1, fun w' hw' => h.2 w' (hx.ext_trans hw')⟩
 | _ + 1, _, _, _, _, hx, h => ⟨fun h0 w' hw' => h.1 h0 w' (hx.ext_trans hw'), fun i hi w' hw' => h.2 i hi w' (hx.ext_trans hw')⟩
def Closed (md : Region.Mode) (ops : Array Oper) (listed : Array Bool) : Prop := ∀ j oj, ops[j]? = some oj → listed.getD j false = true → ∀ e ∈ oj.after, Region.binds md e = true → listed.getD e.on false = true
def closedB (md : Region.Mode) (ops : Array Oper) (listed : Array Bool) : Bool :=
 (List.range ops.size).all fun j => match ops[j]? with
  | some o => !listed.getD j false || o.after.all fun e => !Region.binds md e || listed.getD e.on false
  | none => true
theorem closed_of {listed : Array Bool} (h : closedB md ops listed = true) : Closed md ops listed := by
 intro j oj hj hl e he hb
 have hlt := (Array.getElem?_eq_some_iff.1 hj).1
 have h1 := List.all_eq_true.1 h j (List.mem_range.2 hlt)
 simp only [hj, hl, Bool.not_true, Bool.false_or] at h1
 have h2 := Array.all_eq_true_iff_forall_mem.1 h1 e he
 rw [hb] at h2
 simpa using h2
theorem closed_step {listed : Array Bool} {j : Nat} (h : Closed md ops listed) (hj : j ∈ Region.ready md ops listed) : Closed md ops (listed.setIfInBounds j true) := by
 intro k ok hk hl e he hb
 obtain ⟨_, oj, hoj, hall⟩ := mem_ready.1 hj
 refine getD_set_true ?_
 by_cases hkj : j = k
 ·subst hkj
  rw [hoj] at hk
  cases hk
  exact hall e he hb
 ·rw [getD_set_ne false hkj] at hl
  exact h k ok hk hl e he hb
def leadsTo (md : Region.Mode) (ops : Array Oper) (c : Nat) : Nat → Nat → Bool
 | 0, i => Region.waitsFor md ops c i
 | f + 1, i => Region.waitsFor md ops c i || (List.range ops.size).any fun j => Region.waitsFor md ops j i && leadsTo md ops c f j
theorem leads_not {c : Nat} {listed : Array Bool} (hcl : Closed md ops listed) : ∀ (f i : Nat), leadsTo md ops c f i = true → listed.getD i false = false → c ∉ Region.ready md ops listed := by
 have base : ∀ i, Region.waitsFor md ops c i = true → listed.getD i false = false → c ∉ Region.ready md ops listed := by
  intro i hw hu hr
  obtain ⟨_, o, ho, hall⟩ := mem_ready.1 hr
  obtain ⟨oL, hoL, e, he, hb, hon⟩ := Region.waitsFor_spec hw
  rw [ho] at hoL
  cases hoL
  have := hall e he hb
  rw [hon, hu] at this
  cases this
 intro f
 induction f with
 | zero => intro i hw hu; exact base i hw hu
 | succ f ih =>
  intro i hw hu
  rw [leadsTo, Bool.or_eq_true] at hw
  rcases hw with hw | hw
  ·exact base i hw hu
  ·obtain ⟨j, _, hj⟩ := List.any_eq_true.1 hw
   rw [Bool.and_eq_true] at hj
   refine ih j hj.2 ?_
   cases hl : listed.getD j false with
   | false => rfl
   | true =>
    obtain ⟨oj, hoj, e, he, hb, hon⟩ := Region.waitsFor_spec hj.1
    have := hcl j oj hoj hl e he hb
    rw [hon, hu] at this
    cases this
theorem wpB_first {c i : Nat} {oi : Oper} {v : Value} (hi : ops[i]? = some oi) (hsel : ∀ (j : Nat) (o : Oper) cs b, ops[j]? = some o → o.op ≠ .select cs b)
  (hQ : ∀ c a w, Q (.panic c) (a.put oi.dst v) w → Q (.panic c) a w) (hic : i ≠ c) {lf : Nat} (hlast : leadsTo md ops c lf i = true) :
  ∀ (fuel : Nat) (listed : Array Bool) (a : Act) (w : World), Closed md ops listed →
   (∀ j oj, ops[j]? = some oj → j ≠ i → listed.getD j true = false → (∀ e ∈ oj.after, Region.binds md e = true → e.on ≠ i) → oi.apart ops oj = true) →
   i ∈ Region.ready md ops listed → QuietE P ops w0 oi v a → Ext w0 w →
   wpB c P md ops Q w0 fuel (listed.setIfInBounds i true) (a.put oi.dst v) w → wpB c P md ops Q w0 (fuel + 1) listed a w := by
 intro fuel
 induction fuel with
 | zero =>
  intro listed a w hcl _ hr hy hx H
  refine ⟨fun h => (by rw [h] at hr; cases hr), fun j hj w' hw' => ?_⟩
  by_cases hji : j = i
  ·subst hji
   exact hy.wpOp hi (hx.ext_trans hw') fun w2 h2 => ⟨fun e => absurd e hic, fun _ => ⟨(hx.ext_trans hw').ext_trans h2, wpB_ext 0 _ _ _ _ (hw'.ext_trans h2) H⟩⟩
  ·have := ready_mono hj hji
   rw [H.1] at this
   cases this
 | succ fuel ih =>
  intro listed a w hcl hfree hr hy hx H
  refine ⟨fun h => (by rw [h] at hr; cases hr), fun j hj w' hw' => ?_⟩
  by_cases hji : j = i
  ·subst hji
   exact hy.wpOp hi (hx.ext_trans hw') fun w2 h2 => ⟨fun e => absurd e hic, fun _ => ⟨(hx.ext_trans hw').ext_trans h2, wpB_ext _ _ _ _ _ (hw'.ext_trans h2) H⟩⟩
  ·have h1 := H.2 j (ready_mono hj hji) w' hw'
   obtain ⟨hjun, oj, hoj, hall⟩ := mem_ready.1 hj
   have hnot : ∀ e ∈ oj.after, Region.binds md e = true → e.on ≠ i := fun e he hb heq => by
    have h1 := hall e he hb
    have h0 := (mem_ready.1 hr).1
    rw [heq] at h1
    rcases Nat.lt_or_ge i listed.size with h' | h'
    ·simp [h'] at h0 h1; rw [h0] at h1; cases h1
    ·simp [Array.getElem?_eq_none h'] at h1
   have hjc : j ≠ c := fun e => by
    subst e
    exact leads_not hcl lf i hlast (getD_both (mem_ready.1 hr).1) hj
   have h2 := wpOp_putE hoj (hfree j oj hoj hji hjun hnot) (fun cs b => hsel i oi cs b hi) (fun cs b => hsel j oj cs b hoj) hQ hy h1
   have hfree' : ∀ k ok, ops[k]? = some ok → k ≠ i → (listed.setIfInBounds j true).getD k true = false →
     (∀ e ∈ ok.after, Region.binds md e = true → e.on ≠ i) → oi.apart ops ok = true := fun k ok hk hki hun hno => by
    refine hfree k ok hk hki ?_ hno
    by_cases hjk : j = k
    ·subst hjk; exact hjun
    ·rw [getD_set_ne true hjk] at hun; exact hun
   refine wpOp_mono (fun a' w'' h3 => ⟨fun e => absurd e hjc, fun _ => ⟨(h3.2.2 hjc).1, ih (listed.setIfInBounds j true) a' w'' (closed_step hcl hj) hfree' (ready_mono hr (Ne.symm hji)) h3.1 (h3.2.2 hjc).1 ?_⟩⟩) h2
   rw [Array.setIfInBounds_comm _ _ hji]
   exact (h3.2.2 hjc).2
theorem wpB_take (c i d : Nat) {oi : Oper} {v : Value} {fuel : Nat} {listed : Array Bool} {a : Act} {w : World} (hi : ops[i]? = some oi) (hd : oi.dst = some d)
  (hs : Region.noSelect ops = true) (hf : Region.free md ops listed i = true) (hr : (Region.ready md ops listed).contains i = true) (hic : i ≠ c) (hl : leadsTo md ops c ops.size i = true) (hcl : closedB md ops listed = true)
  (hQ : ∀ c a w, Q (.panic c) (a.put oi.dst v) w → Q (.panic c) a w) (hx : Ext w0 w) (hw : Region.wanted oi (yielded ops a.tmps) = true) (hy : ∀ w', Ext w0 w' → QAt P w' v ((execOp a.eval oi).run P w'))
  (h : wpB c P md ops Q w0 fuel (listed.setIfInBounds i true) (a.put (some d) v) w) : wpB c P md ops Q w0 (fuel + 1) listed a w :=
 wpB_first hi (Region.noSelect_spec hs) hQ hic hl fuel listed a w (closed_of hcl) (Region.free_spec hi hf) (by simpa using hr) ⟨hw, hy⟩ hx (by rw [hd]; exact h)
theorem wpB_call (c d : Nat) {o : Oper} {f : FuncId} {args : Array Value} {fuel : Nat} {listed : Array Bool} {a : Act} {w : World} (hi : ops[c]? = some o) (hd : o.dst = some d) (hr : Region.ready md ops listed = [c]) (hw : Region.wanted o (yielded ops a.tmps) = true)
  (hrun : ∀ w', (execOp a.eval o).run P w' = .ok (.enter f args) w')
  (hc : ∀ w', Ext w w' → Calls P f args w' (fun e w'' => ∃ v, e = .returned v ∧ wpE P md ops Q w'' fuel (listed.setIfInBounds c true) (a.put (some d) v) w'')) : wpB c P md ops Q w0 (fuel + 1) listed a w := by
 refine ⟨fun h0 => (by rw [hr] at h0; cases h0), fun j hj w' hw' => ?_⟩
 rw [hr] at hj
 obtain rfl : j = c := by simpa using hj
 unfold wpOp
 simp only [hi, hw, if_true]
 refine .inl ?_
 unfold Oper.wp
 rw [hrun w']
 simp only [Oper.upon]
 refine (hc w' hw').mono ?_
 rintro e w'' ⟨v, rfl, h1⟩
 rw [hd]
 exact ⟨fun _ => h1, fun e => absurd rfl e⟩
theorem wp_region_B (c : Nat) {id : Nat} {a : Act} {w : World} (hm : P.follows .mixedOrders = true)
  (h : wpB c P .any ops Q w ops.size (Array.replicate ops.size false) a { w with drawn := w.drawn + 1 }) : (Code.region id ops true).wp P Q a w :=
 wp_region_any hm (wpAny_of_B _ _ _ _ h)
end
end Go.Gim

/- A region that draws its order, whose first operation hands on a slot that its last store alone looks at: that one is taken first; then as in GimTailQ. Conditions: none. -/
import Derived.Test.YtffplppglicibaaGimTailQ
import Derived.Orders
namespace Go.Gim
open Go.RowKit

section
variable {P : Program} {md : Region.Mode} {C : World → Prop}

/-- As sinkB, but the first operation is left out. -/
def sinkFrom (md : Region.Mode) (ops : Array Oper) (n : Nat) : Bool :=
  (List.range n).all fun i => decide (i = 0) || (List.range (n + 1)).any fun j => decide (i < j) && Region.waitsFor md ops j i

theorem tail_waits1 {ops : Array Oper} {n : Nat} {listed : Array Bool} (hs : sinkFrom md ops n = true) (hc : Region.chainB md ops n = true) (hn : n < ops.size) (inv : HeadInv md ops n listed) :
    ∀ (d i : Nat), n - i = d → 0 < i → i < n → listed.getD i true = false → ∀ t, n ≤ t → t ∉ Region.ready md ops listed := by
  intro d
  induction d using Nat.strongRecOn with
  | _ d ih =>
    intro i hd hi0 hi hun t ht hr
    obtain ⟨_, ot, hot, hall⟩ := mem_ready.1 hr
    have htlt : t < ops.size := (Array.getElem?_eq_some_iff.1 hot).1
    by_cases htn : t = n
    · subst htn
      have h1 := List.all_eq_true.1 hs i (List.mem_range.2 hi)
      simp only [Bool.or_eq_true, decide_eq_true_eq] at h1
      have h1 := h1.resolve_left (by omega)
      obtain ⟨j, hj, hj2⟩ := List.any_eq_true.1 h1
      simp only [Bool.and_eq_true, decide_eq_true_eq] at hj2
      obtain ⟨oj, hoj, e, he, hb, hon⟩ := Region.waitsFor_spec hj2.2
      have hjle : j ≤ t := by have := List.mem_range.1 hj; omega
      by_cases hjt : j = t
      · subst hjt
        have : oj = ot := Option.some.inj (hoj.symm.trans hot)
        subst this
        have h2 := hall e he hb
        rw [hon, getD_both hun] at h2
        cases h2
      · cases hl : listed.getD j false with
        | true =>
          have h2 := inv.closed j oj hoj hl e he hb
          rw [hon, getD_both hun] at h2
          cases h2
        | false =>
          have hjs : j < listed.size := by rw [inv.size]; omega
          exact ih (t - j) (by omega) j rfl (by omega) (by omega) (getD_in hjs hl) t (Nat.le_refl _) hr
    · have h1 := List.all_eq_true.1 hc t (List.mem_range.2 htlt)
      simp only [Bool.or_eq_true, decide_eq_true_eq] at h1
      rcases h1 with h1 | h1
      · omega
      · obtain ⟨o', ho', e, he, hb, hon⟩ := Region.waitsFor_spec h1
        have : o' = ot := Option.some.inj (ho'.symm.trans hot)
        subst this
        have h2 := hall e he hb
        rw [hon, getD_both (inv.tail (t - 1) (by omega) (by omega))] at h2
        cases h2

theorem wpAny_of_prefix1 {l : List Oper} {n g : Nat} {Qp : Act → Prop} {Q' : Exit → Act → World → Prop} (hback : backB md l n = true) (hn : n < l.length)
    (hs : sinkFrom md l.toArray n = true) (hc : Region.chainB md l.toArray n = true)
    (hdone : ∀ listed a w, C w → HeadInv md l.toArray n listed → (∀ i, i < n → listed.getD i false = true) → Qp a → wpAny P md l.toArray Q' g listed a w) :
    ∀ (f : Nat) (listed listed' : Array Bool) (a : Act) (w : World), C w → HeadInv md l.toArray n listed → listed.getD 0 false = true → listed'.size = n → (∀ i, i < n → listed'.getD i false = listed.getD i false) →
      wpAnyQ P md (l.take n).toArray C Qp f listed' a → wpAny P md l.toArray Q' (f + g) listed a w := by
  have hn' : n < l.toArray.size := by simpa using hn
  have up : ∀ {listed listed' : Array Bool} {i : Nat}, HeadInv md l.toArray n listed → listed'.size = n → (∀ i, i < n → listed'.getD i false = listed.getD i false) → i ∈ Region.ready md (l.take n).toArray listed' → i < n ∧ i ∈ Region.ready md l.toArray listed := by
    intro listed listed' i inv hsz he hi
    obtain ⟨h1, o, h2, h3⟩ := mem_ready.1 hi
    have hin : i < n := by
      have := (Array.getElem?_eq_some_iff.1 h2).1
      simp at this; omega
    obtain ⟨o', ho', _, hd⟩ := backB_at hback hin
    have hoo : l[i]? = some o := by rw [← pre_at hin]; exact h2
    have : o' = o := Option.some.inj (ho'.symm.trans hoo)
    subst this
    refine ⟨hin, mem_ready.2 ⟨getD_in (by rw [inv.size]; omega) (by rw [← he i hin]; exact getD_both h1), o', by simpa using hoo, fun e hee hb => ?_⟩⟩
    have h4 := hd e hee hb
    rw [← he e.on (by omega)]
    exact h3 e hee hb
  have down : ∀ {listed listed' : Array Bool} {i : Nat}, listed'.size = n → (∀ i, i < n → listed'.getD i false = listed.getD i false) → i < n → i ∈ Region.ready md l.toArray listed → i ∈ Region.ready md (l.take n).toArray listed' := by
    intro listed listed' i hsz he hin hi
    obtain ⟨h1, o, h2, h3⟩ := mem_ready.1 hi
    obtain ⟨o', ho', _, hd⟩ := backB_at hback hin
    have hoo : l[i]? = some o := by simpa using h2
    have : o' = o := Option.some.inj (ho'.symm.trans hoo)
    subst this
    refine mem_ready.2 ⟨getD_in (by omega) (by rw [he i hin]; exact getD_both h1), o', by rw [pre_at hin]; exact hoo, fun e hee hb => ?_⟩
    have h4 := hd e hee hb
    rw [he e.on (by omega)]
    exact h3 e hee hb
  intro f
  induction f with
  | zero =>
    intro listed listed' a w hw inv h00 hsz he h
    rw [Nat.zero_add]
    exact hdone listed a w hw inv (fun i hi => by rw [← he i hi]; exact all_listed hback hsz h.1 i hi) h.2
  | succ f ih =>
    intro listed listed' a w hw inv h00 hsz he h
    by_cases hr : Region.ready md (l.take n).toArray listed' = []
    · exact wpAny_plus (hdone listed a w hw inv (fun i hi => by rw [← he i hi]; exact all_listed hback hsz hr i hi) (h.1 hr)) _
    · obtain ⟨i0, hi0⟩ := List.exists_mem_of_ne_nil _ hr
      obtain ⟨hin0, hir0⟩ := up inv hsz he hi0
      have hpos : 0 < i0 := by
        rcases Nat.eq_zero_or_pos i0 with h0 | h0
        · subst h0
          have h1 := getD_both (mem_ready.1 hir0).1
          rw [h00] at h1; cases h1
        · exact h0
      rw [show f + 1 + g = (f + g) + 1 by omega]
      refine ⟨fun h0 => (by rw [h0] at hir0; cases hir0), fun i hi => ?_⟩
      have hin : i < n := by
        rcases Nat.lt_or_ge i n with h' | h'
        · exact h'
        · exact absurd hi (tail_waits1 hs hc hn' inv _ i0 rfl hpos hin0 (mem_ready.1 hir0).1 i h')
      have hq := h.2 i (down hsz he hin hi)
      obtain ⟨o, ho, hg, _⟩ := backB_at hback hin
      have hw0 : ∀ y, Region.wanted o y = true := fun y => by unfold Region.wanted; rw [hg]
      have hq' : qOp P l.toArray C i (wpAnyQ P md (l.take n).toArray C Qp f (listed'.setIfInBounds i true)) a := by
        unfold qOp at hq ⊢
        rw [pre_at hin, ho] at hq
        rw [show l.toArray[i]? = some o by simpa using ho]
        simp only [hw0] at hq ⊢
        exact hq
      refine wpOp_of_qOp hw (fun a' w' hw' h' => ih _ _ a' w' hw' (inv.set hi hin) (getD_set_true h00) (by simpa using hsz) (fun j hj => ?_) h') hq'
      by_cases hij : i = j
      · subst hij
        rw [Array.getD_eq_getD_getElem?, Array.getD_eq_getD_getElem?]
        simp [hsz, hin, inv.size, show i < l.length by omega]
      · rw [getD_set_ne false hij, getD_set_ne false hij]; exact he j hj

def tailB1 (l : List Oper) (n : Nat) : Bool :=
  decide (n < l.length) && backB .any l n && sinkFrom .any l.toArray n && Region.chainB .any l.toArray n && Region.noSelect (l.take n).toArray && Region.lexFrom .any (l.take n).toArray (n - 1) 1 (#[true] ++ Array.replicate (n - 1) false) && Region.seqB .any l.toArray (l.length - n) n (Array.replicate n true ++ Array.replicate (l.length - n) false) && (decide (0 < n) && Region.noSelect l.toArray && Region.free .any l.toArray (Array.replicate l.length false) 0 && (Region.ready .any l.toArray (Array.replicate l.length false)).contains 0)

/-- The first operation hands on a slot; those up to n only make new memory; those behind them come in the text's order. -/
theorem wp_region_ext_tail1 {id : Nat} {Q : Exit → Act → World → Prop} {a : Act} {w : World} {o : Oper} {l : List Oper} (n : Nat) (v : Value) (x : Operand) (ho : o.op = .move x) (hv : a.eval x = v) (hg : o.guard = none) (hm : P.follows .mixedOrders = true) (hB : tailB1 (o :: l) n = true)
    (hQ' : ∀ v c a w, Q (.panic c) (a.put o.dst v) w → Q (.panic c) a w)
    (h : wpQuiet P ((o :: l).take n).toArray (fun w' => ∃ x : Exts w, w' = ext w x) (fun a' => ∀ w', Ext w w' → wpList P (o :: l).toArray Q ((o :: l).drop n) a' w') (l.take (n - 1)) (a.put o.dst v)) : (Code.region id (o :: l).toArray true).wp P Q a w := by
  subst hv
  simp only [tailB1, Bool.and_eq_true, decide_eq_true_eq] at hB
  obtain ⟨⟨⟨⟨⟨⟨⟨hn, hback⟩, hs⟩, hc⟩, hns⟩, hlex⟩, hseq⟩, ⟨⟨hn0, hns0⟩, hfree⟩, hready⟩ := hB
  have htl : ((o :: l).take n).length = n := by simp at hn ⊢; omega
  have inv0 : HeadInv .any (o :: l).toArray n (Array.replicate (o :: l).toArray.size false) :=
    ⟨by simp, fun j oj _ hl => (by rw [getD_replicate_false] at hl; cases hl), fun t _ ht => getD_in (by simpa using ht) (getD_replicate_false _ _)⟩
  have hr0 : 0 ∈ Region.ready .any (o :: l).toArray (Array.replicate (o :: l).toArray.size false) := by simpa using hready
  have inv1 := inv0.set hr0 hn0
  have htail : (o :: l).take n = o :: l.take (n - 1) := by
    obtain ⟨m, rfl⟩ : ∃ m, n = m + 1 := ⟨n - 1, by omega⟩
    rfl
  have H := wpAnyQ_lex (P := P) (C := fun w' => ∃ x : Exts w, w' = ext w x) (md := .any) hns (l.take (n - 1)) 1 (#[true] ++ Array.replicate (n - 1) false) (a.put o.dst (a.eval x))
    (fun j => by rw [htail, Nat.add_comm 1 j]; simp)
    (by rw [show (l.take (n - 1)).length = n - 1 by simp at hn ⊢; omega]; exact hlex) h
  refine wp_region_any hm ?_
  have hy : Yields P (o :: l).toArray o (a.eval x) a := .inl ⟨by simp [Region.wanted, hg], fun w => BigFrame.run_move x ho w⟩
  have hsz : (o :: l).toArray.size = (o :: l).length := by simp
  have hlen : (o :: l).length = (l.length) + 1 := rfl
  rw [hsz, hlen]
  refine wpAny_take (i := 0) (oi := o) (v := a.eval x) (by simp) hns0 (by rw [← hlen]; exact hfree) (by rw [← hlen]; exact hready) (hQ' _) hy ?_
  have := wpAny_of_prefix1 (P := P) (md := .any) (C := fun w' => ∃ x : Exts w, w' = ext w x) (g := (o :: l).length - n) (Q' := Q) hback hn hs hc ?_ _ ((Array.replicate (o :: l).toArray.size false).setIfInBounds 0 true) _ _ { w with drawn := w.drawn + 1 } (Exts.of ⟨rfl, rfl, rfl, Nat.le_refl _, fun _ _ => rfl⟩) inv1 (by simp) (by simp; omega) (fun i hi => ?_) H
  · rw [show (l.take (n - 1)).length + ((o :: l).length - n) = l.length by simp at hn ⊢; omega] at this
    simpa using this
  · intro listed a' w' hw' inv hall hq
    have hd : ((o :: l).drop n).length = (o :: l).length - n := by simp
    rw [← hd]
    obtain ⟨x, rfl⟩ := hw'
    refine wpAny_of_seq (md := .any) (Q' := Q) ((o :: l).drop n) n listed a' _ (fun j => by simp [List.getElem?_drop]) ?_ (hq _ (Mod.of_below (ext_below w x)))
    rw [hd]
    have hsz : listed.size = (o :: l).length := by rw [inv.size]; simp
    have : listed = Array.replicate n true ++ Array.replicate ((o :: l).length - n) false := by
      apply Array.ext
      · simp at hsz hn ⊢; omega
      · intro i h1 h2
        by_cases hin : i < n
        · have := hall i hin
          rw [Array.getD_eq_getD_getElem?, Array.getElem?_eq_getElem h1] at this
          simp only [Option.getD_some] at this
          rw [this, Array.getElem_append_left (by simpa using hin)]; simp
        · have := inv.tail i (by omega) (by simp at hsz ⊢; omega)
          rw [Array.getD_eq_getD_getElem?, Array.getElem?_eq_getElem h1] at this
          simp only [Option.getD_some] at this
          rw [this, Array.getElem_append_right (by simp; omega)]; simp
    rw [this]; exact hseq
  · rcases Nat.eq_zero_or_pos i with h0 | h0
    · subst h0
      rw [Array.getD_eq_getD_getElem?, Array.getElem?_append_left (by simp)]
      simp
    · rw [getD_set_ne false (by omega), getD_replicate_false, Array.getD_eq_getD_getElem?, Array.getElem?_append_right (by simp; omega), Array.getElem?_replicate]
      split <;> rfl
end
end Go.Gim

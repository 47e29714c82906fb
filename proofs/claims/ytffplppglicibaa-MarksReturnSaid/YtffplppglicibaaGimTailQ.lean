/- A region that draws its order: what comes first only makes new memory, each operation with one value in every such world; what stands at its end waits for all of it and comes in one order. Conditions: none. -/
import Derived.Test.YtffplppglicibaaGimTail
namespace Go.Gim
open Go.RowKit

instance (w : World) : Nonempty (Exts w) := ⟨⟨w, ⟨rfl, rfl, rfl, Nat.le_refl _, fun _ _ => rfl⟩⟩⟩

section
variable {P : Program} {md : Region.Mode} {C : World → Prop}

theorem wpAny_more {ops : Array Oper} {Q : Exit → Act → World → Prop} : ∀ (f : Nat) (listed : Array Bool) (a : Act) (w : World), wpAny P md ops Q f listed a w → wpAny P md ops Q (f + 1) listed a w
  | 0, _, _, _, h => ⟨fun _ => h.2, fun i hi => by rw [h.1] at hi; cases hi⟩
  | f + 1, _, _, _, h => ⟨h.1, fun i hi => wpOp_mono (fun a w h' => wpAny_more f _ a w h') (h.2 i hi)⟩
theorem wpAny_plus {ops : Array Oper} {Q : Exit → Act → World → Prop} {g : Nat} {listed : Array Bool} {a : Act} {w : World} (h : wpAny P md ops Q g listed a w) : ∀ f, wpAny P md ops Q (f + g) listed a w
  | 0 => by rw [Nat.zero_add]; exact h
  | f + 1 => by rw [show f + 1 + g = f + g + 1 by omega]; exact wpAny_more _ _ _ _ (wpAny_plus h f)

/-- Each operation waits for such alone as stand ahead of it; none of the first n has a guard. -/
def backB (md : Region.Mode) (l : List Oper) (n : Nat) : Bool :=
  (List.range n).all fun i => match l[i]? with
    | some o => o.guard.isNone && o.after.all (fun e => !Region.binds md e || decide (e.on < i))
    | none => false

theorem backB_at {l : List Oper} {n i : Nat} (h : backB md l n = true) (hi : i < n) :
    ∃ o, l[i]? = some o ∧ o.guard = none ∧ ∀ e ∈ o.after, Region.binds md e = true → e.on < i := by
  have h1 := List.all_eq_true.1 h i (List.mem_range.2 hi)
  cases ho : l[i]? with
  | none => rw [ho] at h1; cases h1
  | some o =>
    rw [ho] at h1
    simp only [Bool.and_eq_true, Option.isNone_iff_eq_none, Array.all_eq_true_iff_forall_mem, Bool.or_eq_true, Bool.not_eq_true', decide_eq_true_eq] at h1
    refine ⟨o, rfl, h1.1, fun e he hb => ?_⟩
    rcases h1.2 e he with h2 | h2
    · rw [hb] at h2; cases h2
    · exact h2

theorem pre_at {l : List Oper} {n i : Nat} (hi : i < n) : (l.take n).toArray[i]? = l[i]? := by simp [hi]

theorem all_listed {l : List Oper} {n : Nat} {listed' : Array Bool} (hback : backB md l n = true) (hsz : listed'.size = n) (hr : Region.ready md (l.take n).toArray listed' = []) : ∀ i, i < n → listed'.getD i false = true := by
  intro i
  induction i using Nat.strongRecOn with
  | _ i ih =>
    intro hi
    cases hl : listed'.getD i false with
    | true => rfl
    | false =>
      obtain ⟨o, ho, _, hd⟩ := backB_at hback hi
      have : i ∈ Region.ready md (l.take n).toArray listed' := mem_ready.2 ⟨getD_in (by omega) hl, o, by rw [pre_at hi, ho], fun e he hb => ih e.on (hd e he hb) (by have := hd e he hb; omega)⟩
      rw [hr] at this; cases this

theorem wpAny_of_prefix {l : List Oper} {n g : Nat} {Qp : Act → Prop} {Q' : Exit → Act → World → Prop} (hback : backB md l n = true) (hn : n < l.length)
    (hs : Region.sinkB md l.toArray n = true) (hc : Region.chainB md l.toArray n = true)
    (hdone : ∀ listed a w, C w → HeadInv md l.toArray n listed → (∀ i, i < n → listed.getD i false = true) → Qp a → wpAny P md l.toArray Q' g listed a w) :
    ∀ (f : Nat) (listed listed' : Array Bool) (a : Act) (w : World), C w → HeadInv md l.toArray n listed → listed'.size = n → (∀ i, i < n → listed'.getD i false = listed.getD i false) →
      wpAnyQ P md (l.take n).toArray C Qp f listed' a → wpAny P md l.toArray Q' (f + g) listed a w := by
  have hn' : n < l.toArray.size := by simpa using hn
  have up : ∀ {listed listed' : Array Bool} {i : Nat}, HeadInv md l.toArray n listed → listed'.size = n → (∀ i, i < n → listed'.getD i false = listed.getD i false) → i ∈ Region.ready md (l.take n).toArray listed' → i < n ∧ i ∈ Region.ready md l.toArray listed := by
    intro listed listed' i inv hsz he hi
    obtain ⟨h1, o, h2, h3⟩ := mem_ready.1 hi
    have hin : i < n := by
      have := (Array.getElem?_eq_some_iff.1 h2).1
      simp at this; omega
    obtain ⟨o', ho', _, hd⟩ := backB_at hback hin
    have hoo : l[i]? = some o := by rw [← pre_at hin]; exact h2
    have : o' = o := Option.some.inj (ho'.symm.trans hoo)
    subst this
    refine ⟨hin, mem_ready.2 ⟨getD_in (by rw [inv.size]; omega) (by rw [← he i hin]; exact getD_both h1), o', by simpa using hoo, fun e hee hb => ?_⟩⟩
    have h4 := hd e hee hb
    rw [← he e.on (by omega)]
    exact h3 e hee hb
  have down : ∀ {listed listed' : Array Bool} {i : Nat}, listed'.size = n → (∀ i, i < n → listed'.getD i false = listed.getD i false) → i < n → i ∈ Region.ready md l.toArray listed → i ∈ Region.ready md (l.take n).toArray listed' := by
    intro listed listed' i hsz he hin hi
    obtain ⟨h1, o, h2, h3⟩ := mem_ready.1 hi
    obtain ⟨o', ho', _, hd⟩ := backB_at hback hin
    have hoo : l[i]? = some o := by simpa using h2
    have : o' = o := Option.some.inj (ho'.symm.trans hoo)
    subst this
    refine mem_ready.2 ⟨getD_in (by omega) (by rw [he i hin]; exact getD_both h1), o', by rw [pre_at hin]; exact hoo, fun e hee hb => ?_⟩
    have h4 := hd e hee hb
    rw [he e.on (by omega)]
    exact h3 e hee hb
  intro f
  induction f with
  | zero =>
    intro listed listed' a w hw inv hsz he h
    rw [Nat.zero_add]
    exact hdone listed a w hw inv (fun i hi => by rw [← he i hi]; exact all_listed hback hsz h.1 i hi) h.2
  | succ f ih =>
    intro listed listed' a w hw inv hsz he h
    by_cases hr : Region.ready md (l.take n).toArray listed' = []
    · exact wpAny_plus (hdone listed a w hw inv (fun i hi => by rw [← he i hi]; exact all_listed hback hsz hr i hi) (h.1 hr)) _
    · obtain ⟨i0, hi0⟩ := List.exists_mem_of_ne_nil _ hr
      obtain ⟨hin0, hir0⟩ := up inv hsz he hi0
      rw [show f + 1 + g = (f + g) + 1 by omega]
      refine ⟨fun h0 => (by rw [h0] at hir0; cases hir0), fun i hi => ?_⟩
      have hin : i < n := by
        rcases Nat.lt_or_ge i n with h' | h'
        · exact h'
        · exact absurd hi (tail_waits hs hc hn' inv _ i0 rfl hin0 (mem_ready.1 hir0).1 i h')
      have hq := h.2 i (down hsz he hin hi)
      obtain ⟨o, ho, hg, _⟩ := backB_at hback hin
      have hw0 : ∀ y, Region.wanted o y = true := fun y => by unfold Region.wanted; rw [hg]
      have hq' : qOp P l.toArray C i (wpAnyQ P md (l.take n).toArray C Qp f (listed'.setIfInBounds i true)) a := by
        unfold qOp at hq ⊢
        rw [pre_at hin, ho] at hq
        rw [show l.toArray[i]? = some o by simpa using ho]
        simp only [hw0] at hq ⊢
        exact hq
      refine wpOp_of_qOp hw (fun a' w' hw' h' => ih _ _ a' w' hw' (inv.set hi hin) (by simpa using hsz) (fun j hj => ?_) h') hq'
      by_cases hij : i = j
      · subst hij
        rw [Array.getD_eq_getD_getElem?, Array.getD_eq_getD_getElem?]
        simp [hsz, hin, inv.size, show i < l.length by omega]
      · rw [getD_set_ne false hij, getD_set_ne false hij]; exact he j hj

def tailB (l : List Oper) (n : Nat) : Bool :=
  decide (n < l.length) && backB .any l n && Region.sinkB .any l.toArray n && Region.chainB .any l.toArray n && Region.lexB .any (l.take n).toArray && Region.seqB .any l.toArray (l.length - n) n (Array.replicate n true ++ Array.replicate (l.length - n) false)

/-- The first n operations only make new memory; those behind them come in the text's order. -/
theorem wp_region_ext_tail {id : Nat} {Q : Exit → Act → World → Prop} {a : Act} {w : World} {l : List Oper} (n : Nat) (hm : P.follows .mixedOrders = true) (hB : tailB l n = true)
    (h : wpQuiet P (l.take n).toArray (fun w' => ∃ x : Exts w, w' = ext w x) (fun a' => ∀ w', Ext w w' → wpList P l.toArray Q (l.drop n) a' w') (l.take n) a) : (Code.region id l.toArray true).wp P Q a w := by
  simp only [tailB, Bool.and_eq_true, decide_eq_true_eq] at hB
  obtain ⟨⟨⟨⟨⟨hn, hback⟩, hs⟩, hc⟩, hlex⟩, hseq⟩ := hB
  simp only [Region.lexB, Bool.and_eq_true] at hlex
  have htl : (l.take n).length = n := by simp; omega
  have inv0 : HeadInv .any l.toArray n (Array.replicate l.toArray.size false) :=
    ⟨by simp, fun j oj _ hl => (by rw [getD_replicate_false] at hl; cases hl), fun t _ ht => getD_in (by simpa using ht) (getD_replicate_false _ _)⟩
  have H := wpAnyQ_lex (P := P) (C := fun w' => ∃ x : Exts w, w' = ext w x) (md := .any) hlex.1 (l.take n) 0 (Array.replicate (l.take n).toArray.size false) a (by simp) (by simpa using hlex.2) h
  refine wp_region_any hm ?_
  have := wpAny_of_prefix (P := P) (md := .any) (C := fun w' => ∃ x : Exts w, w' = ext w x) (g := l.length - n) (Q' := Q) hback hn hs hc ?_ _ (Array.replicate l.toArray.size false) _ a { w with drawn := w.drawn + 1 } (Exts.of ⟨rfl, rfl, rfl, Nat.le_refl _, fun _ _ => rfl⟩) inv0 (by simp; omega) (fun i _ => by rw [getD_replicate_false, getD_replicate_false]) H
  · rw [htl, show n + (l.length - n) = l.length by omega] at this
    simpa using this
  · intro listed a' w' hw' inv hall hq
    have hd : (l.drop n).length = l.length - n := by simp
    rw [← hd]
    obtain ⟨x, rfl⟩ := hw'
    refine wpAny_of_seq (md := .any) (Q' := Q) (l.drop n) n listed a' _ (fun j => by simp [List.getElem?_drop]) ?_ (hq _ (Mod.of_below (ext_below w x)))
    rw [hd]
    have hsz : listed.size = l.length := by rw [inv.size]; simp
    have : listed = Array.replicate n true ++ Array.replicate (l.length - n) false := by
      apply Array.ext
      · simp [hsz]; omega
      · intro i h1 h2
        by_cases hin : i < n
        · have := hall i hin
          rw [Array.getD_eq_getD_getElem?, Array.getElem?_eq_getElem h1] at this
          simp only [Option.getD_some] at this
          rw [this, Array.getElem_append_left (by simpa using hin)]; simp
        · have := inv.tail i (by omega) (by simp; omega)
          rw [Array.getD_eq_getD_getElem?, Array.getElem?_eq_getElem h1] at this
          simp only [Option.getD_some] at this
          rw [this, Array.getElem_append_right (by simp; omega)]; simp
    rw [this]; exact hseq
end
end Go.Gim

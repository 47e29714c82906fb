/- From a call that answers true and leaves all that was there as it was, to the statement's row: what all laws of this claim share. Conditions: none. -/
import Derived.Test.YthfckncbhkcblaaRows
import Derived.Test.YthfckncbhkcblaaGimBase
import Derived.ProofKit
namespace Go.Proofs.Ythfckncbhkcblaa
open Go.ChangeShapes Go.WideShapes Go.ChangeAt Go.RowKit Go.Gim

theorem Try.own : ownKnob Try.prog.godebug = none := by kernel_rfl
theorem Try.laidOut : laidOutB Try.prog = true := by kernel_rfl

theorem trodAll_below {H : Type} {enc : TypeId × Value → H} {P : Program} (hl : laidOutB P = true) {W W' : World} (hb : Below W.heap.size W W') : ∀ (ts : List TypeId) (vs : List Value) (ds : List (DataW H)) (ps : List MemPlace),
    (ts.all fun t => P.readableRec t && decide (t < P.types.size)) = true → DataW.TrodAll enc P W 0 (fun _ => true) true ts vs ds ps → (∀ x ∈ ps, x.block < W.heap.size) →
    DataW.TrodAll enc P W' 0 (fun b => decide (b < W.heap.size)) true ts vs ds ps := by
  intro ts
  induction ts with
  | nil =>
    intro vs ds ps _ h _
    cases vs <;> cases ds <;> simp [DataW.TrodAll] at h ⊢
    exact h
  | cons t ts ih =>
    intro vs ds ps hall h hlt
    obtain ⟨v, vs', d, ds', p, q, rfl, rfl, rfl, h1, h2⟩ := trodAll_cons h
    simp only [List.all_cons, Bool.and_eq_true, decide_eq_true_eq] at hall
    have g1 := Below.trod hl hall.1.1 hall.1.2 h1 hb (fun x hx => hlt x (List.mem_append.2 (.inl hx)))
    have g2 := ih vs' ds' q (by simpa using hall.2) h2 (fun x hx => hlt x (List.mem_append.2 (.inr hx)))
    simp only [DataW.TrodAll]
    exact ⟨p, q, g1, g2, rfl⟩

/-- The end of a law: it answers true, and nothing that was there has turned. -/
theorem law_post {H : Type} {enc : TypeId × Value → H} {P : Program} {fn : Func} {s : ChangeSpec} {F : Nat} {tb : TypeId} (hl : laidOutB P = true) (hts : (fn.params.toList.all fun t => P.readableRec t && decide (t < P.types.size)) = true)
    (hres : fn.resultTypes = #[tb]) (htb : P.underlying tb = some .bool) (hvars : s.vars = [])
    {W : World} {args : Array Value} {ds gs : List (DataW H)} {before : List MemPlace} (hW : DataW.Whole enc P fn.params.toList s.vars false W args.toList ds gs before)
    (hfn : s.fn H (ds ++ []) = { results := [.lit (.bool true)], args := ds })
    (hc : Calls P F args W fun e W' => e = .returned (.bool true) ∧ Ext W W') :
    Calls P F args W fun e W' => ∃ v, e = .returned v ∧ s.post enc P fn false true false false W args v W' := by
  refine hc.mono fun e W' ⟨he, hx⟩ => ?_
  refine ⟨.bool true, he, ?_⟩
  have hW' := hW
  obtain ⟨p, q, hA, hV, rfl, hz, hn⟩ := hW
  rw [hvars] at hV
  obtain ⟨rfl, rfl⟩ := trodVars_none hV
  have hlt : ∀ x ∈ p, x.block < W.heap.size := fun x hx => by simpa using hW'.lt x (List.mem_append.2 (.inl hx))
  have hargs := trodAll_below hl hx.below _ _ _ _ hts hA hlt
  refine ⟨ds, [], p ++ [], [], p, [], hW', ?_, ?_, ?_, hx.below.frame _, fun h => by cases h⟩
  · rw [hfn, hres]
    exact trodAll_mk1 (shut_bool htb true)
  · rw [hfn]; exact hargs
  · rw [hfn, hvars]; rfl

/-- A slice of integers that came in: it reads as a list. -/
theorem open_ints_reads {H : Type} {enc : TypeId × Value → H} {P : Program} {W : World} {b0 : Nat} {t e : TypeId} {k : IntKind} {v : Value} {d : DataW H} {ps : List MemPlace} (ht : P.underlying t = some (.slice e)) (he : P.underlying e = some (.int k)) (hc : P.cellsOf e = 1)
    (hval : Value.okWide P W .any b0 t v) (hd : DataW.Trod enc P W 0 (fun _ => true) true t v d ps) :
    ∃ (ao : Option Addr) (cap : Nat) (zs : List Int), v = .slice ao zs.length cap ∧ Reads W 1 ao zs.length (zs.map (Value.int k)) ∧ zs.length ≤ maxLen ∧ (∀ n ∈ zs, (Lit.int k n).wf = true) := by
  obtain ⟨a0, len, cap, rfl⟩ := okWide_slice ht hval
  obtain ⟨fuel, hf⟩ := hd
  rcases open_ints ht he hc hf with ⟨hcs, _⟩ | ⟨a, len', cap', zs, hcs, _, hl, hm, hz, _, hcell, hwz⟩
  · simp [Value.cells] at hcs
    obtain ⟨rfl, rfl, rfl⟩ := hcs
    exact ⟨none, 0, [], rfl, ⟨rfl, fun h => absurd h (Nat.lt_irrefl _)⟩, Nat.zero_le _, by simp⟩
  · simp [Value.cells] at hcs
    obtain ⟨rfl, rfl, rfl⟩ := hcs
    simp only [if_true] at hz
    have hlen : (zs.take len).length = len := by simp; omega
    refine ⟨some a, cap, zs.take len, by rw [hlen], ⟨by simp, fun h0 => ?_⟩, by omega, fun n hn => hwz n (List.mem_of_mem_take hn)⟩
    obtain ⟨b, off, spot⟩ := a
    have hspot : spot = none := by simpa [Addr.add] using World.cell?_spot (hcell 0 (by omega))
    subst hspot
    refine ⟨b, off, rfl, fun j hj => ?_⟩
    have hj' : j < len := by simp at hj; omega
    have := hcell j (by omega)
    rw [WideShapes.add_plain] at this
    rw [this]
    simp [List.getD, hj', show j < zs.length by omega]

end Go.Proofs.Ythfckncbhkcblaa

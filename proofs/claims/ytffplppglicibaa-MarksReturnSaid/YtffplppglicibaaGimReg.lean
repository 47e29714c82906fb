/- A region that draws its order, whose calls make memory and which makes boxes of its own: what has one value in whatever world (with new memory made between) is taken first; the boxes come last. Conditions: none. -/
import Derived.Test.YtffplppglicibaaGimBase
import Derived.Orders
namespace Go.Gim
open Go.RowKit

section
variable {P : Program} {md : Region.Mode} {ops : Array Oper} {Q : Exit → Act → World → Prop} {w0 : World}

/-- Whatever order is picked from here on, and whatever new memory is made between. -/
def wpE (P : Program) (md : Region.Mode) (ops : Array Oper) (Q : Exit → Act → World → Prop) (w0 : World) : Nat → Array Bool → Act → World → Prop
  | 0, listed, a, w => Region.ready md ops listed = [] ∧ ∀ w', Ext w w' → Q .normal a w'
  | fuel + 1, listed, a, w =>
    (Region.ready md ops listed = [] → ∀ w', Ext w w' → Q .normal a w') ∧
    ∀ i ∈ Region.ready md ops listed, ∀ w', Ext w w' → wpOp P ops Q i (fun a' w'' => Ext w0 w'' ∧ wpE P md ops Q w0 fuel (listed.setIfInBounds i true) a' w'') a w'

theorem wpAny_of_E : ∀ (fuel : Nat) (listed : Array Bool) (a : Act) (w : World), wpE P md ops Q w0 fuel listed a w → wpAny P md ops Q fuel listed a w
  | 0, _, _, w, h => ⟨h.1, h.2 w (Mod.refl _ w)⟩
  | f + 1, _, _, w, h => ⟨fun h0 => h.1 h0 w (Mod.refl _ w), fun i hi => wpOp_mono (fun a' w' h' => wpAny_of_E f _ a' w' h'.2) (h.2 i hi w (Mod.refl _ w))⟩
theorem wpE_ext : ∀ (fuel : Nat) (listed : Array Bool) (a : Act) (w w1 : World), Ext w w1 → wpE P md ops Q w0 fuel listed a w → wpE P md ops Q w0 fuel listed a w1
  | 0, _, _, _, _, hx, h => ⟨h.1, fun w' hw' => h.2 w' (hx.ext_trans hw')⟩
  | _ + 1, _, _, _, _, hx, h => ⟨fun h0 w' hw' => h.1 h0 w' (hx.ext_trans hw'), fun i hi w' hw' => h.2 i hi w' (hx.ext_trans hw')⟩

/-- What a run yields: just v, and new memory at most. -/
def QAt (P : Program) (w' : World) (v : Value) : Result Next → Prop
  | .ok (.value u) w'' => u = v ∧ Ext w' w''
  | .ok (.enter f args) w'' => w'' = w' ∧ Calls P f args w' (fun e w2 => e = .returned v ∧ Ext w' w2)
  | _ => False
/-- In whatever world that only has new memory, the operation yields v. -/
def QuietE (P : Program) (ops : Array Oper) (w0 : World) (o : Oper) (v : Value) (a : Act) : Prop :=
  Region.wanted o (yielded ops a.tmps) = true ∧ ∀ w', Ext w0 w' → QAt P w' v ((execOp a.eval o).run P w')

theorem QuietE.wpOp {i : Nat} {o : Oper} {v : Value} {a : Act} (hi : ops[i]? = some o) (hy : QuietE P ops w0 o v a) {K : Act → World → Prop} {w : World} (hw : Ext w0 w) (h : ∀ w2, Ext w w2 → K (a.put o.dst v) w2) : wpOp P ops Q i K a w := by
  unfold Go.wpOp
  simp only [hi, hy.1, if_true]
  refine .inl ?_
  unfold Oper.wp
  have h1 := hy.2 w hw
  generalize (execOp a.eval o).run P w = r at *
  cases r with
  | ok n w' =>
    cases n <;> simp only [QAt] at h1
    case value u => obtain ⟨rfl, hx⟩ := h1; simp only [Oper.upon]; exact h _ hx
    case enter f args =>
      obtain ⟨rfl, hc⟩ := h1
      simp only [Oper.upon]
      exact hc.mono fun e w2 ⟨he, hx⟩ => by rw [he]; exact h _ hx
  | halt x w' => simp only [QAt] at h1

theorem wpOp_putE {j : Nat} {oi oj : Oper} {v : Value} (hj : ops[j]? = some oj) (hap : oi.apart ops oj = true)
    (hsi : ∀ cs b, oi.op ≠ .select cs b) (hsj : ∀ cs b, oj.op ≠ .select cs b)
    (hQ : ∀ c a w, Q (.panic c) (a.put oi.dst v) w → Q (.panic c) a w) {K : Act → World → Prop} {a : Act} {w : World}
    (hy : QuietE P ops w0 oi v a) (h : wpOp P ops Q j K (a.put oi.dst v) w) :
    wpOp P ops Q j (fun a' w' => QuietE P ops w0 oi v a' ∧ K (a'.put oi.dst v) w') a w := by
  obtain ⟨h1, h2, h3⟩ := Oper.apart_spec hap
  have keep : ∀ (b : Act), QuietE P ops w0 oi v b → ∀ u, QuietE P ops w0 oi v (b.put oj.dst u) := fun b hb u => by
    unfold QuietE at *
    rw [execOp_put oi hsi b oj.dst u h3, wanted_put oi b oj.dst u h3]; exact hb
  have keepD : ∀ d, QuietE P ops w0 oi v { a with defers := d :: a.defers } := fun _ => hy
  unfold wpOp at *
  simp only [hj] at *
  rw [wanted_put oj a oi.dst v h1] at h
  by_cases hw : Region.wanted oj (yielded ops a.tmps) = true
  · rw [if_pos hw] at h ⊢
    rcases h with h | ⟨hasks, hlets⟩
    case inr => exact .inr ⟨by unfold Oper.asks at *; rw [execOp_put oj hsj a oi.dst v h1] at hasks; exact hasks, hlets⟩
    refine .inl ?_
    unfold Oper.wp at *
    rw [execOp_put oj hsj a oi.dst v h1] at h
    generalize (execOp a.eval oj).run P w = r at *
    cases r with
    | ok n w' =>
      cases n <;> simp only [Oper.upon] at h ⊢
      case value u => exact ⟨keep a hy u, by rw [← Act.put_comm a v u h2]; exact h⟩
      case skip => exact ⟨keep a hy _, by rw [← Act.put_comm a v undef h2]; exact h⟩
      case defer d => exact ⟨keep _ (keepD d) _, by rw [← Act.put_comm _ v undef h2, ← Act.put_defers]; exact h⟩
      case enter f args =>
        refine Calls.mono h fun e w'' he => ?_
        cases e with
        | returned u => exact ⟨keep a hy u, by rw [← Act.put_comm a v u h2]; exact he⟩
        | panicked c => exact hQ _ _ _ he
        | outgrown => exact he
      case row row args => exact Rows.mono h fun u w'' he => ⟨keep a hy u, by rw [← Act.put_comm a v u h2]; exact he⟩
    | halt x w' =>
      cases x <;> simp only [Oper.upon] at h ⊢
      case panic u => exact hQ _ _ _ h
  · rw [if_neg hw] at h ⊢
    exact ⟨keep a hy _, by rw [← Act.put_comm a v undef h2]; exact h⟩

theorem wpE_first {i : Nat} {oi : Oper} {v : Value} (hi : ops[i]? = some oi) (hsel : ∀ (j : Nat) (o : Oper) cs b, ops[j]? = some o → o.op ≠ .select cs b)
    (hQ : ∀ c a w, Q (.panic c) (a.put oi.dst v) w → Q (.panic c) a w) :
    ∀ (fuel : Nat) (listed : Array Bool) (a : Act) (w : World),
      (∀ j oj, ops[j]? = some oj → j ≠ i → listed.getD j true = false → (∀ e ∈ oj.after, Region.binds md e = true → e.on ≠ i) → oi.apart ops oj = true) →
      i ∈ Region.ready md ops listed → QuietE P ops w0 oi v a → Ext w0 w →
      wpE P md ops Q w0 fuel (listed.setIfInBounds i true) (a.put oi.dst v) w → wpE P md ops Q w0 (fuel + 1) listed a w := by
  intro fuel
  induction fuel with
  | zero =>
    intro listed a w _ hr hy hx H
    refine ⟨fun h => (by rw [h] at hr; cases hr), fun j hj w' hw' => ?_⟩
    by_cases hji : j = i
    · subst hji
      exact hy.wpOp hi (hx.ext_trans hw') fun w2 h2 => ⟨(hx.ext_trans hw').ext_trans h2, wpE_ext 0 _ _ _ _ (hw'.ext_trans h2) H⟩
    · have := ready_mono hj hji
      rw [H.1] at this
      cases this
  | succ fuel ih =>
    intro listed a w hfree hr hy hx H
    refine ⟨fun h => (by rw [h] at hr; cases hr), fun j hj w' hw' => ?_⟩
    by_cases hji : j = i
    · subst hji
      exact hy.wpOp hi (hx.ext_trans hw') fun w2 h2 => ⟨(hx.ext_trans hw').ext_trans h2, wpE_ext _ _ _ _ _ (hw'.ext_trans h2) H⟩
    · have h1 := H.2 j (ready_mono hj hji) w' hw'
      obtain ⟨hjun, oj, hoj, hall⟩ := mem_ready.1 hj
      have hnot : ∀ e ∈ oj.after, Region.binds md e = true → e.on ≠ i := fun e he hb heq => by
        have h1 := hall e he hb
        have h0 := (mem_ready.1 hr).1
        rw [heq] at h1
        rcases Nat.lt_or_ge i listed.size with h' | h'
        · simp [h'] at h0 h1; rw [h0] at h1; cases h1
        · simp [Array.getElem?_eq_none h'] at h1
      have h2 := wpOp_putE hoj (hfree j oj hoj hji hjun hnot) (fun cs b => hsel i oi cs b hi) (fun cs b => hsel j oj cs b hoj) hQ hy h1
      have hfree' : ∀ k ok, ops[k]? = some ok → k ≠ i → (listed.setIfInBounds j true).getD k true = false →
          (∀ e ∈ ok.after, Region.binds md e = true → e.on ≠ i) → oi.apart ops ok = true := fun k ok hk hki hun hno => by
        refine hfree k ok hk hki ?_ hno
        by_cases hjk : j = k
        · subst hjk; exact hjun
        · rw [getD_set_ne true hjk] at hun; exact hun
      refine wpOp_mono (fun a' w'' h3 => ⟨h3.2.1, ih (listed.setIfInBounds j true) a' w'' hfree' (ready_mono hr (Ne.symm hji)) h3.1 h3.2.1 ?_⟩) h2
      rw [Array.setIfInBounds_comm _ _ hji]
      exact h3.2.2

/-- Take number i first. -/
theorem wpE_take (i d : Nat) {oi : Oper} {v : Value} {fuel : Nat} {listed : Array Bool} {a : Act} {w : World} (hi : ops[i]? = some oi) (hd : oi.dst = some d)
    (hs : Region.noSelect ops = true) (hf : Region.free md ops listed i = true) (hr : (Region.ready md ops listed).contains i = true)
    (hQ : ∀ c a w, Q (.panic c) (a.put oi.dst v) w → Q (.panic c) a w) (hx : Ext w0 w) (hw : Region.wanted oi (yielded ops a.tmps) = true) (hy : ∀ w', Ext w0 w' → QAt P w' v ((execOp a.eval oi).run P w'))
    (h : wpE P md ops Q w0 fuel (listed.setIfInBounds i true) (a.put (some d) v) w) : wpE P md ops Q w0 (fuel + 1) listed a w :=
  wpE_first hi (Region.noSelect_spec hs) hQ fuel listed a w (Region.free_spec hi hf) (by simpa using hr) ⟨hw, hy⟩ hx (by rw [hd]; exact h)

/-- The beginning. -/
theorem wp_region_E {id : Nat} {a : Act} {w : World} (hm : P.follows .mixedOrders = true)
    (h : wpE P .any ops Q w ops.size (Array.replicate ops.size false) a { w with drawn := w.drawn + 1 }) : (Code.region id ops true).wp P Q a w :=
  wp_region_any hm (wpAny_of_E _ _ _ _ h)

theorem ext_draw (w : World) : Ext w { w with drawn := w.drawn + 1 } := ⟨rfl, rfl, rfl, Nat.le_refl _, fun _ _ _ => rfl⟩
theorem qat_value {w' : World} {v : Value} {r : Result Next} (h : r = .ok (.value v) w') : QAt P w' v r := by rw [h]; exact ⟨rfl, Mod.refl _ _⟩
theorem qat_enter {w' : World} {v : Value} {f : FuncId} {args : Array Value} {r : Result Next} (h : r = .ok (.enter f args) w') (hc : Calls P f args w' (fun e w2 => e = .returned v ∧ Ext w' w2)) : QAt P w' v r := by rw [h]; exact ⟨rfl, hc⟩
end
end Go.Gim

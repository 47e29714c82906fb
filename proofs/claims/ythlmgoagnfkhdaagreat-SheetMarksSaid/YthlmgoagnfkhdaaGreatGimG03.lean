/- A region that draws its order, whose calls make memory and which makes boxes of its own: what has one value in whatever world (with new memory made between) is taken first; the boxes come last. Conditions: none. -/
import Derived.Test.YthlmgoagnfkhdaaGreatGimG02
import Derived.Orders
set_option maxHeartbeats 6400000
set_option maxRecDepth 1000000
set_option linter.unusedVariables false
set_option linter.unusedSimpArgs false
namespace Go.Gim
open Go.RowKit
section
variable {P : Program} {md : Region.Mode} {ops : Array Oper} {Q : Exit → Act → World → Prop} {w0 : World}
def wpE (P : Program) (md : Region.Mode) (ops : Array Oper) (Q : Exit → Act → World → Prop) (w0 : World) : Nat → Array Bool → Act → World → Prop
 | 0, listed, a, w => Region.ready md ops listed = [] ∧ ∀ w', Ext w w' → Q .normal a w'
 | fuel + 1, listed, a, w =>
  (Region.ready md ops listed = [] → ∀ w', Ext w w' → Q .normal a w') ∧
  ∀ i ∈ Region.ready md ops listed, ∀ w', Ext w w' → wpOp P ops Q i (fun a' w'' => Ext w0 w'' ∧ wpE P md ops Q w0 fuel (listed.setIfInBounds i true) a' w'') a w'
theorem wpAny_of_E : ∀ (fuel : Nat) (listed : Array Bool) (a : Act) (w : World), wpE P md ops Q w0 fuel listed a w → wpAny P md ops Q fuel listed a w
 | 0, _, _, w, h => ⟨h.1, h.2 w (Mod.refl _ w)⟩
 | f + 1, _, _, w, h => ⟨fun h0 => h.1 h0 w (Mod.refl _ w), fun i hi => wpOp_mono (fun a' w' h' => wpAny_of_E f _ a' w' h'.2) (h.2 i hi w (Mod.refl _ w))⟩
theorem wpE_ext : ∀ (fuel : Nat) (listed : Array Bool) (a : Act) (w w1 : World), Ext w w1 → wpE P md ops Q w0 fuel listed a w → wpE P md ops Q w0 fuel listed a w1
 | 0, _, _, _, _, hx, h => ⟨h.1, fun w' hw' => h.2 w' (hx.ext_trans hw')⟩
 | _ + 1, _, _, _, _, hx, h => ⟨fun h0 w' hw' => h.1 h0 w' (hx.ext_trans hw'), fun i hi w' hw' => h.2 i hi w' (hx.ext_trans hw')⟩
def QAt (P : Program) (w' : World) (v : Value) : Result Next → Prop
 | .ok (.value u) w'' => u = v ∧ Ext w' w''
 | .ok (.enter f args) w'' => w'' = w' ∧ Calls P f args w' (fun e w2 => e = .returned v ∧ Ext w' w2)
 | _ => False
def QuietE (P : Program) (ops : Array Oper) (w0 : World) (o : Oper) (v : Value) (a : Act) : Prop :=
 Region.wanted o (yielded ops a.tmps) = true ∧ ∀ w', Ext w0 w' → QAt P w' v ((execOp a.eval o).run P w')
theorem QuietE.wpOp {i : Nat} {o : Oper} {v : Value} {a : Act} (hi : ops[i]? = some o) (hy : QuietE P ops w0 o v a) {K : Act → World → Prop} {w : World} (hw : Ext w0 w) (h : ∀ w2, Ext w w2 → K (a.put o.dst v) w2) : wpOp P ops Q i K a w := by
 unfold Go.wpOp
 simp only [hi, hy.1, if_true]
 refine .inl ?_
 unfold Oper.wp
 have h1 := hy.2 w hw
 generalize (execOp a.eval o).run P w = r at *
 cases r with
 | ok n w' =>
  cases n <;> simp only [QAt] at h1
  case value u => obtain ⟨rfl, hx⟩ := h1; simp only [Oper.upon]; exact h _ hx
  case enter f args =>
   obtain ⟨rfl, hc⟩ := h1
   simp only [Oper.upon]
   exact hc.mono fun e w2 ⟨he, hx⟩ => by rw [he]; exact h _ hx
 | halt x w' => simp only [QAt] at h1
theorem wpOp_putE {j : Nat} {oi oj : Oper} {v : Value} (hj : ops[j]? = some oj) (hap : oi.apart ops oj = true)
  (hsi : ∀ cs b, oi.op ≠ .select cs b) (hsj : ∀ cs b, oj.op ≠ .select cs b)
  (hQ : ∀ c a w, Q (.panic c) (a.put oi.dst v) w → Q (.panic c) a w) {K : Act → World → Prop} {a : Act} {w : World}
  (hy : QuietE P ops w0 oi v a) (h : wpOp P ops Q j K (a.put oi.dst v) w) :
  wpOp P ops Q j (fun a' w' => QuietE P ops w0 oi v a' ∧ K (a'.put oi.dst v) w') a w := by
 obtain ⟨h1, h2, h3⟩ := Oper.apart_spec hap
 have keep : ∀ (b : Act), QuietE P ops w0 oi v b → ∀ u, QuietE P ops w0 oi v (b.put oj.dst u) := fun b hb u => by
  unfold QuietE at *
  rw [execOp_put oi hsi b oj.dst u h3, wanted_put oi b oj.dst u h3]; exact hb
 have keepD : ∀ d, QuietE P ops w0 oi v { a with defers := d :: a.defers } := fun _ => hy
 unfold wpOp at *
 simp only [hj] at *
 rw [wanted_put oj a oi.dst v h1] at h
 by_cases hw : Region.wanted oj (yielded ops a.tmps) = true
 ·rw [if_pos hw] at h ⊢
  rcases h with h | ⟨hasks, hlets⟩
  case inr => exact .inr ⟨by unfold Oper.asks at *; rw [execOp_put oj hsj a oi.dst v h1] at hasks; exact hasks, hlets⟩
  refine .inl ?_
  unfold Oper.wp at *
  rw [execOp_put oj hsj a oi.dst v h1] at h
  generalize (execOp a.eval oj).run P w = r at *
  cases r with
  | ok n w' =>
   cases n <;> simp only [Oper.upon] at h ⊢
   case value u => exact ⟨keep a hy u, by rw [← Act.put_comm a v u h2]; exact h⟩
   case skip => exact ⟨keep a hy _, by rw [← Act.put_comm a v undef h2]; exact h⟩
   case defer d => exact ⟨keep _ (keepD d) _, by rw [← Act.put_comm _ v undef h2, ← Act.put_defers]; exact h⟩
   case enter f args =>
    refine Calls.mono h fun e w'' he => ?_
    cases e with
    | returned u => exact ⟨keep a hy u, by rw [← Act.put_comm a v u h2]; exact he⟩
    | panicked c => exact hQ _ _ _ he
    | outgrown => exact he
   case row row args => exact Rows.mono h fun u w'' he => ⟨keep a hy u, by rw [← Act.put_comm a v u h2]; exact he⟩
  | halt x w' =>
   cases x <;> simp only [Oper.upon] at h ⊢
   case panic u => exact hQ _ _ _ h
 ·rw [if_neg hw] at h ⊢
  exact ⟨keep a hy _, by rw [← Act.put_comm a v undef h2]; exact h⟩
theorem wpE_first {i : Nat} {oi : Oper} {v : Value} (hi : ops[i]? = some oi) (hsel : ∀ (j : Nat) (o : Oper) cs b, ops[j]? = some o → o.op ≠ .select cs b)
  (hQ : ∀ c a w, Q (.panic c) (a.put oi.dst v) w → Q (.panic c) a w) :
  ∀ (fuel : Nat) (listed : Array Bool) (a : Act) (w : World),
   (∀ j oj, ops[j]? = some oj → j ≠ i → listed.getD j true = false → (∀ e ∈ oj.after, Region.binds md e = true → e.on ≠ i) → oi.apart ops oj = true) →
   i ∈ Region.ready md ops listed → QuietE P ops w0 oi v a → Ext w0 w →
   wpE P md ops Q w0 fuel (listed.setIfInBounds i true) (a.put oi.dst v) w → wpE P md ops Q w0 (fuel + 1) listed a w := by
 intro fuel
 induction fuel with
 | zero =>
  intro listed a w _ hr hy hx H
  refine ⟨fun h => (by rw [h] at hr; cases hr), fun j hj w' hw' => ?_⟩
  by_cases hji : j = i
  ·subst hji
   exact hy.wpOp hi (hx.ext_trans hw') fun w2 h2 => ⟨(hx.ext_trans hw').ext_trans h2, wpE_ext 0 _ _ _ _ (hw'.ext_trans h2) H⟩
  ·have := ready_mono hj hji
   rw [H.1] at this
   cases this
 | succ fuel ih =>
  intro listed a w hfree hr hy hx H
  refine ⟨fun h => (by rw [h] at hr; cases hr), fun j hj w' hw' => ?_⟩
  by_cases hji : j = i
  ·subst hji
   exact hy.wpOp hi (hx.ext_trans hw') fun w2 h2 => ⟨(hx.ext_trans hw').ext_trans h2, wpE_ext _ _ _ _ _ (hw'.ext_trans h2) H⟩
  ·have h1 := H.2 j (ready_mono hj hji) w' hw'
   obtain ⟨hjun, oj, hoj, hall⟩ := mem_ready.1 hj
   have hnot : ∀ e ∈ oj.after, Region.binds md e = true → e.on ≠ i := fun e he hb heq => by
    have h1 := hall e he hb
    have h0 := (mem_ready.1 hr).1
    rw [heq] at h1
    rcases Nat.lt_or_ge i listed.size with h' | h'
    ·simp [h'] at h0 h1; rw [h0] at h1; cases h1
    ·simp [Array.getElem?_eq_none h'] at h1
   have h2 := wpOp_putE hoj (hfree j oj hoj hji hjun hnot) (fun cs b => hsel i oi cs b hi) (fun cs b => hsel j oj cs b hoj) hQ hy h1
   have hfree' : ∀ k ok, ops[k]? = some ok → k ≠ i → (listed.setIfInBounds j true).getD k true = false →
     (∀ e ∈ ok.after, Region.binds md e = true → e.on ≠ i) → oi.apart ops ok = true := fun k ok hk hki hun hno => by
    refine hfree k ok hk hki ?_ hno
    by_cases hjk : j = k
    ·subst hjk; exact hjun
    ·rw [getD_set_ne true hjk] at hun; exact hun
   refine wpOp_mono (fun a' w'' h3 => ⟨h3.2.1, ih (listed.setIfInBounds j true) a' w'' hfree' (ready_mono hr (Ne.symm hji)) h3.1 h3.2.1 ?_⟩) h2
   rw [Array.setIfInBounds_comm _ _ hji]
   exact h3.2.2
theorem wpE_take (i d : Nat) {oi : Oper} {v : Value} {fuel : Nat} {listed : Array Bool} {a : Act} {w : World} (hi : ops[i]? = some oi) (hd : oi.dst = some d)
  (hs : Region.noSelect ops = true) (hf : Region.free md ops listed i = true) (hr : (Region.ready md ops listed).contains i = true)
  (hQ : ∀ c a w, Q (.panic c) (a.put oi.dst v) w → Q (.panic c) a w) (hx : Ext w0 w) (hw : Region.wanted oi (yielded ops a.tmps) = true) (hy : ∀ w', Ext w0 w' → QAt P w' v ((execOp a.eval oi).run P w'))
  (h : wpE P md ops Q w0 fuel (listed.setIfInBounds i true) (a.put (some d) v) w) : wpE P md ops Q w0 (fuel + 1) listed a w :=
 wpE_first hi (Region.noSelect_spec hs) hQ fuel listed a w (Region.free_spec hi hf) (by simpa using hr) ⟨hw, hy⟩ hx (by rw [hd]; exact h)
theorem ext_draw (w : World) : Ext w { w with drawn := w.drawn + 1 } := ⟨rfl, rfl, rfl, Nat.le_refl _, fun _ _ _ => rfl⟩
theorem wpE_t (i d : Nat) {oi : Oper} {v : Value} {fuel : Nat} {listed : Array Bool} {a : Act} {w : World} (hy : ∀ w', Ext w0 w' → QAt P w' v ((execOp a.eval oi).run P w'))
  (h : wpE P md ops Q w0 fuel (listed.setIfInBounds i true) (a.put (some d) v) w) (hi : ops[i]? = some oi := by rfl) (hd : oi.dst = some d := by rfl)
  (hs : Region.noSelect ops = true := by kernel_rfl) (hf : Region.free md ops listed i = true := by kernel_rfl) (hr : (Region.ready md ops listed).contains i = true := by kernel_rfl)
  (hQ : ∀ c a w, Q (.panic c) (a.put oi.dst v) w → Q (.panic c) a w := by exact fun _ _ _ h => h) (hx : Ext w0 w := by first | exact ext_draw _ | assumption) (hw : Region.wanted oi (yielded ops a.tmps) = true := by rfl) : wpE P md ops Q w0 (fuel + 1) listed a w :=
 wpE_take i d hi hd hs hf hr hQ hx hw hy h
theorem fr1 (t : Array Value) (l : List Deferred) (d : Nat) (v : Value) : (Act.mk t l).put (some d) v = ⟨t.setIfInBounds d v, l⟩ := rfl
theorem fr2 {α : Type} (l : List α) (i : Nat) (a : α) : l.toArray.setIfInBounds i a = (l.set i a).toArray := by simp
theorem fr3 {α : Type} (x a : α) (l : List α) : (x :: l).set 0 a = a :: l := rfl
theorem fr4 {α : Type} (x a : α) (l : List α) (i : Nat) : (x :: l).set (i + 1) a = x :: l.set i a := rfl
theorem wp_region_E {id : Nat} {a : Act} {w : World} (hm : P.follows .mixedOrders = true)
  (h : wpE P .any ops Q w ops.size (Array.replicate ops.size false) a { w with drawn := w.drawn + 1 }) : (Code.region id ops true).wp P Q a w :=
 wp_region_any hm (wpAny_of_E _ _ _ _ h)
theorem qat_value {w' : World} {v : Value} {r : Result Next} (h : r = .ok (.value v) w') : QAt P w' v r := by rw [h]; exact ⟨rfl, Mod.refl _ _⟩
theorem qat_enter {w' : World} {v : Value} {f : FuncId} {args : Array Value} {r : Result Next} (h : r = .ok (.enter f args) w') (hc : Calls P f args w' (fun e w2 => e = .returned v ∧ Ext w' w2)) : QAt P w' v r := by rw [h]; exact ⟨rfl, hc⟩
end
def TwoBoxes (wa wn : World) (p q : Nat) (T : TypeId) (x y : Value × Value) : Prop :=
 Ext wa wn ∧ wa.heap.size ≤ p ∧ wa.heap.size ≤ q ∧ p ≠ q ∧ Blk wn p T #[x.1, x.2] ∧ Blk wn q T #[y.1, y.2]
theorem Calls.same_ext {P : Program} {f : FuncId} {args : Array Value} {w : World} {v : Value} (h : Calls P f args w fun e w' => e = .returned v ∧ w' = w) : Calls P f args w fun e w' => e = .returned v ∧ Ext w w' :=
 h.mono fun _ _ ⟨he, hw⟩ => ⟨he, by rw [hw]; exact Mod.refl _ _⟩
structure Box2 (P : Program) (T : TypeId) (z0 z1 : Value) : Prop where
 make : ∀ (ρ : Operand → Value) (o : Oper) (w : World), o.op = .alloc T → (execOp ρ o).run P w = .ok (.value (.pointer (some ⟨w.heap.size, 0, none⟩))) (w.alloc (.cells #[z0, z1] T))
 store : ∀ (ρ : Operand → Value) (o : Oper) (w : World) (d s : Operand) (p : Nat) (y0 y1 x0 x1 : Value), o.op = .store T d s → ρ d = .pointer (some ⟨p, 0, none⟩) → ρ s = .agg #[x0, x1] → x0.oneCell' = true → x1.oneCell' = true → Blk w p T #[y0, y1] →
  (execOp ρ o).run P w = .ok .skip ((w.setCell ⟨p, 0, none⟩ x0).setCell ⟨p, 1, none⟩ x1)
section
variable {P : Program} {md : Region.Mode} {ops : Array Oper} {Q : Exit → Act → World → Prop} {w0 : World}
theorem wpOp_run {i : Nat} {o : Oper} {K : Act → World → Prop} {a : Act} {w w' : World} {v : Value} (hi : ops[i]? = some o) (hg : o.guard = none) (hr : (execOp a.eval o).run P w = .ok (.value v) w') (h : K (a.put o.dst v) w') : wpOp P ops Q i K a w := by
 unfold wpOp
 have hw : Region.wanted o (yielded ops a.tmps) = true := by simp [Region.wanted, hg]
 simp only [hi, hw, if_true]
 refine .inl ?_
 unfold Oper.wp
 rw [hr]; exact h
theorem wpOp_skip {i : Nat} {o : Oper} {K : Act → World → Prop} {a : Act} {w w' : World} (hi : ops[i]? = some o) (hg : o.guard = none) (hr : (execOp a.eval o).run P w = .ok .skip w') (h : K (a.put o.dst undef) w') : wpOp P ops Q i K a w := by
 unfold wpOp
 have hw : Region.wanted o (yielded ops a.tmps) = true := by simp [Region.wanted, hg]
 simp only [hi, hw, if_true]
 refine .inl ?_
 unfold Oper.wp
 rw [hr]; exact h
theorem wpE_all {rs : List Nat} {fuel : Nat} {listed : Array Bool} {a : Act} {w : World} (hr : Region.ready md ops listed = rs) (hne : rs ≠ [])
  (h : ∀ i ∈ rs, ∀ w', Ext w w' → wpOp P ops Q i (fun a' w'' => Ext w0 w'' ∧ wpE P md ops Q w0 fuel (listed.setIfInBounds i true) a' w'') a w') : wpE P md ops Q w0 (fuel + 1) listed a w :=
 ⟨fun h0 => absurd (hr ▸ h0) hne, hr ▸ h⟩
theorem wpE_done {listed : Array Bool} {a : Act} {w : World} (hr : Region.ready md ops listed = []) (h : ∀ w', Ext w w' → Q .normal a w') : ∀ fuel, wpE P md ops Q w0 fuel listed a w
 | 0 => ⟨hr, h⟩
 | _ + 1 => ⟨fun _ => h, by rw [hr]; simp⟩
theorem wpE_call1 (i d : Nat) {o : Oper} {f : FuncId} {args : Array Value} {fuel : Nat} {listed : Array Bool} {a : Act} {w : World} (hi : ops[i]? = some o) (hd : o.dst = some d) (hg : o.guard = none) (hr : Region.ready md ops listed = [i])
  (hrun : ∀ w', (execOp a.eval o).run P w' = .ok (.enter f args) w')
  (hc : ∀ w', Ext w w' → Calls P f args w' (fun e w'' => ∃ v, e = .returned v ∧ Ext w0 w'' ∧ wpE P md ops Q w0 fuel (listed.setIfInBounds i true) (a.put (some d) v) w'')) : wpE P md ops Q w0 (fuel + 1) listed a w := by
 refine wpE_all hr (by simp) fun j hj w' hw' => ?_
 obtain rfl : j = i := by simpa using hj
 unfold wpOp
 have hw : Region.wanted o (yielded ops a.tmps) = true := by simp [Region.wanted, hg]
 simp only [hi, hw, if_true]
 refine .inl ?_
 unfold Oper.wp
 rw [hrun w']
 simp only [Oper.upon]
 refine (hc w' hw').mono ?_
 rintro e w'' ⟨v, rfl, h1, h2⟩
 rw [hd]
 exact ⟨h1, h2⟩
theorem eval_put_self {a : Act} {d : Nat} {v : Value} (h : d < a.tmps.size) : (a.put (some d) v).eval (.tmp d) = v := by
 simp [Act.eval, Act.put, Array.getD_eq_getD_getElem?, h]
theorem eval_put_other {a : Act} {d e : Nat} {v : Value} (h : d ≠ e) : (a.put (some d) v).eval (.tmp e) = a.eval (.tmp e) := by
 simp [Act.eval, Act.put, Array.getD_eq_getD_getElem?, Array.getElem?_setIfInBounds_ne h]
theorem size_put {a : Act} {d : Nat} {v : Value} : (a.put (some d) v).tmps.size = a.tmps.size := by simp [Act.put]
theorem wpE_boxes2 {T : TypeId} {z0 z1 : Value} (B : Box2 P T z0 z1) (i1 i2 i3 i4 d1 d2 s1 s2 : Nat) {o1 o2 o3 o4 : Oper} {listed : Array Bool} {a : Act} {w : World} {x y : Value × Value}
  (h1 : ops[i1]? = some o1) (h2 : ops[i2]? = some o2) (h3 : ops[i3]? = some o3) (h4 : ops[i4]? = some o4)
  (g : o1.guard = none ∧ o2.guard = none ∧ o3.guard = none ∧ o4.guard = none)
  (p1 : o1.op = .alloc T ∧ o1.dst = some d1) (p2 : o2.op = .alloc T ∧ o2.dst = some d2) (p3 : o3.op = .store T (.tmp d1) (.tmp s1) ∧ o3.dst = none) (p4 : o4.op = .store T (.tmp d2) (.tmp s2) ∧ o4.dst = none)
  (r0 : Region.ready md ops listed = [i1, i2]) (r1 : Region.ready md ops (listed.setIfInBounds i1 true) = [i2]) (r2 : Region.ready md ops (listed.setIfInBounds i2 true) = [i1])
  (r3 : Region.ready md ops ((listed.setIfInBounds i1 true).setIfInBounds i2 true) = [i3]) (r4 : Region.ready md ops (((listed.setIfInBounds i1 true).setIfInBounds i2 true).setIfInBounds i3 true) = [i4])
  (r5 : Region.ready md ops ((((listed.setIfInBounds i1 true).setIfInBounds i2 true).setIfInBounds i3 true).setIfInBounds i4 true) = [])
  (hn : i1 ≠ i2) (hd : d1 < a.tmps.size ∧ d2 < a.tmps.size ∧ d1 ≠ d2 ∧ d1 ≠ s1 ∧ d1 ≠ s2 ∧ d2 ≠ s1 ∧ d2 ≠ s2)
  (e1 : a.eval (.tmp s1) = .agg #[x.1, x.2]) (e2 : a.eval (.tmp s2) = .agg #[y.1, y.2]) (c : x.1.oneCell' = true ∧ x.2.oneCell' = true ∧ y.1.oneCell' = true ∧ y.2.oneCell' = true)
  (hx : Ext w0 w) (h : ∀ w' p q, TwoBoxes w0 w' p q T x y → Q .normal ((a.put (some d1) (.pointer (some ⟨p, 0, none⟩))).put (some d2) (.pointer (some ⟨q, 0, none⟩))) w') : wpE P md ops Q w0 4 listed a w := by
 obtain ⟨k1, k2, k3, k4, k5, k6, k7⟩ := hd
 -- the stores, from a world that holds both boxes
 have fin : ∀ (u : World) (p q : Nat), Ext w0 u → w0.heap.size ≤ p → w0.heap.size ≤ q → p ≠ q → Blk u p T #[z0, z1] → Blk u q T #[z0, z1] →
   wpE P md ops Q w0 2 ((listed.setIfInBounds i1 true).setIfInBounds i2 true) ((a.put (some d1) (.pointer (some ⟨p, 0, none⟩))).put (some d2) (.pointer (some ⟨q, 0, none⟩))) u := by
  intro u p q hu hp hq hpq hb1 hb2
  refine wpE_all r3 (by simp) fun i hi w' hw' => ?_
  obtain rfl : i = i3 := by simpa using hi
  have hb1' := hb1.mod hw' (fun f => f)
  have hb2' := hb2.mod hw' (fun f => f)
  have hu' := hu.ext_trans hw'
  refine wpOp_skip h3 g.2.2.1 (B.store _ o3 w' (.tmp d1) (.tmp s1) p z0 z1 x.1 x.2 p3.1 (by rw [eval_put_other (Ne.symm k3), eval_put_self k1]) (by rw [eval_put_other k6, eval_put_other k4, e1]) c.1 c.2.1 hb1') ?_
  have hs1 : Blk ((w'.setCell ⟨p, 0, none⟩ x.1).setCell ⟨p, 1, none⟩ x.2) p T #[x.1, x.2] := (hb1'.set 0 _).set 1 _
  have hs2 : Blk ((w'.setCell ⟨p, 0, none⟩ x.1).setCell ⟨p, 1, none⟩ x.2) q T #[z0, z1] := (hb2'.set_other (p := ⟨p, 0, none⟩) (Ne.symm hpq) _).set_other (p := ⟨p, 1, none⟩) (Ne.symm hpq) _
  have hu2 : Ext w0 ((w'.setCell ⟨p, 0, none⟩ x.1).setCell ⟨p, 1, none⟩ x.2) := (hu'.setCell (p := ⟨p, 0, none⟩) (fun hl => absurd hl (Nat.not_lt.2 hp)) _).setCell (p := ⟨p, 1, none⟩) (fun hl => absurd hl (Nat.not_lt.2 hp)) _
  rw [p3.2]
  refine ⟨hu2, wpE_all r4 (by simp) fun i hi w2 hw2 => ?_⟩
  obtain rfl : i = i4 := by simpa using hi
  have hs1' := hs1.mod hw2 (fun f => f)
  have hs2' := hs2.mod hw2 (fun f => f)
  have hu3 := hu2.ext_trans hw2
  refine wpOp_skip h4 g.2.2.2 (B.store _ o4 w2 (.tmp d2) (.tmp s2) q z0 z1 y.1 y.2 p4.1 (by show Act.eval (Act.put _ (some d2) _) _ = _; rw [eval_put_self (by rw [size_put]; exact k2)]) (by show Act.eval (Act.put (Act.put a (some d1) _) (some d2) _) _ = _; rw [eval_put_other k7, eval_put_other k5, e2]) c.2.2.1 c.2.2.2 hs2') ?_
  rw [p4.2]
  have ht1 : Blk ((w2.setCell ⟨q, 0, none⟩ y.1).setCell ⟨q, 1, none⟩ y.2) p T #[x.1, x.2] := (hs1'.set_other (p := ⟨q, 0, none⟩) hpq _).set_other (p := ⟨q, 1, none⟩) hpq _
  have ht2 : Blk ((w2.setCell ⟨q, 0, none⟩ y.1).setCell ⟨q, 1, none⟩ y.2) q T #[y.1, y.2] := (hs2'.set 0 _).set 1 _
  have hu4 : Ext w0 ((w2.setCell ⟨q, 0, none⟩ y.1).setCell ⟨q, 1, none⟩ y.2) := (hu3.setCell (p := ⟨q, 0, none⟩) (fun hl => absurd hl (Nat.not_lt.2 hq)) _).setCell (p := ⟨q, 1, none⟩) (fun hl => absurd hl (Nat.not_lt.2 hq)) _
  refine ⟨hu4, wpE_done r5 (fun w3 hw3 => h w3 p q ⟨hu4.ext_trans hw3, hp, hq, hpq, ht1.mod hw3 (fun f => f), ht2.mod hw3 (fun f => f)⟩) 0⟩
 refine wpE_all r0 (by simp) fun i hi w' hw' => ?_
 have hi' : i = i1 ∨ i = i2 := by simpa using hi
 have hx' := hx.ext_trans hw'
 rcases hi' with rfl | rfl
 ·refine wpOp_run h1 g.1 (B.make _ o1 w' p1.1) ?_
  rw [p1.2]
  refine ⟨hx'.alloc _, wpE_all r1 (by simp) fun i hi w2 hw2 => ?_⟩
  obtain rfl : i = i2 := by simpa using hi
  have hb := (Blk.new w' T #[z0, z1]).mod hw2 (fun f => f)
  have hx2 := (hx'.alloc _).ext_trans hw2
  refine wpOp_run h2 g.2.1 (B.make _ o2 w2 p2.1) ?_
  rw [p2.2]
  have hlt := hb.lt
  exact ⟨hx2.alloc _, fin _ _ _ (hx2.alloc _) hx'.size hx2.size (by omega) (hb.alloc _) (Blk.new _ _ _)⟩
 ·refine wpOp_run h2 g.2.1 (B.make _ o2 w' p2.1) ?_
  rw [p2.2]
  refine ⟨hx'.alloc _, wpE_all r2 (by simp) fun i hi w2 hw2 => ?_⟩
  obtain rfl : i = i1 := by simpa using hi
  have hb := (Blk.new w' T #[z0, z1]).mod hw2 (fun f => f)
  have hx2 := (hx'.alloc _).ext_trans hw2
  refine wpOp_run h1 g.1 (B.make _ o1 w2 p1.1) ?_
  rw [p1.2]
  have hlt := hb.lt
  have := fin _ w2.heap.size w'.heap.size (hx2.alloc _) hx2.size hx'.size (by omega) (Blk.new _ _ _) (hb.alloc _)
  rw [Act.put_comm _ _ _ (fun d hd => by cases hd; intro e; cases e; exact k3 rfl), Array.setIfInBounds_comm _ _ hn.symm]
  exact ⟨hx2.alloc _, this⟩
end
theorem run_call_append {P : Program} {w w' : World} {o : Oper} {ρ : Operand → Value} (s x : Operand) (t : TypeId) (ho : o.op = .call { callee := .builtin .append, args := #[s, x], argTypes := #[t, t] })
  {v v' u : Value} (hs : ρ s = v) (hx : ρ x = u) (hr : (Builtin.append_ #[t, t] o.type #[v, u]).run P w = .ok v' w') : (execOp ρ o).run P w = .ok (.value v') w' := by
 simp [execOp, ho, resolve, invoke, builtin, hs, hx, hr, Result.andThen]
structure Lits (P : Program) (t T : TypeId) (size : Nat) : Prop where
 mk0 : ∀ (ρ : Operand → Value) (o : Oper) (w : World), o.op = .buildSlice t 0 #[] → (execOp ρ o).run P w = .ok (.value (.slice (some ⟨w.heap.size, 0, none⟩) 0 0)) (w.alloc (.cells #[] T))
 mk1 : ∀ (ρ : Operand → Value) (o : Oper) (w : World) (x : Operand) (V : Value), o.op = .buildSlice t 1 #[(0, x)] → ρ x = V → V.cells.size = size → (∀ u ∈ V.cells.toList, u.oneCell' = true) → V = .agg V.cells →
  (execOp ρ o).run P w = .ok (.value (.slice (some ⟨w.heap.size, 0, none⟩) 1 1)) (w.alloc (.cells V.cells T))
section
variable {P : Program} {md : Region.Mode} {ops : Array Oper} {Q : Exit → Act → World → Prop} {w0 : World}
theorem put5 (a : Act) (d1 d2 : Nat) (v1 v2 : Value) (h : d1 ≠ d2) : (a.put (some d1) v1).put (some d2) v2 = (a.put (some d2) v2).put (some d1) v1 :=
 Act.put_comm a v1 v2 (fun d hd => by cases hd; intro e; cases e; exact h rfl)
structure Splice (ops : Array Oper) (t : TypeId) (iA iB iC iD iE iF dA dB dC dD dE dF s1 s2 x : Nat) (oA oB oC oD oE oF : Oper) : Prop where
 A : ops[iA]? = some oA
 B : ops[iB]? = some oB
 C : ops[iC]? = some oC
 D : ops[iD]? = some oD
 E : ops[iE]? = some oE
 F : ops[iF]? = some oF
 g : oA.guard = none ∧ oB.guard = none ∧ oC.guard = none ∧ oD.guard = none ∧ oE.guard = none ∧ oF.guard = none
 pA : oA.op = .buildSlice t 0 #[] ∧ oA.dst = some dA
 pB : oB.op = .call { callee := .builtin .append, args := #[.tmp dA, .tmp s1], argTypes := #[t, t] } ∧ oB.dst = some dB
 pC : oC.op = .buildSlice t 1 #[(0, .tmp x)] ∧ oC.dst = some dC
 pD : oD.op = .call { callee := .builtin .append, args := #[.tmp dB, .tmp dC], argTypes := #[t, t] } ∧ oD.dst = some dD
 pE : oE.op = .call { callee := .builtin .append, args := #[.tmp dD, .tmp s2], argTypes := #[t, t] } ∧ oE.dst = some dE
 pF : oF.op = .assign (.tmp dE) ∧ oF.dst = some dF
 ne : dA ≠ dB ∧ dA ≠ dC ∧ dB ≠ dC ∧ dA ≠ s1 ∧ dA ≠ s2 ∧ dA ≠ x ∧ dB ≠ s1 ∧ dB ≠ s2 ∧ dB ≠ x ∧ dC ≠ s1 ∧ dC ≠ s2 ∧ dC ≠ x ∧ dD ≠ s2
 ix : iA ≠ iC ∧ iB ≠ iC
structure SpliceReady (md : Region.Mode) (ops : Array Oper) (listed : Array Bool) (iA iB iC iD iE iF : Nat) : Prop where
 r0 : Region.ready md ops listed = [iA, iC]
 rA : Region.ready md ops (listed.setIfInBounds iA true) = [iB, iC]
 rC : Region.ready md ops (listed.setIfInBounds iC true) = [iA]
 rAB : Region.ready md ops ((listed.setIfInBounds iA true).setIfInBounds iB true) = [iC]
 rAC : Region.ready md ops ((listed.setIfInBounds iA true).setIfInBounds iC true) = [iB]
 r3 : Region.ready md ops (((listed.setIfInBounds iA true).setIfInBounds iB true).setIfInBounds iC true) = [iD]
 r4 : Region.ready md ops ((((listed.setIfInBounds iA true).setIfInBounds iB true).setIfInBounds iC true).setIfInBounds iD true) = [iE]
 r5 : Region.ready md ops (((((listed.setIfInBounds iA true).setIfInBounds iB true).setIfInBounds iC true).setIfInBounds iD true).setIfInBounds iE true) = [iF]
 r6 : Region.ready md ops ((((((listed.setIfInBounds iA true).setIfInBounds iB true).setIfInBounds iC true).setIfInBounds iD true).setIfInBounds iE true).setIfInBounds iF true) = []
theorem wpE_splice {t T : TypeId} {z : Value} {size bytes : Nat} (hL : Lits P t T size) (hinfo : (P.info? T).map (fun i => (i.zero, i.size, i.bytes)) = some (some z, size, bytes)) (htt : P.underlying t = some (.slice T)) (hzs : z.cells.size = size) (hsz : 0 < size)
  {iA iB iC iD iE iF dA dB dC dD dE dF s1 s2 x : Nat} {oA oB oC oD oE oF : Oper} (O : Splice ops t iA iB iC iD iE iF dA dB dC dD dE dF s1 s2 x oA oB oC oD oE oF)
  {listed : Array Bool} (R : SpliceReady md ops listed iA iB iC iD iE iF) {a : Act} {w : World} (hd : dA < a.tmps.size ∧ dB < a.tmps.size ∧ dC < a.tmps.size ∧ dD < a.tmps.size ∧ dE < a.tmps.size)
  {a1 a2 : Option Addr} {n1 n2 c1 c2 : Nat} {xs1 xs2 : List Value} {V : Value}
  (e1 : a.eval (.tmp s1) = .slice a1 n1 c1) (e2 : a.eval (.tmp s2) = .slice a2 n2 c2) (e3 : a.eval (.tmp x) = V) (r1 : Reads w0 size a1 n1 xs1) (r2 : Reads w0 size a2 n2 xs2) (o1 : ∀ u ∈ xs1, u.oneCell' = true) (o2 : ∀ u ∈ xs2, u.oneCell' = true)
  (hV : V.cells.size = size ∧ (∀ u ∈ V.cells.toList, u.oneCell' = true) ∧ V = .agg V.cells) (hsm : (n1 + n2 + 1) * bytes ≤ 140737488355328 ∧ n1 + n2 + 1 ≤ maxLen)
  (hx : Ext w0 w) (h : ∀ (w' : World) (vA vB vC vD v : Value), w'.ownsRow w0.heap.size T size v (n1 + 1 + n2) (xs1 ++ V.cells.toList ++ xs2) → Ext w0 w' →
   Q .normal ((((((a.put (some dA) vA).put (some dB) vB).put (some dC) vC).put (some dD) vD).put (some dE) v).put (some dF) v) w') : wpE P md ops Q w0 6 listed a w := by
 obtain ⟨k1, k2, k3, k4, k5⟩ := hd
 obtain ⟨q1, q2, q3, q4, q5, q6, q7, q8, q9, q10, q11, q12, q13⟩ := O.ne
 obtain ⟨gA, gB, gC, gD, gE, gF⟩ := O.g
 have m1 : n1 ≤ n1 + n2 + 1 := by omega
 have hb1 : (0 + n1) * bytes ≤ 140737488355328 := Nat.le_trans (Nat.mul_le_mul_right _ (by omega)) hsm.1
 have hb2 : (n1 + 1) * bytes ≤ 140737488355328 := Nat.le_trans (Nat.mul_le_mul_right _ (by omega)) hsm.1
 have hb3 : (n1 + 1 + n2) * bytes ≤ 140737488355328 := Nat.le_trans (Nat.mul_le_mul_right _ (by omega)) hsm.1
 -- behind the three: the row of the first part, the box of the one
 have fin : ∀ (u : World) (vA vB : Value) (p : Nat), Ext w0 u → u.ownsRow w0.heap.size T size vB n1 xs1 → vB.ownBlock ≠ some p → Blk u p T V.cells →
   wpE P md ops Q w0 3 (((listed.setIfInBounds iA true).setIfInBounds iB true).setIfInBounds iC true) (((a.put (some dA) vA).put (some dB) vB).put (some dC) (.slice (some ⟨p, 0, none⟩) 1 1)) u := by
  intro u vA vB p hu hB hne hp
  refine wpE_all R.r3 (by simp) fun i hi u1 hu1 => ?_
  obtain rfl : i = iD := by simpa using hi
  have hB1 := ownsRow_mod hB hu1 (fun _ _ f => f)
  have hp1 := hp.mod hu1 (fun f => f)
  have hux := hu.ext_trans hu1
  have hrd : Reads u1 size (some ⟨p, 0, none⟩) 1 V.cells.toList := by
   refine ⟨by simp [hV.1], fun _ => ⟨p, 0, rfl, fun j hj => ?_⟩⟩
   rw [Nat.zero_add, hp1.cell j]; simp
  obtain ⟨vD, u2, hrD, hD, hmD, _⟩ := run_append_reads (P := P) (w := u1) t oD.type w0.heap.size T z size bytes hinfo htt hzs hsz vB n1 xs1 hB1 (some ⟨p, 0, none⟩) 1 1 V.cells.toList hrd hV.2.1 (by omega) hb2 hux.size
  have huD : Ext w0 u2 := hux.over hmD (fun k hk => (hB1.lt k hk).1)
  refine wpOp_run O.D gD (run_call_append _ _ t O.pD.1 (v := vB) (u := .slice (some ⟨p, 0, none⟩) 1 1) ?_ ?_ hrD) ?_
  ·rw [eval_put_other (Ne.symm q3), eval_put_self (by rw [size_put]; exact k2)]
  ·rw [eval_put_self (by rw [size_put, size_put]; exact k3)]
  rw [O.pD.2]
  refine ⟨huD, wpE_all R.r4 (by simp) fun i hi u3 hu3 => ?_⟩
  obtain rfl : i = iE := by simpa using hi
  have hD3 := ownsRow_mod hD hu3 (fun _ _ f => f)
  have hu3x := huD.ext_trans hu3
  obtain ⟨vE, u4, hrE, hE, hmE, _⟩ := run_append_reads (P := P) (w := u3) t oE.type w0.heap.size T z size bytes hinfo htt hzs hsz vD (n1 + 1) (xs1 ++ V.cells.toList) hD3 a2 n2 c2 xs2 (r2.mod hu3x (fun _ _ f => f)) o2 (by omega) hb3 hu3x.size
  have huE : Ext w0 u4 := hu3x.over hmE (fun k hk => (hD3.lt k hk).1)
  refine wpOp_run O.E gE (run_call_append _ _ t O.pE.1 (v := vD) (u := .slice a2 n2 c2) ?_ ?_ hrE) ?_
  ·rw [eval_put_self (by rw [size_put, size_put, size_put]; exact k4)]
  ·rw [eval_put_other q13, eval_put_other q11, eval_put_other q8, eval_put_other q5, e2]
  rw [O.pE.2]
  refine ⟨huE, wpE_all R.r5 (by simp) fun i hi u5 hu5 => ?_⟩
  obtain rfl : i = iF := by simpa using hi
  refine wpOp_run O.F gF (v := vE) (w' := u5) ?_ ?_
  ·rw [BigFrame.run_assign (P := P) (.tmp dE) O.pF.1, eval_put_self (by rw [size_put, size_put, size_put, size_put]; exact k5)]
  rw [O.pF.2]
  refine ⟨huE.ext_trans hu5, wpE_done R.r6 (fun u6 hu6 => ?_) 0⟩
  exact h u6 vA vB _ vD vE (ownsRow_mod hE (hu5.ext_trans hu6) (fun _ _ f => f)) ((huE.ext_trans hu5).ext_trans hu6)
 -- the first part appended, from a world that holds the literal of none
 have addB : ∀ (u : World) (p : Nat) (b : Act) (K : Act → World → Prop), Ext w0 u → u.ownsRow w0.heap.size T size (.slice (some ⟨p, 0, none⟩) 0 0) 0 [] → b.eval (.tmp dA) = .slice (some ⟨p, 0, none⟩) 0 0 → b.eval (.tmp s1) = .slice a1 n1 c1 →
   (∀ vB u', Ext w0 u' → u'.ownsRow w0.heap.size T size vB n1 xs1 → (∀ k, u.heap.size ≤ k ∨ k = p ∨ vB.ownBlock ≠ some k) → Mod (fun k => k = p) u u' → K (b.put (some dB) vB) u') → wpOp P ops Q iB K b u := by
  intro u p b K hu hA hd1 hd2 hK
  obtain ⟨vB, u1, hrB, hB, hmB, hbk⟩ := run_append_reads (P := P) (w := u) t oB.type w0.heap.size T z size bytes hinfo htt hzs hsz (.slice (some ⟨p, 0, none⟩) 0 0) 0 [] hA a1 n1 c1 xs1 (r1.mod hu (fun _ _ f => f)) o1 (by omega) hb1 hu.size
  refine wpOp_run O.B gB (run_call_append _ _ t O.pB.1 (v := .slice (some ⟨p, 0, none⟩) 0 0) (u := .slice a1 n1 c1) hd1 hd2 hrB) ?_
  rw [O.pB.2]
  refine hK vB u1 (hu.over hmB (fun k hk => (hA.lt k hk).1)) (by simpa using hB) (fun k => ?_) (hmB.mono fun k _ hk => by simpa [Value.ownBlock] using hk.symm)
  by_cases hk1 : u.heap.size ≤ k
  ·exact .inl hk1
  ·by_cases hk2 : k = p
   ·exact .inr (.inl hk2)
   ·refine .inr (.inr fun e => ?_)
    rcases hbk with hb | hb
    ·rw [hb] at e
     exact hk2 (by simpa [Value.ownBlock] using e.symm)
    ·exact hk1 (hb k e)
 have lit : ∀ u : World, Ext w0 u → (u.alloc (.cells #[] T)).ownsRow w0.heap.size T size (.slice (some ⟨u.heap.size, 0, none⟩) 0 0) 0 [] := fun u hu =>
  ownsRow_base (World.ownsRow_lit u #[] 0 (Nat.le_refl _) (Nat.zero_le _) (by simp)) hu.size
 refine wpE_all R.r0 (by simp) fun i hi u0 hu0 => ?_
 have hi' : i = iA ∨ i = iC := by simpa using hi
 have hx0 := hx.ext_trans hu0
 rcases hi' with rfl | rfl
 ·refine wpOp_run O.A gA (hL.mk0 _ oA u0 O.pA.1) ?_
  rw [O.pA.2]
  refine ⟨hx0.alloc _, wpE_all R.rA (by simp) fun i hi u1 hu1 => ?_⟩
  have hi' : i = iB ∨ i = iC := by simpa using hi
  have hx1 := (hx0.alloc _).ext_trans hu1
  have hA1 := ownsRow_mod (lit u0 hx0) hu1 (fun _ _ f => f)
  have hAl : u0.heap.size < u1.heap.size := by have := hu1.size; simp at this; omega
  rcases hi' with rfl | rfl
  ·refine addB u1 u0.heap.size _ _ hx1 hA1 (eval_put_self k1) (by rw [eval_put_other q4, e1]) fun vB u2 hx2 hB2 hbk hmod => ⟨hx2, wpE_all R.rAB (by simp) fun i hi u3 hu3 => ?_⟩
   obtain rfl : i = iC := by simpa using hi
   have hx3 := hx2.ext_trans hu3
   have hB3 := ownsRow_mod hB2 hu3 (fun _ _ f => f)
   refine wpOp_run O.C gC (hL.mk1 _ oC u3 (.tmp x) V O.pC.1 (by rw [eval_put_other q9, eval_put_other q6, e3]) hV.1 hV.2.1 hV.2.2) ?_
   rw [O.pC.2]
   refine ⟨hx3.alloc _, fin _ _ vB u3.heap.size (hx3.alloc _) (hB3.alloc _) (fun e => ?_) (Blk.new _ _ _)⟩
   exact Nat.lt_irrefl _ (hB3.lt _ e).2
  ·refine wpOp_run O.C gC (hL.mk1 _ oC u1 (.tmp x) V O.pC.1 (by rw [eval_put_other q6, e3]) hV.1 hV.2.1 hV.2.2) ?_
   rw [O.pC.2]
   refine ⟨hx1.alloc _, wpE_all R.rAC (by simp) fun i hi u2 hu2 => ?_⟩
   obtain rfl : i = iB := by simpa using hi
   have hx2 := (hx1.alloc _).ext_trans hu2
   have hb2' := (Blk.new u1 T V.cells).mod hu2 (fun f => f)
   refine addB u2 u0.heap.size _ _ hx2 (ownsRow_mod (hA1.alloc _) hu2 (fun _ _ f => f)) (by rw [eval_put_other (Ne.symm q2), eval_put_self k1]) (by rw [eval_put_other q10, eval_put_other q4, e1]) fun vB u3 hx3 hB3 hbk hmod => ⟨hx3, ?_⟩
   rw [put5 _ dC dB _ _ (Ne.symm q3), Array.setIfInBounds_comm _ _ (Ne.symm O.ix.2)]
   refine fin _ _ vB u1.heap.size hx3 hB3 ?_ (hb2'.mod hmod (fun e => by omega))
   rcases hbk u1.heap.size with h1 | h1 | h1
   ·exact absurd hb2'.lt (by omega)
   ·omega
   ·exact h1
 ·refine wpOp_run O.C gC (hL.mk1 _ oC u0 (.tmp x) V O.pC.1 e3 hV.1 hV.2.1 hV.2.2) ?_
  rw [O.pC.2]
  refine ⟨hx0.alloc _, wpE_all R.rC (by simp) fun i hi u1 hu1 => ?_⟩
  obtain rfl : i = iA := by simpa using hi
  have hx1 := (hx0.alloc _).ext_trans hu1
  have hC1 := (Blk.new u0 T V.cells).mod hu1 (fun f => f)
  refine wpOp_run O.A gA (hL.mk0 _ oA u1 O.pA.1) ?_
  rw [O.pA.2]
  refine ⟨hx1.alloc _, ?_⟩
  rw [Array.setIfInBounds_comm _ _ (Ne.symm O.ix.1)]
  refine wpE_all R.rAC (by simp) fun i hi u2 hu2 => ?_
  obtain rfl : i = iB := by simpa using hi
  have hx2 := (hx1.alloc _).ext_trans hu2
  have hC2 := (hC1.alloc (.cells #[] T)).mod hu2 (fun f => f)
  have hlt := hC1.lt
  refine addB u2 u1.heap.size _ _ hx2 (ownsRow_mod (lit u1 hx1) hu2 (fun _ _ f => f)) (eval_put_self (by rw [size_put]; exact k1)) (by rw [eval_put_other q4, eval_put_other q10, e1]) fun vB u3 hx3 hB3 hbk hmod => ⟨hx3, ?_⟩
  rw [put5 _ dC dA _ _ (Ne.symm q2), put5 _ dC dB _ _ (Ne.symm q3), Array.setIfInBounds_comm _ _ (Ne.symm O.ix.2)]
  refine fin _ _ vB u0.heap.size hx3 hB3 ?_ (hC2.mod hmod (fun e => by omega))
  rcases hbk u0.heap.size with h1 | h1 | h1
  ·exact absurd hC2.lt (by omega)
  ·omega
  ·exact h1
end
structure Box (P : Program) (T : TypeId) (z : Array Value) : Prop where
 make : ∀ (ρ : Operand → Value) (o : Oper) (w : World), o.op = .alloc T → (execOp ρ o).run P w = .ok (.value (.pointer (some ⟨w.heap.size, 0, none⟩))) (w.alloc (.cells z T))
 store : ∀ (ρ : Operand → Value) (o : Oper) (w : World) (d s : Operand) (p : Nat) (y x : Array Value), o.op = .store T d s → ρ d = .pointer (some ⟨p, 0, none⟩) → ρ s = .agg x → x.size = z.size → (∀ u ∈ x.toList, u.oneCell' = true) → y.size = z.size → Blk w p T y →
  ∃ w', (execOp ρ o).run P w = .ok .skip w' ∧ Blk w' p T x ∧ Mod (· = p) w w'
section
variable {P : Program} {md : Region.Mode} {ops : Array Oper} {Q : Exit → Act → World → Prop} {w0 : World}
theorem wpE_boxT {T : TypeId} {z : Array Value} (B : Box P T z) (i1 i2 d1 s1 : Nat) {o1 o2 : Oper} {fuel : Nat} {listed : Array Bool} {a : Act} {w : World} {x : Array Value}
  (h1 : ops[i1]? = some o1) (h2 : ops[i2]? = some o2) (g : o1.guard = none ∧ o2.guard = none)
  (p1 : o1.op = .alloc T ∧ o1.dst = some d1) (p2 : o2.op = .store T (.tmp d1) (.tmp s1) ∧ o2.dst = none)
  (r0 : Region.ready md ops listed = [i1]) (r1 : Region.ready md ops (listed.setIfInBounds i1 true) = [i2])
  (hd : d1 < a.tmps.size ∧ d1 ≠ s1) (e1 : a.eval (.tmp s1) = .agg x) (hxs : x.size = z.size) (c : ∀ u ∈ x.toList, u.oneCell' = true)
  (hx : Ext w0 w) (h : ∀ w' p, Ext w0 w' → w0.heap.size ≤ p → Blk w' p T x → wpE P md ops Q w0 fuel ((listed.setIfInBounds i1 true).setIfInBounds i2 true) (a.put (some d1) (.pointer (some ⟨p, 0, none⟩))) w') : wpE P md ops Q w0 (fuel + 2) listed a w := by
 refine wpE_all r0 (by simp) fun i hi u hu => ?_
 obtain rfl : i = i1 := by simpa using hi
 have hxu := hx.ext_trans hu
 refine wpOp_run h1 g.1 (B.make _ o1 u p1.1) ?_
 rw [p1.2]
 refine ⟨hxu.alloc _, wpE_all r1 (by simp) fun j hj v hv => ?_⟩
 obtain rfl : j = i2 := by simpa using hj
 have hb := (Blk.new u T z).mod hv (fun f => f)
 obtain ⟨w', hrun, hb', hm⟩ := B.store (a.put (some d1) (.pointer (some ⟨u.heap.size, 0, none⟩))).eval o2 v (.tmp d1) (.tmp s1) u.heap.size z x p2.1 (eval_put_self hd.1) (by rw [eval_put_other hd.2, e1]) hxs c rfl hb
 refine wpOp_skip h2 g.2 hrun ?_
 rw [p2.2]
 have hxv := (hxu.alloc (.cells z T)).ext_trans hv
 have hxw : Ext w0 w' := hxv.trans hm (fun i hi e => by have := hxu.size; omega)
 exact ⟨hxw, h w' u.heap.size hxw hxu.size hb'⟩
theorem wpE_box {T : TypeId} {z : Array Value} (B : Box P T z) (i1 i2 d1 s1 : Nat) {o1 o2 : Oper} {listed : Array Bool} {a : Act} {w : World} {x : Array Value}
  (h1 : ops[i1]? = some o1) (h2 : ops[i2]? = some o2) (g : o1.guard = none ∧ o2.guard = none)
  (p1 : o1.op = .alloc T ∧ o1.dst = some d1) (p2 : o2.op = .store T (.tmp d1) (.tmp s1) ∧ o2.dst = none)
  (r0 : Region.ready md ops listed = [i1]) (r1 : Region.ready md ops (listed.setIfInBounds i1 true) = [i2]) (r2 : Region.ready md ops ((listed.setIfInBounds i1 true).setIfInBounds i2 true) = [])
  (hd : d1 < a.tmps.size ∧ d1 ≠ s1) (e1 : a.eval (.tmp s1) = .agg x) (hxs : x.size = z.size) (c : ∀ u ∈ x.toList, u.oneCell' = true)
  (hx : Ext w0 w) (h : ∀ w' p, Ext w0 w' → w0.heap.size ≤ p → Blk w' p T x → Q .normal (a.put (some d1) (.pointer (some ⟨p, 0, none⟩))) w') : wpE P md ops Q w0 2 listed a w :=
 wpE_boxT (fuel := 0) B i1 i2 d1 s1 h1 h2 g p1 p2 r0 r1 hd e1 hxs c hx (fun w' p hxw hp hb => wpE_done r2 (fun w2 hw2 => h w2 p (hxw.ext_trans hw2) hp (hb.mod hw2 (fun f => f))) 0)
theorem wpE_one (i d : Nat) {o : Oper} {fuel : Nat} {listed : Array Bool} {a : Act} {w : World} (hi : ops[i]? = some o) (hd : o.dst = some d) (hg : o.guard = none) (hr : Region.ready md ops listed = [i])
  (h : ∀ w', Ext w w' → ∃ v w2, (execOp a.eval o).run P w' = .ok (.value v) w2 ∧ Ext w0 w2 ∧ wpE P md ops Q w0 fuel (listed.setIfInBounds i true) (a.put (some d) v) w2) : wpE P md ops Q w0 (fuel + 1) listed a w := by
 refine wpE_all hr (by simp) fun j hj w' hw' => ?_
 obtain rfl : j = i := by simpa using hj
 obtain ⟨v, w2, hrun, h1, h2⟩ := h w' hw'
 refine wpOp_run hi hg hrun ?_
 rw [hd]
 exact ⟨h1, h2⟩
end
end Go.Gim

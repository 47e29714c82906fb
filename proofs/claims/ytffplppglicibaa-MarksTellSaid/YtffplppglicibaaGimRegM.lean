/- As GimReg, but the operations may change blocks of a set S that what is taken first does not look at; the last operation may change whatever. Guarded operations too. Conditions: none. -/
import Derived.Test.YtffplppglicibaaGimReg4
import Derived.Test.YtffplppglicibaaGimTailM
import Derived.Test.YtffplppglicibaaGimAppend
namespace Go.Gim
open Go.RowKit

section
variable {P : Program} {md : Region.Mode} {ops : Array Oper} {Q : Exit → Act → World → Prop} {S : Nat → Prop} {w0 : World}

/-- Whatever order is picked from here on, whatever new memory is made between, and whatever changes in S. -/
def wpM (P : Program) (md : Region.Mode) (ops : Array Oper) (Q : Exit → Act → World → Prop) (S : Nat → Prop) (w0 : World) : Nat → Array Bool → Act → World → Prop
  | 0, listed, a, w => Region.ready md ops listed = [] ∧ ∀ w', Ext w w' → Q .normal a w'
  | fuel + 1, listed, a, w =>
    (Region.ready md ops listed = [] → ∀ w', Ext w w' → Q .normal a w') ∧
    ∀ i ∈ Region.ready md ops listed, ∀ w', Ext w w' → wpOp P ops Q i (fun a' w'' => (i = ops.size - 1 ∨ Mod S w0 w'') ∧ wpM P md ops Q S w0 fuel (listed.setIfInBounds i true) a' w'') a w'
theorem wpAny_of_M : ∀ (fuel : Nat) (listed : Array Bool) (a : Act) (w : World), wpM P md ops Q S w0 fuel listed a w → wpAny P md ops Q fuel listed a w
  | 0, _, _, w, h => ⟨h.1, h.2 w (Mod.refl _ w)⟩
  | f + 1, _, _, w, h => ⟨fun h0 => h.1 h0 w (Mod.refl _ w), fun i hi => wpOp_mono (fun a' w' h' => wpAny_of_M f _ a' w' h'.2) (h.2 i hi w (Mod.refl _ w))⟩
theorem wpM_ext : ∀ (fuel : Nat) (listed : Array Bool) (a : Act) (w w1 : World), Ext w w1 → wpM P md ops Q S w0 fuel listed a w → wpM P md ops Q S w0 fuel listed a w1
  | 0, _, _, _, _, hx, h => ⟨h.1, fun w' hw' => h.2 w' (hx.ext_trans hw')⟩
  | _ + 1, _, _, _, _, hx, h => ⟨fun h0 w' hw' => h.1 h0 w' (hx.ext_trans hw'), fun i hi w' hw' => h.2 i hi w' (hx.ext_trans hw')⟩
theorem Mod.then {a b c : World} (h : Mod S a b) (k : Ext b c) : Mod S a c := h.trans k (fun _ _ f => f.elim)
/-- In whatever world that has changed in S alone, the operation yields v; or it is not wanted. -/
def QuietM (P : Program) (ops : Array Oper) (S : Nat → Prop) (w0 : World) (o : Oper) (v : Value) (a : Act) : Prop :=
  (Region.wanted o (yielded ops a.tmps) = true ∧ ∀ w', Mod S w0 w' → QAt P w' v ((execOp a.eval o).run P w')) ∨ (Region.wanted o (yielded ops a.tmps) = false ∧ v = undef)
theorem QuietM.wpOp {i : Nat} {o : Oper} {v : Value} {a : Act} (hi : ops[i]? = some o) (hy : QuietM P ops S w0 o v a) {K : Act → World → Prop} {w : World} (hw : Mod S w0 w) (h : ∀ w2, Ext w w2 → K (a.put o.dst v) w2) : wpOp P ops Q i K a w := by
  unfold Go.wpOp
  rcases hy with hy | ⟨hy, rfl⟩
  · simp only [hi, hy.1, if_true]
    refine .inl ?_
    unfold Oper.wp
    have h1 := hy.2 w hw
    generalize (execOp a.eval o).run P w = r at *
    cases r with
    | ok n w' =>
      cases n <;> simp only [QAt] at h1
      case value u => obtain ⟨rfl, hx⟩ := h1; simp only [Oper.upon]; exact h _ hx
      case enter f args =>
        obtain ⟨rfl, hc⟩ := h1
        simp only [Oper.upon]
        exact hc.mono fun e w2 ⟨he, hx⟩ => by rw [he]; exact h _ hx
    | halt x w' => simp only [QAt] at h1
  · simp only [hi, hy, Bool.false_eq_true, if_false]
    exact h w (Mod.refl _ w)
theorem wpOp_putM {j : Nat} {oi oj : Oper} {v : Value} (hj : ops[j]? = some oj) (hap : oi.apart ops oj = true)
    (hsi : ∀ cs b, oi.op ≠ .select cs b) (hsj : ∀ cs b, oj.op ≠ .select cs b)
    (hQ : ∀ c a w, Q (.panic c) (a.put oi.dst v) w → Q (.panic c) a w) {K : Act → World → Prop} {a : Act} {w : World}
    (hy : QuietM P ops S w0 oi v a) (h : wpOp P ops Q j K (a.put oi.dst v) w) :
    wpOp P ops Q j (fun a' w' => QuietM P ops S w0 oi v a' ∧ K (a'.put oi.dst v) w') a w := by
  obtain ⟨h1, h2, h3⟩ := Oper.apart_spec hap
  have keep : ∀ (b : Act), QuietM P ops S w0 oi v b → ∀ u, QuietM P ops S w0 oi v (b.put oj.dst u) := fun b hb u => by
    unfold QuietM at *
    rw [execOp_put oi hsi b oj.dst u h3, wanted_put oi b oj.dst u h3]; exact hb
  have keepD : ∀ d, QuietM P ops S w0 oi v { a with defers := d :: a.defers } := fun _ => hy
  unfold wpOp at *
  simp only [hj] at *
  rw [wanted_put oj a oi.dst v h1] at h
  by_cases hw : Region.wanted oj (yielded ops a.tmps) = true
  · rw [if_pos hw] at h ⊢
    rcases h with h | ⟨hasks, hlets⟩
    case inr => exact .inr ⟨by unfold Oper.asks at *; rw [execOp_put oj hsj a oi.dst v h1] at hasks; exact hasks, hlets⟩
    refine .inl ?_
    unfold Oper.wp at *
    rw [execOp_put oj hsj a oi.dst v h1] at h
    generalize (execOp a.eval oj).run P w = r at *
    cases r with
    | ok n w' =>
      cases n <;> simp only [Oper.upon] at h ⊢
      case value u => exact ⟨keep a hy u, by rw [← Act.put_comm a v u h2]; exact h⟩
      case skip => exact ⟨keep a hy _, by rw [← Act.put_comm a v undef h2]; exact h⟩
      case defer d => exact ⟨keep _ (keepD d) _, by rw [← Act.put_comm _ v undef h2, ← Act.put_defers]; exact h⟩
      case enter f args =>
        refine Calls.mono h fun e w'' he => ?_
        cases e with
        | returned u => exact ⟨keep a hy u, by rw [← Act.put_comm a v u h2]; exact he⟩
        | panicked c => exact hQ _ _ _ he
        | outgrown => exact he
      case row row args => exact Rows.mono h fun u w'' he => ⟨keep a hy u, by rw [← Act.put_comm a v u h2]; exact he⟩
    | halt x w' =>
      cases x <;> simp only [Oper.upon] at h ⊢
      case panic u => exact hQ _ _ _ h
  · rw [if_neg hw] at h ⊢
    exact ⟨keep a hy _, by rw [← Act.put_comm a v undef h2]; exact h⟩

theorem wpM_first {i : Nat} {oi : Oper} {v : Value} (hi : ops[i]? = some oi) (hsel : ∀ (j : Nat) (o : Oper) cs b, ops[j]? = some o → o.op ≠ .select cs b)
    (hQ : ∀ c a w, Q (.panic c) (a.put oi.dst v) w → Q (.panic c) a w) (hlast : i = ops.size - 1 ∨ Region.waitsFor md ops (ops.size - 1) i = true) :
    ∀ (fuel : Nat) (listed : Array Bool) (a : Act) (w : World),
      (∀ j oj, ops[j]? = some oj → j ≠ i → listed.getD j true = false → (∀ e ∈ oj.after, Region.binds md e = true → e.on ≠ i) → oi.apart ops oj = true) →
      i ∈ Region.ready md ops listed → QuietM P ops S w0 oi v a → Mod S w0 w →
      wpM P md ops Q S w0 fuel (listed.setIfInBounds i true) (a.put oi.dst v) w → wpM P md ops Q S w0 (fuel + 1) listed a w := by
  intro fuel
  induction fuel with
  | zero =>
    intro listed a w _ hr hy hx H
    refine ⟨fun h => (by rw [h] at hr; cases hr), fun j hj w' hw' => ?_⟩
    by_cases hji : j = i
    · subst hji
      exact hy.wpOp hi (hx.then hw') fun w2 h2 => ⟨.inr ((hx.then hw').then h2), wpM_ext 0 _ _ _ _ (hw'.ext_trans h2) H⟩
    · have := ready_mono hj hji
      rw [H.1] at this
      cases this
  | succ fuel ih =>
    intro listed a w hfree hr hy hx H
    refine ⟨fun h => (by rw [h] at hr; cases hr), fun j hj w' hw' => ?_⟩
    by_cases hji : j = i
    · subst hji
      exact hy.wpOp hi (hx.then hw') fun w2 h2 => ⟨.inr ((hx.then hw').then h2), wpM_ext _ _ _ _ _ (hw'.ext_trans h2) H⟩
    · have h1 := H.2 j (ready_mono hj hji) w' hw'
      obtain ⟨hjun, oj, hoj, hall⟩ := mem_ready.1 hj
      have hnot : ∀ e ∈ oj.after, Region.binds md e = true → e.on ≠ i := fun e he hb heq => by
        have h1 := hall e he hb
        have h0 := (mem_ready.1 hr).1
        rw [heq] at h1
        rcases Nat.lt_or_ge i listed.size with h' | h'
        · simp [h'] at h0 h1; rw [h0] at h1; cases h1
        · simp [Array.getElem?_eq_none h'] at h1
      have hjl : j ≠ ops.size - 1 := fun e => by
        rcases hlast with h | h
        · exact hji (e.trans h.symm)
        · obtain ⟨oL, hoL, e', he', hb', hon'⟩ := Region.waitsFor_spec h
          rw [← e] at hoL
          rw [hoj] at hoL
          cases hoL
          exact hnot e' he' hb' hon'
      have h2 := wpOp_putM hoj (hfree j oj hoj hji hjun hnot) (fun cs b => hsel i oi cs b hi) (fun cs b => hsel j oj cs b hoj) hQ hy h1
      have hfree' : ∀ k ok, ops[k]? = some ok → k ≠ i → (listed.setIfInBounds j true).getD k true = false →
          (∀ e ∈ ok.after, Region.binds md e = true → e.on ≠ i) → oi.apart ops ok = true := fun k ok hk hki hun hno => by
        refine hfree k ok hk hki ?_ hno
        by_cases hjk : j = k
        · subst hjk; exact hjun
        · rw [getD_set_ne true hjk] at hun; exact hun
      refine wpOp_mono (fun a' w'' h3 => ⟨h3.2.1, ih (listed.setIfInBounds j true) a' w'' hfree' (ready_mono hr (Ne.symm hji)) h3.1 (h3.2.1.resolve_left hjl) ?_⟩) h2
      rw [Array.setIfInBounds_comm _ _ hji]
      exact h3.2.2

/-- Take number i first. -/
theorem wpM_take (i d : Nat) {oi : Oper} {v : Value} {fuel : Nat} {listed : Array Bool} {a : Act} {w : World} (hi : ops[i]? = some oi) (hd : oi.dst = some d)
    (hs : Region.noSelect ops = true) (hf : Region.free md ops listed i = true) (hr : (Region.ready md ops listed).contains i = true) (hl : Region.waitsFor md ops (ops.size - 1) i = true)
    (hQ : ∀ c a w, Q (.panic c) (a.put oi.dst v) w → Q (.panic c) a w) (hx : Mod S w0 w) (hw : Region.wanted oi (yielded ops a.tmps) = true) (hy : ∀ w', Mod S w0 w' → QAt P w' v ((execOp a.eval oi).run P w'))
    (h : wpM P md ops Q S w0 fuel (listed.setIfInBounds i true) (a.put (some d) v) w) : wpM P md ops Q S w0 (fuel + 1) listed a w :=
  wpM_first hi (Region.noSelect_spec hs) hQ (.inr hl) fuel listed a w (Region.free_spec hi hf) (by simpa using hr) (.inl ⟨hw, hy⟩) hx (by rw [hd]; exact h)
/-- Number i is not wanted. -/
theorem wpM_skip (i d : Nat) {oi : Oper} {fuel : Nat} {listed : Array Bool} {a : Act} {w : World} (hi : ops[i]? = some oi) (hd : oi.dst = some d)
    (hs : Region.noSelect ops = true) (hf : Region.free md ops listed i = true) (hr : (Region.ready md ops listed).contains i = true) (hl : Region.waitsFor md ops (ops.size - 1) i = true)
    (hQ : ∀ c a w, Q (.panic c) (a.put oi.dst undef) w → Q (.panic c) a w) (hx : Mod S w0 w) (hw : Region.wanted oi (yielded ops a.tmps) = false)
    (h : wpM P md ops Q S w0 fuel (listed.setIfInBounds i true) (a.put (some d) undef) w) : wpM P md ops Q S w0 (fuel + 1) listed a w :=
  wpM_first hi (Region.noSelect_spec hs) hQ (.inr hl) fuel listed a w (Region.free_spec hi hf) (by simpa using hr) (.inr ⟨hw, rfl⟩) hx (by rw [hd]; exact h)
/-- The beginning. -/
theorem wp_region_M (S : Nat → Prop) {id : Nat} {a : Act} {w : World} (hm : P.follows .mixedOrders = true)
    (h : wpM P .any ops Q S w ops.size (Array.replicate ops.size false) a { w with drawn := w.drawn + 1 }) : (Code.region id ops true).wp P Q a w :=
  wp_region_any hm (wpAny_of_M _ _ _ _ h)
theorem mod_draw (w : World) : Mod S w { w with drawn := w.drawn + 1 } := ⟨rfl, rfl, rfl, Nat.le_refl _, fun _ _ _ => rfl⟩
theorem wpM_done {listed : Array Bool} {a : Act} {w : World} (hr : Region.ready md ops listed = []) (h : ∀ w', Ext w w' → Q .normal a w') : ∀ fuel, wpM P md ops Q S w0 fuel listed a w
  | 0 => ⟨hr, h⟩
  | _ + 1 => ⟨fun _ => h, by rw [hr]; simp⟩
/-- One operation alone may come up. -/
theorem wpM_next (i : Nat) {o : Oper} {fuel : Nat} {listed : Array Bool} {a : Act} {w : World} (hi : ops[i]? = some o) (hr : Region.ready md ops listed = [i]) (hw : Region.wanted o (yielded ops a.tmps) = true)
    (h : ∀ w', Ext w w' → Oper.wp P o a w' (fun a' w'' => (i = ops.size - 1 ∨ Mod S w0 w'') ∧ wpM P md ops Q S w0 fuel (listed.setIfInBounds i true) a' w'') Q) : wpM P md ops Q S w0 (fuel + 1) listed a w := by
  refine ⟨fun h0 => (by rw [hr] at h0; cases h0), fun j hj w' hw' => ?_⟩
  rw [hr] at hj
  obtain rfl : j = i := by simpa using hj
  unfold wpOp
  simp only [hi, hw, if_true]
  exact .inl (h w' hw')
/-- It makes a value. -/
theorem wpM_one (i d : Nat) {o : Oper} {fuel : Nat} {listed : Array Bool} {a : Act} {w : World} (hi : ops[i]? = some o) (hd : o.dst = some d) (hr : Region.ready md ops listed = [i]) (hw : Region.wanted o (yielded ops a.tmps) = true)
    (h : ∀ w', Ext w w' → ∃ v w2, (execOp a.eval o).run P w' = .ok (.value v) w2 ∧ (i = ops.size - 1 ∨ Mod S w0 w2) ∧ wpM P md ops Q S w0 fuel (listed.setIfInBounds i true) (a.put (some d) v) w2) : wpM P md ops Q S w0 (fuel + 1) listed a w := by
  refine wpM_next i hi hr hw fun w' hw' => ?_
  obtain ⟨v, w2, hrun, h1, h2⟩ := h w' hw'
  unfold Oper.wp
  rw [hrun]
  simp only [Oper.upon]
  rw [hd]
  exact ⟨h1, h2⟩
/-- It stores. -/
theorem wpM_put (i : Nat) {o : Oper} {fuel : Nat} {listed : Array Bool} {a : Act} {w : World} (hi : ops[i]? = some o) (hd : o.dst = none) (hr : Region.ready md ops listed = [i]) (hw : Region.wanted o (yielded ops a.tmps) = true)
    (h : ∀ w', Ext w w' → ∃ w2, (execOp a.eval o).run P w' = .ok .skip w2 ∧ (i = ops.size - 1 ∨ Mod S w0 w2) ∧ wpM P md ops Q S w0 fuel (listed.setIfInBounds i true) a w2) : wpM P md ops Q S w0 (fuel + 1) listed a w := by
  refine wpM_next i hi hr hw fun w' hw' => ?_
  obtain ⟨w2, hrun, h1, h2⟩ := h w' hw'
  unfold Oper.wp
  rw [hrun]
  simp only [Oper.upon]
  rw [hd]
  exact ⟨h1, h2⟩
/-- It calls. -/
theorem wpM_call (i d : Nat) {o : Oper} {f : FuncId} {args : Array Value} {fuel : Nat} {listed : Array Bool} {a : Act} {w : World} (hi : ops[i]? = some o) (hd : o.dst = some d) (hr : Region.ready md ops listed = [i]) (hw : Region.wanted o (yielded ops a.tmps) = true)
    (hrun : ∀ w', (execOp a.eval o).run P w' = .ok (.enter f args) w')
    (hc : ∀ w', Ext w w' → Calls P f args w' (fun e w'' => ∃ v, e = .returned v ∧ (i = ops.size - 1 ∨ Mod S w0 w'') ∧ wpM P md ops Q S w0 fuel (listed.setIfInBounds i true) (a.put (some d) v) w'')) : wpM P md ops Q S w0 (fuel + 1) listed a w := by
  refine wpM_next i hi hr hw fun w' hw' => ?_
  unfold Oper.wp
  rw [hrun w']
  simp only [Oper.upon]
  refine (hc w' hw').mono ?_
  rintro e w'' ⟨v, rfl, h1, h2⟩
  rw [hd]
  exact ⟨h1, h2⟩
/-- It appends to a row of the call's own. -/
theorem wpM_append (i d : Nat) {o : Oper} {fuel : Nat} {listed : Array Bool} {a : Act} {w : World} (hi : ops[i]? = some o) (hd : o.dst = some d) (hr : Region.ready md ops listed = [i]) (hw : Region.wanted o (yielded ops a.tmps) = true)
    (s x : Operand) (t : TypeId) (ho : o.op = .call { callee := .builtin .append, args := #[s, x], argTypes := #[t, t] })
    (base : Nat) (e : TypeId) (z : Value) (size bytes : Nat) (hinfo : (P.info? e).map (fun i => (i.zero, i.size, i.bytes)) = some (some z, size, bytes)) (ht : P.underlying t = some (.slice e))
    (hzs : z.cells.size = size) (hsz : 0 < size)
    (v : Value) (n : Nat) (xs : List Value) (hs : a.eval s = v) (ao : Option Addr) (m c : Nat) (news : List Value) (hx : a.eval x = .slice ao m c) (h1 : ∀ u ∈ news, u.oneCell' = true)
    (h63 : n + m ≤ maxLen) (hbytes : (n + m) * bytes ≤ 140737488355328) (hbase : base ≤ w.heap.size)
    (hown : w.ownsRow base e size v n xs) (hrd : Reads w size ao m news) (hm : Mod S w0 w) (hS : ∀ k, v.ownBlock = some k → k < w0.heap.size → S k)
    (h : ∀ wb v' w', Ext w wb → w'.ownsRow base e size v' (n + m) (xs ++ news) → Mod (fun k => v.ownBlock = some k) wb w' → (v'.ownBlock = v.ownBlock ∨ ∀ k, v'.ownBlock = some k → wb.heap.size ≤ k) → wpM P md ops Q S w0 fuel (listed.setIfInBounds i true) (a.put (some d) v') w') :
    wpM P md ops Q S w0 (fuel + 1) listed a w := by
  refine wpM_one i d hi hd hr hw fun wb hwb => ?_
  obtain ⟨v', w', hrun, k1, k2, k3⟩ := run_append_reads (P := P) (w := wb) t o.type base e z size bytes hinfo ht hzs hsz v n xs (ownsRow_mod hown hwb (fun _ _ f => f)) ao m c news (hrd.mod hwb (fun _ _ f => f)) h1 h63 hbytes (Nat.le_trans hbase hwb.size)
  refine ⟨v', w', ?_, .inr ((hm.then hwb).trans k2 (fun j hj hk => hS j hk hj)), h wb v' w' hwb k1 k2 k3⟩
  simp [execOp, ho, resolve, invoke, builtin, hs, hx, hrun, Result.andThen]
/-- As wpE_call1, at a guarded operation. -/
theorem wpE_callw (i d : Nat) {o : Oper} {f : FuncId} {args : Array Value} {fuel : Nat} {listed : Array Bool} {a : Act} {w : World} (hi : ops[i]? = some o) (hd : o.dst = some d) (hr : Region.ready md ops listed = [i]) (hw : Region.wanted o (yielded ops a.tmps) = true)
    (hrun : ∀ w', (execOp a.eval o).run P w' = .ok (.enter f args) w')
    (hc : ∀ w', Ext w w' → Calls P f args w' (fun e w'' => ∃ v, e = .returned v ∧ Ext w0 w'' ∧ wpE P md ops Q w0 fuel (listed.setIfInBounds i true) (a.put (some d) v) w'')) : wpE P md ops Q w0 (fuel + 1) listed a w := by
  refine wpE_all hr (by simp) fun j hj w' hw' => ?_
  obtain rfl : j = i := by simpa using hj
  unfold wpOp
  simp only [hi, hw, if_true]
  refine .inl ?_
  unfold Oper.wp
  rw [hrun w']
  simp only [Oper.upon]
  refine (hc w' hw').mono ?_
  rintro e w'' ⟨v, rfl, h1, h2⟩
  rw [hd]
  exact ⟨h1, h2⟩
end
end Go.Gim

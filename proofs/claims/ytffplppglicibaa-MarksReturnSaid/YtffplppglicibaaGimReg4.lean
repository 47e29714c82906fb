/- The end of a region that makes one box and stores into it. Conditions: none. -/
import Derived.Test.YtffplppglicibaaGimReg2
namespace Go.Gim
open Go.RowKit

/-- What making a box does; what a store of a whole element into one does. -/
structure Box (P : Program) (T : TypeId) (z : Array Value) : Prop where
  make : ∀ (ρ : Operand → Value) (o : Oper) (w : World), o.op = .alloc T → (execOp ρ o).run P w = .ok (.value (.pointer (some ⟨w.heap.size, 0, none⟩))) (w.alloc (.cells z T))
  store : ∀ (ρ : Operand → Value) (o : Oper) (w : World) (d s : Operand) (p : Nat) (y x : Array Value), o.op = .store T d s → ρ d = .pointer (some ⟨p, 0, none⟩) → ρ s = .agg x → x.size = z.size → (∀ u ∈ x.toList, u.oneCell' = true) → y.size = z.size → Blk w p T y →
    ∃ w', (execOp ρ o).run P w = .ok .skip w' ∧ Blk w' p T x ∧ Mod (· = p) w w'

section
variable {P : Program} {md : Region.Mode} {ops : Array Oper} {Q : Exit → Act → World → Prop} {w0 : World}

theorem wpE_boxT {T : TypeId} {z : Array Value} (B : Box P T z) (i1 i2 d1 s1 : Nat) {o1 o2 : Oper} {fuel : Nat} {listed : Array Bool} {a : Act} {w : World} {x : Array Value}
    (h1 : ops[i1]? = some o1) (h2 : ops[i2]? = some o2) (g : o1.guard = none ∧ o2.guard = none)
    (p1 : o1.op = .alloc T ∧ o1.dst = some d1) (p2 : o2.op = .store T (.tmp d1) (.tmp s1) ∧ o2.dst = none)
    (r0 : Region.ready md ops listed = [i1]) (r1 : Region.ready md ops (listed.setIfInBounds i1 true) = [i2])
    (hd : d1 < a.tmps.size ∧ d1 ≠ s1) (e1 : a.eval (.tmp s1) = .agg x) (hxs : x.size = z.size) (c : ∀ u ∈ x.toList, u.oneCell' = true)
    (hx : Ext w0 w) (h : ∀ w' p, Ext w0 w' → w0.heap.size ≤ p → Blk w' p T x → wpE P md ops Q w0 fuel ((listed.setIfInBounds i1 true).setIfInBounds i2 true) (a.put (some d1) (.pointer (some ⟨p, 0, none⟩))) w') : wpE P md ops Q w0 (fuel + 2) listed a w := by
  refine wpE_all r0 (by simp) fun i hi u hu => ?_
  obtain rfl : i = i1 := by simpa using hi
  have hxu := hx.ext_trans hu
  refine wpOp_run h1 g.1 (B.make _ o1 u p1.1) ?_
  rw [p1.2]
  refine ⟨hxu.alloc _, wpE_all r1 (by simp) fun j hj v hv => ?_⟩
  obtain rfl : j = i2 := by simpa using hj
  have hb := (Blk.new u T z).mod hv (fun f => f)
  obtain ⟨w', hrun, hb', hm⟩ := B.store (a.put (some d1) (.pointer (some ⟨u.heap.size, 0, none⟩))).eval o2 v (.tmp d1) (.tmp s1) u.heap.size z x p2.1 (eval_put_self hd.1) (by rw [eval_put_other hd.2, e1]) hxs c rfl hb
  refine wpOp_skip h2 g.2 hrun ?_
  rw [p2.2]
  have hxv := (hxu.alloc (.cells z T)).ext_trans hv
  have hxw : Ext w0 w' := hxv.trans hm (fun i hi e => by have := hxu.size; omega)
  exact ⟨hxw, h w' u.heap.size hxw hxu.size hb'⟩
theorem wpE_box {T : TypeId} {z : Array Value} (B : Box P T z) (i1 i2 d1 s1 : Nat) {o1 o2 : Oper} {listed : Array Bool} {a : Act} {w : World} {x : Array Value}
    (h1 : ops[i1]? = some o1) (h2 : ops[i2]? = some o2) (g : o1.guard = none ∧ o2.guard = none)
    (p1 : o1.op = .alloc T ∧ o1.dst = some d1) (p2 : o2.op = .store T (.tmp d1) (.tmp s1) ∧ o2.dst = none)
    (r0 : Region.ready md ops listed = [i1]) (r1 : Region.ready md ops (listed.setIfInBounds i1 true) = [i2]) (r2 : Region.ready md ops ((listed.setIfInBounds i1 true).setIfInBounds i2 true) = [])
    (hd : d1 < a.tmps.size ∧ d1 ≠ s1) (e1 : a.eval (.tmp s1) = .agg x) (hxs : x.size = z.size) (c : ∀ u ∈ x.toList, u.oneCell' = true)
    (hx : Ext w0 w) (h : ∀ w' p, Ext w0 w' → w0.heap.size ≤ p → Blk w' p T x → Q .normal (a.put (some d1) (.pointer (some ⟨p, 0, none⟩))) w') : wpE P md ops Q w0 2 listed a w :=
  wpE_boxT (fuel := 0) B i1 i2 d1 s1 h1 h2 g p1 p2 r0 r1 hd e1 hxs c hx (fun w' p hxw hp hb => wpE_done r2 (fun w2 hw2 => h w2 p (hxw.ext_trans hw2) hp (hb.mod hw2 (fun f => f))) 0)
/-- One operation alone may come up, which makes a value, and new memory at most. -/
theorem wpE_one (i d : Nat) {o : Oper} {fuel : Nat} {listed : Array Bool} {a : Act} {w : World} (hi : ops[i]? = some o) (hd : o.dst = some d) (hg : o.guard = none) (hr : Region.ready md ops listed = [i])
    (h : ∀ w', Ext w w' → ∃ v w2, (execOp a.eval o).run P w' = .ok (.value v) w2 ∧ Ext w0 w2 ∧ wpE P md ops Q w0 fuel (listed.setIfInBounds i true) (a.put (some d) v) w2) : wpE P md ops Q w0 (fuel + 1) listed a w := by
  refine wpE_all hr (by simp) fun j hj w' hw' => ?_
  obtain rfl : j = i := by simpa using hj
  obtain ⟨v, w2, hrun, h1, h2⟩ := h w' hw'
  refine wpOp_run hi hg hrun ?_
  rw [hd]
  exact ⟨h1, h2⟩
end
end Go.Gim

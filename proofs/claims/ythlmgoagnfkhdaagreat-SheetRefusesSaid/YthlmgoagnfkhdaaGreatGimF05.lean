/- The end of a region that makes two boxes of two cells each: whichever comes first. Conditions: none. -/
import Derived.Test.YthlmgoagnfkhdaaGreatGimF04
set_option maxHeartbeats 6400000
set_option maxRecDepth 1000000
set_option linter.unusedVariables false
set_option linter.unusedSimpArgs false
namespace Go.Gim
open Go.RowKit
def TwoBoxes (wa wn : World) (p q : Nat) (T : TypeId) (x y : Value × Value) : Prop :=
 Ext wa wn ∧ wa.heap.size ≤ p ∧ wa.heap.size ≤ q ∧ p ≠ q ∧ Blk wn p T #[x.1, x.2] ∧ Blk wn q T #[y.1, y.2]
theorem Calls.same_ext {P : Program} {f : FuncId} {args : Array Value} {w : World} {v : Value} (h : Calls P f args w fun e w' => e = .returned v ∧ w' = w) : Calls P f args w fun e w' => e = .returned v ∧ Ext w w' :=
 h.mono fun _ _ ⟨he, hw⟩ => ⟨he, by rw [hw]; exact Mod.refl _ _⟩
structure Box2 (P : Program) (T : TypeId) (z0 z1 : Value) : Prop where
 make : ∀ (ρ : Operand → Value) (o : Oper) (w : World), o.op = .alloc T → (execOp ρ o).run P w = .ok (.value (.pointer (some ⟨w.heap.size, 0, none⟩))) (w.alloc (.cells #[z0, z1] T))
 store : ∀ (ρ : Operand → Value) (o : Oper) (w : World) (d s : Operand) (p : Nat) (y0 y1 x0 x1 : Value), o.op = .store T d s → ρ d = .pointer (some ⟨p, 0, none⟩) → ρ s = .agg #[x0, x1] → x0.oneCell' = true → x1.oneCell' = true → Blk w p T #[y0, y1] →
  (execOp ρ o).run P w = .ok .skip ((w.setCell ⟨p, 0, none⟩ x0).setCell ⟨p, 1, none⟩ x1)
section
variable {P : Program} {md : Region.Mode} {ops : Array Oper} {Q : Exit → Act → World → Prop} {w0 : World}
theorem wpOp_run {i : Nat} {o : Oper} {K : Act → World → Prop} {a : Act} {w w' : World} {v : Value} (hi : ops[i]? = some o) (hg : o.guard = none) (hr : (execOp a.eval o).run P w = .ok (.value v) w') (h : K (a.put o.dst v) w') : wpOp P ops Q i K a w := by
 unfold wpOp
 have hw : Region.wanted o (yielded ops a.tmps) = true := by simp [Region.wanted, hg]
 simp only [hi, hw, if_true]
 refine .inl ?_
 unfold Oper.wp
 rw [hr]; exact h
theorem wpOp_skip {i : Nat} {o : Oper} {K : Act → World → Prop} {a : Act} {w w' : World} (hi : ops[i]? = some o) (hg : o.guard = none) (hr : (execOp a.eval o).run P w = .ok .skip w') (h : K (a.put o.dst undef) w') : wpOp P ops Q i K a w := by
 unfold wpOp
 have hw : Region.wanted o (yielded ops a.tmps) = true := by simp [Region.wanted, hg]
 simp only [hi, hw, if_true]
 refine .inl ?_
 unfold Oper.wp
 rw [hr]; exact h
theorem wpE_all {rs : List Nat} {fuel : Nat} {listed : Array Bool} {a : Act} {w : World} (hr : Region.ready md ops listed = rs) (hne : rs ≠ [])
  (h : ∀ i ∈ rs, ∀ w', Ext w w' → wpOp P ops Q i (fun a' w'' => Ext w0 w'' ∧ wpE P md ops Q w0 fuel (listed.setIfInBounds i true) a' w'') a w') : wpE P md ops Q w0 (fuel + 1) listed a w :=
 ⟨fun h0 => absurd (hr ▸ h0) hne, hr ▸ h⟩
theorem wpE_done {listed : Array Bool} {a : Act} {w : World} (hr : Region.ready md ops listed = []) (h : ∀ w', Ext w w' → Q .normal a w') : ∀ fuel, wpE P md ops Q w0 fuel listed a w
 | 0 => ⟨hr, h⟩
 | _ + 1 => ⟨fun _ => h, by rw [hr]; simp⟩
theorem eval_put_self {a : Act} {d : Nat} {v : Value} (h : d < a.tmps.size) : (a.put (some d) v).eval (.tmp d) = v := by
 simp [Act.eval, Act.put, Array.getD_eq_getD_getElem?, h]
theorem eval_put_other {a : Act} {d e : Nat} {v : Value} (h : d ≠ e) : (a.put (some d) v).eval (.tmp e) = a.eval (.tmp e) := by
 simp [Act.eval, Act.put, Array.getD_eq_getD_getElem?, Array.getElem?_setIfInBounds_ne h]
theorem size_put {a : Act} {d : Nat} {v : Value} : (a.put (some d) v).tmps.size = a.tmps.size := by simp [Act.put]
theorem wpE_boxes2 {T : TypeId} {z0 z1 : Value} (B : Box2 P T z0 z1) (i1 i2 i3 i4 d1 d2 s1 s2 : Nat) {o1 o2 o3 o4 : Oper} {listed : Array Bool} {a : Act} {w : World} {x y : Value × Value}
  (h1 : ops[i1]? = some o1) (h2 : ops[i2]? = some o2) (h3 : ops[i3]? = some o3) (h4 : ops[i4]? = some o4)
  (g : o1.guard = none ∧ o2.guard = none ∧ o3.guard = none ∧ o4.guard = none)
  (p1 : o1.op = .alloc T ∧ o1.dst = some d1) (p2 : o2.op = .alloc T ∧ o2.dst = some d2) (p3 : o3.op = .store T (.tmp d1) (.tmp s1) ∧ o3.dst = none) (p4 : o4.op = .store T (.tmp d2) (.tmp s2) ∧ o4.dst = none)
  (r0 : Region.ready md ops listed = [i1, i2]) (r1 : Region.ready md ops (listed.setIfInBounds i1 true) = [i2]) (r2 : Region.ready md ops (listed.setIfInBounds i2 true) = [i1])
  (r3 : Region.ready md ops ((listed.setIfInBounds i1 true).setIfInBounds i2 true) = [i3]) (r4 : Region.ready md ops (((listed.setIfInBounds i1 true).setIfInBounds i2 true).setIfInBounds i3 true) = [i4])
  (r5 : Region.ready md ops ((((listed.setIfInBounds i1 true).setIfInBounds i2 true).setIfInBounds i3 true).setIfInBounds i4 true) = [])
  (hn : i1 ≠ i2) (hd : d1 < a.tmps.size ∧ d2 < a.tmps.size ∧ d1 ≠ d2 ∧ d1 ≠ s1 ∧ d1 ≠ s2 ∧ d2 ≠ s1 ∧ d2 ≠ s2)
  (e1 : a.eval (.tmp s1) = .agg #[x.1, x.2]) (e2 : a.eval (.tmp s2) = .agg #[y.1, y.2]) (c : x.1.oneCell' = true ∧ x.2.oneCell' = true ∧ y.1.oneCell' = true ∧ y.2.oneCell' = true)
  (hx : Ext w0 w) (h : ∀ w' p q, TwoBoxes w0 w' p q T x y → Q .normal ((a.put (some d1) (.pointer (some ⟨p, 0, none⟩))).put (some d2) (.pointer (some ⟨q, 0, none⟩))) w') : wpE P md ops Q w0 4 listed a w := by
 obtain ⟨k1, k2, k3, k4, k5, k6, k7⟩ := hd
 -- the stores, from a world that holds both boxes
 have fin : ∀ (u : World) (p q : Nat), Ext w0 u → w0.heap.size ≤ p → w0.heap.size ≤ q → p ≠ q → Blk u p T #[z0, z1] → Blk u q T #[z0, z1] →
   wpE P md ops Q w0 2 ((listed.setIfInBounds i1 true).setIfInBounds i2 true) ((a.put (some d1) (.pointer (some ⟨p, 0, none⟩))).put (some d2) (.pointer (some ⟨q, 0, none⟩))) u := by
  intro u p q hu hp hq hpq hb1 hb2
  refine wpE_all r3 (by simp) fun i hi w' hw' => ?_
  obtain rfl : i = i3 := by simpa using hi
  have hb1' := hb1.mod hw' (fun f => f)
  have hb2' := hb2.mod hw' (fun f => f)
  have hu' := hu.ext_trans hw'
  refine wpOp_skip h3 g.2.2.1 (B.store _ o3 w' (.tmp d1) (.tmp s1) p z0 z1 x.1 x.2 p3.1 (by rw [eval_put_other (Ne.symm k3), eval_put_self k1]) (by rw [eval_put_other k6, eval_put_other k4, e1]) c.1 c.2.1 hb1') ?_
  have hs1 : Blk ((w'.setCell ⟨p, 0, none⟩ x.1).setCell ⟨p, 1, none⟩ x.2) p T #[x.1, x.2] := (hb1'.set 0 _).set 1 _
  have hs2 : Blk ((w'.setCell ⟨p, 0, none⟩ x.1).setCell ⟨p, 1, none⟩ x.2) q T #[z0, z1] := (hb2'.set_other (p := ⟨p, 0, none⟩) (Ne.symm hpq) _).set_other (p := ⟨p, 1, none⟩) (Ne.symm hpq) _
  have hu2 : Ext w0 ((w'.setCell ⟨p, 0, none⟩ x.1).setCell ⟨p, 1, none⟩ x.2) := (hu'.setCell (p := ⟨p, 0, none⟩) (fun hl => absurd hl (Nat.not_lt.2 hp)) _).setCell (p := ⟨p, 1, none⟩) (fun hl => absurd hl (Nat.not_lt.2 hp)) _
  rw [p3.2]
  refine ⟨hu2, wpE_all r4 (by simp) fun i hi w2 hw2 => ?_⟩
  obtain rfl : i = i4 := by simpa using hi
  have hs1' := hs1.mod hw2 (fun f => f)
  have hs2' := hs2.mod hw2 (fun f => f)
  have hu3 := hu2.ext_trans hw2
  refine wpOp_skip h4 g.2.2.2 (B.store _ o4 w2 (.tmp d2) (.tmp s2) q z0 z1 y.1 y.2 p4.1 (by show Act.eval (Act.put _ (some d2) _) _ = _; rw [eval_put_self (by rw [size_put]; exact k2)]) (by show Act.eval (Act.put (Act.put a (some d1) _) (some d2) _) _ = _; rw [eval_put_other k7, eval_put_other k5, e2]) c.2.2.1 c.2.2.2 hs2') ?_
  rw [p4.2]
  have ht1 : Blk ((w2.setCell ⟨q, 0, none⟩ y.1).setCell ⟨q, 1, none⟩ y.2) p T #[x.1, x.2] := (hs1'.set_other (p := ⟨q, 0, none⟩) hpq _).set_other (p := ⟨q, 1, none⟩) hpq _
  have ht2 : Blk ((w2.setCell ⟨q, 0, none⟩ y.1).setCell ⟨q, 1, none⟩ y.2) q T #[y.1, y.2] := (hs2'.set 0 _).set 1 _
  have hu4 : Ext w0 ((w2.setCell ⟨q, 0, none⟩ y.1).setCell ⟨q, 1, none⟩ y.2) := (hu3.setCell (p := ⟨q, 0, none⟩) (fun hl => absurd hl (Nat.not_lt.2 hq)) _).setCell (p := ⟨q, 1, none⟩) (fun hl => absurd hl (Nat.not_lt.2 hq)) _
  refine ⟨hu4, wpE_done r5 (fun w3 hw3 => h w3 p q ⟨hu4.ext_trans hw3, hp, hq, hpq, ht1.mod hw3 (fun f => f), ht2.mod hw3 (fun f => f)⟩) 0⟩
 refine wpE_all r0 (by simp) fun i hi w' hw' => ?_
 have hi' : i = i1 ∨ i = i2 := by simpa using hi
 have hx' := hx.ext_trans hw'
 rcases hi' with rfl | rfl
 ·refine wpOp_run h1 g.1 (B.make _ o1 w' p1.1) ?_
  rw [p1.2]
  refine ⟨hx'.alloc _, wpE_all r1 (by simp) fun i hi w2 hw2 => ?_⟩
  obtain rfl : i = i2 := by simpa using hi
  have hb := (Blk.new w' T #[z0, z1]).mod hw2 (fun f => f)
  have hx2 := (hx'.alloc _).ext_trans hw2
  refine wpOp_run h2 g.2.1 (B.make _ o2 w2 p2.1) ?_
  rw [p2.2]
  have hlt := hb.lt
  exact ⟨hx2.alloc _, fin _ _ _ (hx2.alloc _) hx'.size hx2.size (by omega) (hb.alloc _) (Blk.new _ _ _)⟩
 ·refine wpOp_run h2 g.2.1 (B.make _ o2 w' p2.1) ?_
  rw [p2.2]
  refine ⟨hx'.alloc _, wpE_all r2 (by simp) fun i hi w2 hw2 => ?_⟩
  obtain rfl : i = i1 := by simpa using hi
  have hb := (Blk.new w' T #[z0, z1]).mod hw2 (fun f => f)
  have hx2 := (hx'.alloc _).ext_trans hw2
  refine wpOp_run h1 g.1 (B.make _ o1 w2 p1.1) ?_
  rw [p1.2]
  have hlt := hb.lt
  have := fin _ w2.heap.size w'.heap.size (hx2.alloc _) hx2.size hx'.size (by omega) (Blk.new _ _ _) (hb.alloc _)
  rw [Act.put_comm _ _ _ (fun d hd => by cases hd; intro e; cases e; exact k3 rfl), Array.setIfInBounds_comm _ _ hn.symm]
  exact ⟨hx2.alloc _, this⟩
end
structure Box (P : Program) (T : TypeId) (z : Array Value) : Prop where
 make : ∀ (ρ : Operand → Value) (o : Oper) (w : World), o.op = .alloc T → (execOp ρ o).run P w = .ok (.value (.pointer (some ⟨w.heap.size, 0, none⟩))) (w.alloc (.cells z T))
 store : ∀ (ρ : Operand → Value) (o : Oper) (w : World) (d s : Operand) (p : Nat) (y x : Array Value), o.op = .store T d s → ρ d = .pointer (some ⟨p, 0, none⟩) → ρ s = .agg x → x.size = z.size → (∀ u ∈ x.toList, u.oneCell' = true) → y.size = z.size → Blk w p T y →
  ∃ w', (execOp ρ o).run P w = .ok .skip w' ∧ Blk w' p T x ∧ Mod (· = p) w w'
section
variable {P : Program} {md : Region.Mode} {ops : Array Oper} {Q : Exit → Act → World → Prop} {w0 : World}
theorem wpE_boxT {T : TypeId} {z : Array Value} (B : Box P T z) (i1 i2 d1 s1 : Nat) {o1 o2 : Oper} {fuel : Nat} {listed : Array Bool} {a : Act} {w : World} {x : Array Value}
  (h1 : ops[i1]? = some o1) (h2 : ops[i2]? = some o2) (g : o1.guard = none ∧ o2.guard = none)
  (p1 : o1.op = .alloc T ∧ o1.dst = some d1) (p2 : o2.op = .store T (.tmp d1) (.tmp s1) ∧ o2.dst = none)
  (r0 : Region.ready md ops listed = [i1]) (r1 : Region.ready md ops (listed.setIfInBounds i1 true) = [i2])
  (hd : d1 < a.tmps.size ∧ d1 ≠ s1) (e1 : a.eval (.tmp s1) = .agg x) (hxs : x.size = z.size) (c : ∀ u ∈ x.toList, u.oneCell' = true)
  (hx : Ext w0 w) (h : ∀ w' p, Ext w0 w' → w0.heap.size ≤ p → Blk w' p T x → wpE P md ops Q w0 fuel ((listed.setIfInBounds i1 true).setIfInBounds i2 true) (a.put (some d1) (.pointer (some ⟨p, 0, none⟩))) w') : wpE P md ops Q w0 (fuel + 2) listed a w := by
 refine wpE_all r0 (by simp) fun i hi u hu => ?_
 obtain rfl : i = i1 := by simpa using hi
 have hxu := hx.ext_trans hu
 refine wpOp_run h1 g.1 (B.make _ o1 u p1.1) ?_
 rw [p1.2]
 refine ⟨hxu.alloc _, wpE_all r1 (by simp) fun j hj v hv => ?_⟩
 obtain rfl : j = i2 := by simpa using hj
 have hb := (Blk.new u T z).mod hv (fun f => f)
 obtain ⟨w', hrun, hb', hm⟩ := B.store (a.put (some d1) (.pointer (some ⟨u.heap.size, 0, none⟩))).eval o2 v (.tmp d1) (.tmp s1) u.heap.size z x p2.1 (eval_put_self hd.1) (by rw [eval_put_other hd.2, e1]) hxs c rfl hb
 refine wpOp_skip h2 g.2 hrun ?_
 rw [p2.2]
 have hxv := (hxu.alloc (.cells z T)).ext_trans hv
 have hxw : Ext w0 w' := hxv.trans hm (fun i hi e => by have := hxu.size; omega)
 exact ⟨hxw, h w' u.heap.size hxw hxu.size hb'⟩
end
end Go.Gim

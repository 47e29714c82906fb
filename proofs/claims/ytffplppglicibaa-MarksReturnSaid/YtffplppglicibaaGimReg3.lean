/- The end of a region 's = append(append(append([]T{}, a...), x), b...)': whichever of its two literals is made first. Conditions: none. -/
import Derived.Test.YtffplppglicibaaGimReg2
import Derived.Test.YtffplppglicibaaGimAppend
namespace Go.Gim
open Go.RowKit

theorem run_call_append {P : Program} {w w' : World} {o : Oper} {ρ : Operand → Value} (s x : Operand) (t : TypeId) (ho : o.op = .call { callee := .builtin .append, args := #[s, x], argTypes := #[t, t] })
    {v v' u : Value} (hs : ρ s = v) (hx : ρ x = u) (hr : (Builtin.append_ #[t, t] o.type #[v, u]).run P w = .ok v' w') : (execOp ρ o).run P w = .ok (.value v') w' := by
  simp [execOp, ho, resolve, invoke, builtin, hs, hx, hr, Result.andThen]

/-- What the literals of no and of one element do. -/
structure Lits (P : Program) (t T : TypeId) (size : Nat) : Prop where
  mk0 : ∀ (ρ : Operand → Value) (o : Oper) (w : World), o.op = .buildSlice t 0 #[] → (execOp ρ o).run P w = .ok (.value (.slice (some ⟨w.heap.size, 0, none⟩) 0 0)) (w.alloc (.cells #[] T))
  mk1 : ∀ (ρ : Operand → Value) (o : Oper) (w : World) (x : Operand) (V : Value), o.op = .buildSlice t 1 #[(0, x)] → ρ x = V → V.cells.size = size → (∀ u ∈ V.cells.toList, u.oneCell' = true) → V = .agg V.cells →
    (execOp ρ o).run P w = .ok (.value (.slice (some ⟨w.heap.size, 0, none⟩) 1 1)) (w.alloc (.cells V.cells T))

section
variable {P : Program} {md : Region.Mode} {ops : Array Oper} {Q : Exit → Act → World → Prop} {w0 : World}

theorem put5 (a : Act) (d1 d2 : Nat) (v1 v2 : Value) (h : d1 ≠ d2) : (a.put (some d1) v1).put (some d2) v2 = (a.put (some d2) v2).put (some d1) v1 :=
  Act.put_comm a v1 v2 (fun d hd => by cases hd; intro e; cases e; exact h rfl)

structure Splice (ops : Array Oper) (t : TypeId) (iA iB iC iD iE iF dA dB dC dD dE dF s1 s2 x : Nat) (oA oB oC oD oE oF : Oper) : Prop where
  A : ops[iA]? = some oA
  B : ops[iB]? = some oB
  C : ops[iC]? = some oC
  D : ops[iD]? = some oD
  E : ops[iE]? = some oE
  F : ops[iF]? = some oF
  g : oA.guard = none ∧ oB.guard = none ∧ oC.guard = none ∧ oD.guard = none ∧ oE.guard = none ∧ oF.guard = none
  pA : oA.op = .buildSlice t 0 #[] ∧ oA.dst = some dA
  pB : oB.op = .call { callee := .builtin .append, args := #[.tmp dA, .tmp s1], argTypes := #[t, t] } ∧ oB.dst = some dB
  pC : oC.op = .buildSlice t 1 #[(0, .tmp x)] ∧ oC.dst = some dC
  pD : oD.op = .call { callee := .builtin .append, args := #[.tmp dB, .tmp dC], argTypes := #[t, t] } ∧ oD.dst = some dD
  pE : oE.op = .call { callee := .builtin .append, args := #[.tmp dD, .tmp s2], argTypes := #[t, t] } ∧ oE.dst = some dE
  pF : oF.op = .assign (.tmp dE) ∧ oF.dst = some dF
  ne : dA ≠ dB ∧ dA ≠ dC ∧ dB ≠ dC ∧ dA ≠ s1 ∧ dA ≠ s2 ∧ dA ≠ x ∧ dB ≠ s1 ∧ dB ≠ s2 ∧ dB ≠ x ∧ dC ≠ s1 ∧ dC ≠ s2 ∧ dC ≠ x ∧ dD ≠ s2
  ix : iA ≠ iC ∧ iB ≠ iC

structure SpliceReady (md : Region.Mode) (ops : Array Oper) (listed : Array Bool) (iA iB iC iD iE iF : Nat) : Prop where
  r0 : Region.ready md ops listed = [iA, iC]
  rA : Region.ready md ops (listed.setIfInBounds iA true) = [iB, iC]
  rC : Region.ready md ops (listed.setIfInBounds iC true) = [iA]
  rAB : Region.ready md ops ((listed.setIfInBounds iA true).setIfInBounds iB true) = [iC]
  rAC : Region.ready md ops ((listed.setIfInBounds iA true).setIfInBounds iC true) = [iB]
  r3 : Region.ready md ops (((listed.setIfInBounds iA true).setIfInBounds iB true).setIfInBounds iC true) = [iD]
  r4 : Region.ready md ops ((((listed.setIfInBounds iA true).setIfInBounds iB true).setIfInBounds iC true).setIfInBounds iD true) = [iE]
  r5 : Region.ready md ops (((((listed.setIfInBounds iA true).setIfInBounds iB true).setIfInBounds iC true).setIfInBounds iD true).setIfInBounds iE true) = [iF]
  r6 : Region.ready md ops ((((((listed.setIfInBounds iA true).setIfInBounds iB true).setIfInBounds iC true).setIfInBounds iD true).setIfInBounds iE true).setIfInBounds iF true) = []

theorem wpE_splice {t T : TypeId} {z : Value} {size bytes : Nat} (hL : Lits P t T size) (hinfo : (P.info? T).map (fun i => (i.zero, i.size, i.bytes)) = some (some z, size, bytes)) (htt : P.underlying t = some (.slice T)) (hzs : z.cells.size = size) (hsz : 0 < size)
    {iA iB iC iD iE iF dA dB dC dD dE dF s1 s2 x : Nat} {oA oB oC oD oE oF : Oper} (O : Splice ops t iA iB iC iD iE iF dA dB dC dD dE dF s1 s2 x oA oB oC oD oE oF)
    {listed : Array Bool} (R : SpliceReady md ops listed iA iB iC iD iE iF) {a : Act} {w : World} (hd : dA < a.tmps.size ∧ dB < a.tmps.size ∧ dC < a.tmps.size ∧ dD < a.tmps.size ∧ dE < a.tmps.size)
    {a1 a2 : Option Addr} {n1 n2 c1 c2 : Nat} {xs1 xs2 : List Value} {V : Value}
    (e1 : a.eval (.tmp s1) = .slice a1 n1 c1) (e2 : a.eval (.tmp s2) = .slice a2 n2 c2) (e3 : a.eval (.tmp x) = V) (r1 : Reads w0 size a1 n1 xs1) (r2 : Reads w0 size a2 n2 xs2) (o1 : ∀ u ∈ xs1, u.oneCell' = true) (o2 : ∀ u ∈ xs2, u.oneCell' = true)
    (hV : V.cells.size = size ∧ (∀ u ∈ V.cells.toList, u.oneCell' = true) ∧ V = .agg V.cells) (hsm : (n1 + n2 + 1) * bytes ≤ 140737488355328 ∧ n1 + n2 + 1 ≤ maxLen)
    (hx : Ext w0 w) (h : ∀ (w' : World) (vA vB vC vD v : Value), w'.ownsRow w0.heap.size T size v (n1 + 1 + n2) (xs1 ++ V.cells.toList ++ xs2) → Ext w0 w' →
      Q .normal ((((((a.put (some dA) vA).put (some dB) vB).put (some dC) vC).put (some dD) vD).put (some dE) v).put (some dF) v) w') : wpE P md ops Q w0 6 listed a w := by
  obtain ⟨k1, k2, k3, k4, k5⟩ := hd
  obtain ⟨q1, q2, q3, q4, q5, q6, q7, q8, q9, q10, q11, q12, q13⟩ := O.ne
  obtain ⟨gA, gB, gC, gD, gE, gF⟩ := O.g
  have m1 : n1 ≤ n1 + n2 + 1 := by omega
  have hb1 : (0 + n1) * bytes ≤ 140737488355328 := Nat.le_trans (Nat.mul_le_mul_right _ (by omega)) hsm.1
  have hb2 : (n1 + 1) * bytes ≤ 140737488355328 := Nat.le_trans (Nat.mul_le_mul_right _ (by omega)) hsm.1
  have hb3 : (n1 + 1 + n2) * bytes ≤ 140737488355328 := Nat.le_trans (Nat.mul_le_mul_right _ (by omega)) hsm.1
  -- behind the three: the row of the first part, the box of the one
  have fin : ∀ (u : World) (vA vB : Value) (p : Nat), Ext w0 u → u.ownsRow w0.heap.size T size vB n1 xs1 → vB.ownBlock ≠ some p → Blk u p T V.cells →
      wpE P md ops Q w0 3 (((listed.setIfInBounds iA true).setIfInBounds iB true).setIfInBounds iC true) (((a.put (some dA) vA).put (some dB) vB).put (some dC) (.slice (some ⟨p, 0, none⟩) 1 1)) u := by
    intro u vA vB p hu hB hne hp
    refine wpE_all R.r3 (by simp) fun i hi u1 hu1 => ?_
    obtain rfl : i = iD := by simpa using hi
    have hB1 := ownsRow_mod hB hu1 (fun _ _ f => f)
    have hp1 := hp.mod hu1 (fun f => f)
    have hux := hu.ext_trans hu1
    have hrd : Reads u1 size (some ⟨p, 0, none⟩) 1 V.cells.toList := by
      refine ⟨by simp [hV.1], fun _ => ⟨p, 0, rfl, fun j hj => ?_⟩⟩
      rw [Nat.zero_add, hp1.cell j]; simp
    obtain ⟨vD, u2, hrD, hD, hmD, _⟩ := run_append_reads (P := P) (w := u1) t oD.type w0.heap.size T z size bytes hinfo htt hzs hsz vB n1 xs1 hB1 (some ⟨p, 0, none⟩) 1 1 V.cells.toList hrd hV.2.1 (by omega) hb2 hux.size
    have huD : Ext w0 u2 := hux.over hmD (fun k hk => (hB1.lt k hk).1)
    refine wpOp_run O.D gD (run_call_append _ _ t O.pD.1 (v := vB) (u := .slice (some ⟨p, 0, none⟩) 1 1) ?_ ?_ hrD) ?_
    · rw [eval_put_other (Ne.symm q3), eval_put_self (by rw [size_put]; exact k2)]
    · rw [eval_put_self (by rw [size_put, size_put]; exact k3)]
    rw [O.pD.2]
    refine ⟨huD, wpE_all R.r4 (by simp) fun i hi u3 hu3 => ?_⟩
    obtain rfl : i = iE := by simpa using hi
    have hD3 := ownsRow_mod hD hu3 (fun _ _ f => f)
    have hu3x := huD.ext_trans hu3
    obtain ⟨vE, u4, hrE, hE, hmE, _⟩ := run_append_reads (P := P) (w := u3) t oE.type w0.heap.size T z size bytes hinfo htt hzs hsz vD (n1 + 1) (xs1 ++ V.cells.toList) hD3 a2 n2 c2 xs2 (r2.mod hu3x (fun _ _ f => f)) o2 (by omega) hb3 hu3x.size
    have huE : Ext w0 u4 := hu3x.over hmE (fun k hk => (hD3.lt k hk).1)
    refine wpOp_run O.E gE (run_call_append _ _ t O.pE.1 (v := vD) (u := .slice a2 n2 c2) ?_ ?_ hrE) ?_
    · rw [eval_put_self (by rw [size_put, size_put, size_put]; exact k4)]
    · rw [eval_put_other q13, eval_put_other q11, eval_put_other q8, eval_put_other q5, e2]
    rw [O.pE.2]
    refine ⟨huE, wpE_all R.r5 (by simp) fun i hi u5 hu5 => ?_⟩
    obtain rfl : i = iF := by simpa using hi
    refine wpOp_run O.F gF (v := vE) (w' := u5) ?_ ?_
    · rw [BigFrame.run_assign (P := P) (.tmp dE) O.pF.1, eval_put_self (by rw [size_put, size_put, size_put, size_put]; exact k5)]
    rw [O.pF.2]
    refine ⟨huE.ext_trans hu5, wpE_done R.r6 (fun u6 hu6 => ?_) 0⟩
    exact h u6 vA vB _ vD vE (ownsRow_mod hE (hu5.ext_trans hu6) (fun _ _ f => f)) ((huE.ext_trans hu5).ext_trans hu6)
  -- the first part appended, from a world that holds the literal of none
  have addB : ∀ (u : World) (p : Nat) (b : Act) (K : Act → World → Prop), Ext w0 u → u.ownsRow w0.heap.size T size (.slice (some ⟨p, 0, none⟩) 0 0) 0 [] → b.eval (.tmp dA) = .slice (some ⟨p, 0, none⟩) 0 0 → b.eval (.tmp s1) = .slice a1 n1 c1 →
      (∀ vB u', Ext w0 u' → u'.ownsRow w0.heap.size T size vB n1 xs1 → (∀ k, u.heap.size ≤ k ∨ k = p ∨ vB.ownBlock ≠ some k) → Mod (fun k => k = p) u u' → K (b.put (some dB) vB) u') → wpOp P ops Q iB K b u := by
    intro u p b K hu hA hd1 hd2 hK
    obtain ⟨vB, u1, hrB, hB, hmB, hbk⟩ := run_append_reads (P := P) (w := u) t oB.type w0.heap.size T z size bytes hinfo htt hzs hsz (.slice (some ⟨p, 0, none⟩) 0 0) 0 [] hA a1 n1 c1 xs1 (r1.mod hu (fun _ _ f => f)) o1 (by omega) hb1 hu.size
    refine wpOp_run O.B gB (run_call_append _ _ t O.pB.1 (v := .slice (some ⟨p, 0, none⟩) 0 0) (u := .slice a1 n1 c1) hd1 hd2 hrB) ?_
    rw [O.pB.2]
    refine hK vB u1 (hu.over hmB (fun k hk => (hA.lt k hk).1)) (by simpa using hB) (fun k => ?_) (hmB.mono fun k _ hk => by simpa [Value.ownBlock] using hk.symm)
    by_cases hk1 : u.heap.size ≤ k
    · exact .inl hk1
    · by_cases hk2 : k = p
      · exact .inr (.inl hk2)
      · refine .inr (.inr fun e => ?_)
        rcases hbk with hb | hb
        · rw [hb] at e
          exact hk2 (by simpa [Value.ownBlock] using e.symm)
        · exact hk1 (hb k e)
  have lit : ∀ u : World, Ext w0 u → (u.alloc (.cells #[] T)).ownsRow w0.heap.size T size (.slice (some ⟨u.heap.size, 0, none⟩) 0 0) 0 [] := fun u hu =>
    ownsRow_base (World.ownsRow_lit u #[] 0 (Nat.le_refl _) (Nat.zero_le _) (by simp)) hu.size
  refine wpE_all R.r0 (by simp) fun i hi u0 hu0 => ?_
  have hi' : i = iA ∨ i = iC := by simpa using hi
  have hx0 := hx.ext_trans hu0
  rcases hi' with rfl | rfl
  · refine wpOp_run O.A gA (hL.mk0 _ oA u0 O.pA.1) ?_
    rw [O.pA.2]
    refine ⟨hx0.alloc _, wpE_all R.rA (by simp) fun i hi u1 hu1 => ?_⟩
    have hi' : i = iB ∨ i = iC := by simpa using hi
    have hx1 := (hx0.alloc _).ext_trans hu1
    have hA1 := ownsRow_mod (lit u0 hx0) hu1 (fun _ _ f => f)
    have hAl : u0.heap.size < u1.heap.size := by have := hu1.size; simp at this; omega
    rcases hi' with rfl | rfl
    · refine addB u1 u0.heap.size _ _ hx1 hA1 (eval_put_self k1) (by rw [eval_put_other q4, e1]) fun vB u2 hx2 hB2 hbk hmod => ⟨hx2, wpE_all R.rAB (by simp) fun i hi u3 hu3 => ?_⟩
      obtain rfl : i = iC := by simpa using hi
      have hx3 := hx2.ext_trans hu3
      have hB3 := ownsRow_mod hB2 hu3 (fun _ _ f => f)
      refine wpOp_run O.C gC (hL.mk1 _ oC u3 (.tmp x) V O.pC.1 (by rw [eval_put_other q9, eval_put_other q6, e3]) hV.1 hV.2.1 hV.2.2) ?_
      rw [O.pC.2]
      refine ⟨hx3.alloc _, fin _ _ vB u3.heap.size (hx3.alloc _) (hB3.alloc _) (fun e => ?_) (Blk.new _ _ _)⟩
      exact Nat.lt_irrefl _ (hB3.lt _ e).2
    · refine wpOp_run O.C gC (hL.mk1 _ oC u1 (.tmp x) V O.pC.1 (by rw [eval_put_other q6, e3]) hV.1 hV.2.1 hV.2.2) ?_
      rw [O.pC.2]
      refine ⟨hx1.alloc _, wpE_all R.rAC (by simp) fun i hi u2 hu2 => ?_⟩
      obtain rfl : i = iB := by simpa using hi
      have hx2 := (hx1.alloc _).ext_trans hu2
      have hb2' := (Blk.new u1 T V.cells).mod hu2 (fun f => f)
      refine addB u2 u0.heap.size _ _ hx2 (ownsRow_mod (hA1.alloc _) hu2 (fun _ _ f => f)) (by rw [eval_put_other (Ne.symm q2), eval_put_self k1]) (by rw [eval_put_other q10, eval_put_other q4, e1]) fun vB u3 hx3 hB3 hbk hmod => ⟨hx3, ?_⟩
      rw [put5 _ dC dB _ _ (Ne.symm q3), Array.setIfInBounds_comm _ _ (Ne.symm O.ix.2)]
      refine fin _ _ vB u1.heap.size hx3 hB3 ?_ (hb2'.mod hmod (fun e => by omega))
      rcases hbk u1.heap.size with h1 | h1 | h1
      · exact absurd hb2'.lt (by omega)
      · omega
      · exact h1
  · refine wpOp_run O.C gC (hL.mk1 _ oC u0 (.tmp x) V O.pC.1 e3 hV.1 hV.2.1 hV.2.2) ?_
    rw [O.pC.2]
    refine ⟨hx0.alloc _, wpE_all R.rC (by simp) fun i hi u1 hu1 => ?_⟩
    obtain rfl : i = iA := by simpa using hi
    have hx1 := (hx0.alloc _).ext_trans hu1
    have hC1 := (Blk.new u0 T V.cells).mod hu1 (fun f => f)
    refine wpOp_run O.A gA (hL.mk0 _ oA u1 O.pA.1) ?_
    rw [O.pA.2]
    refine ⟨hx1.alloc _, ?_⟩
    rw [Array.setIfInBounds_comm _ _ (Ne.symm O.ix.1)]
    refine wpE_all R.rAC (by simp) fun i hi u2 hu2 => ?_
    obtain rfl : i = iB := by simpa using hi
    have hx2 := (hx1.alloc _).ext_trans hu2
    have hC2 := (hC1.alloc (.cells #[] T)).mod hu2 (fun f => f)
    have hlt := hC1.lt
    refine addB u2 u1.heap.size _ _ hx2 (ownsRow_mod (lit u1 hx1) hu2 (fun _ _ f => f)) (eval_put_self (by rw [size_put]; exact k1)) (by rw [eval_put_other q4, eval_put_other q10, e1]) fun vB u3 hx3 hB3 hbk hmod => ⟨hx3, ?_⟩
    rw [put5 _ dC dA _ _ (Ne.symm q2), put5 _ dC dB _ _ (Ne.symm q3), Array.setIfInBounds_comm _ _ (Ne.symm O.ix.2)]
    refine fin _ _ vB u0.heap.size hx3 hB3 ?_ (hC2.mod hmod (fun e => by omega))
    rcases hbk u0.heap.size with h1 | h1 | h1
    · exact absurd hC2.lt (by omega)
    · omega
    · exact h1
end
end Go.Gim

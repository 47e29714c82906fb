/- A pair of truth values, and a range, as they come in. Conditions: none. -/
import Derived.Test.YtffplppglicibaaGimLaw
import Derived.Test.YtffplppglicibaaGimTabP
import Derived.Lib.SmallJoins
import Derived.OpenShut
namespace Go.Proofs.Ytffplppglicibaa
open Go.ChangeShapes Go.WideShapes Go.ChangeAt Go.RowKit Go.Gim

theorem okWide_array {P : Program} {w : World} {r : Reach} {b0 : Nat} {t e : TypeId} {n : Nat} {v : Value} (ht : P.underlying t = some (.array n e)) (h : Value.okWide P w r b0 t v) : ∃ cs, v = .agg cs ∧ cs.size = P.cellsOf t := by
  unfold Value.okWide at h
  rw [ht] at h
  obtain ⟨cs, h1, h2, _⟩ := h
  exact ⟨cs, h1, h2⟩

/-- An array of two truth values that came in. -/
theorem open_twoB {H : Type} {enc : TypeId × Value → H} {P : Program} {W : World} {b0 : Nat} {e i : TypeId} {v : Value} {d : DataW H} {ps : List MemPlace} (he : P.underlying e = some (.array 2 i)) (hc : P.cellsOf e = 2)
    (hi : P.underlying i = some .bool) (hci : P.cellsOf i = 1)
    (hval : Value.okWide P W .any b0 e v) (hd : DataW.Trod enc P W 0 (fun _ => true) true e v d ps) :
    ∃ a b : Bool, v = .agg #[.bool a, .bool b] := by
  obtain ⟨cs, rfl, hsz⟩ := okWide_array he hval
  obtain ⟨c0, c1, rfl⟩ := Go.Joins.array2 (hsz.trans hc)
  obtain ⟨fuel, hf⟩ := hd
  obtain ⟨xs, m, _, _, _, hxl, g⟩ := DataW.trod_array he hf
  match xs, hxl with
  | [y0, y1], _ =>
    have g0 := g 0 (by omega)
    have g1 := g 1 (by omega)
    rw [hci] at g0 g1
    simp [Value.cells] at g0 g1
    obtain ⟨a0, e0, _⟩ := DataW.trod_bool hi g0
    obtain ⟨a1, e1, _⟩ := DataW.trod_bool hi g1
    simp at e0 e1
    subst e0 e1
    exact ⟨a0, a1, rfl⟩

theorem okWide_structs {P : Program} {w : World} {r : Reach} {b0 : Nat} {t : TypeId} {fs : Array Field} {v : Value} (ht : P.underlying t = some (.struct fs)) (h : Value.okWide P w r b0 t v) : ∃ cs, v = .agg cs ∧ cs.size = P.cellsOf t := by
  unfold Value.okWide at h
  rw [ht] at h
  obtain ⟨cs, h1, h2, _⟩ := h
  exact ⟨cs, h1, h2⟩
theorem list5 {α : Type} {cs : Array α} (h : cs.size = 5) : ∃ c0 c1 c2 c3 c4, cs = #[c0, c1, c2, c3, c4] := by
  obtain ⟨l⟩ := cs
  match l, h with
  | [c0, c1, c2, c3, c4], _ => exact ⟨c0, c1, c2, c3, c4, rfl⟩
/-- A range that came in. -/
theorem open_rg {H : Type} {enc : TypeId × Value → H} {P : Program} {W : World} {b0 : Nat} {t sp : TypeId} {f0 f1 f2 f3 g0 g1 : Field} {v : Value} {d : DataW H} {ps : List MemPlace}
    (ht : P.underlying t = some (.struct #[f0, f1, f2, f3])) (hc : P.cellsOf t = 5) (hs : P.underlying sp = some (.struct #[g0, g1])) (hcs : P.cellsOf sp = 2)
    (t0 : f0.type = sp ∧ f0.offset = 0) (o1 : f1.offset = 2 ∧ P.cellsOf f1.type = 1) (o2 : f2.offset = 3 ∧ P.cellsOf f2.type = 1) (o3 : f3.offset = 4 ∧ P.cellsOf f3.type = 1) (p0 : g0.offset = 0 ∧ P.cellsOf g0.type = 1) (p1 : g1.offset = 1 ∧ P.cellsOf g1.type = 1)
    (u0 : P.underlying g0.type = some (.int .i64)) (u1 : P.underlying g1.type = some (.int .i64)) (u2 : P.underlying f1.type = some .bool) (u3 : P.underlying f2.type = some .bool) (u4 : P.underlying f3.type = some (.int .i64))
    (hval : Value.okWide P W .any b0 t v) (hd : DataW.Trod enc P W 0 (fun _ => true) true t v d ps) :
    ∃ (r : Rg), v = .agg #[.int .i64 r.a, .int .i64 r.b, .bool r.p, .bool r.q, .int .i64 r.u] ∧ (Lit.int .i64 r.a).wf = true ∧ (Lit.int .i64 r.b).wf = true ∧ (Lit.int .i64 r.u).wf = true := by
  obtain ⟨cs, rfl, hsz⟩ := okWide_structs ht hval
  obtain ⟨c0, c1, c2, c3, c4, rfl⟩ := list5 (hsz.trans hc)
  obtain ⟨fuel, hf⟩ := hd
  obtain ⟨y0, y1, y2, y3, n, _, _, h0, h1, h2, h3⟩ := Go.Joins.trod_struct4 ht hf
  rw [t0.2, t0.1, hcs] at h0
  rw [o1.1, o1.2] at h1
  rw [o2.1, o2.2] at h2
  rw [o3.1, o3.2] at h3
  simp [Value.cells] at h0 h1 h2 h3
  obtain ⟨z0, z1, m, _, _, k0, k1⟩ := trod_struct2 hs h0
  rw [p0.1, p0.2] at k0
  rw [p1.1, p1.2] at k1
  simp at k0 k1
  obtain ⟨a0, e0, _, l0⟩ := DataW.trod_int u0 k0
  obtain ⟨a1, e1, _, l1⟩ := DataW.trod_int u1 k1
  obtain ⟨a2, e2, _⟩ := DataW.trod_bool u2 h1
  obtain ⟨a3, e3, _⟩ := DataW.trod_bool u3 h2
  obtain ⟨a4, e4, _, l4⟩ := DataW.trod_int u4 h3
  simp at e0 e1 e2 e3 e4
  subst e0 e1 e2 e3 e4
  exact ⟨⟨a0, a1, a2, a3, a4⟩, rfl, l0, l1, l4⟩
end Go.Proofs.Ytffplppglicibaa

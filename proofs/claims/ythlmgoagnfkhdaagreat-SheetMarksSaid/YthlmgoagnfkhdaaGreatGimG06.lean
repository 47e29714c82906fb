/- A map from numbers to ranges, in memory: what is looked up, stored, struck; its keys. Conditions: none. -/
import Derived.Test.YthlmgoagnfkhdaaGreatGimG02
import Derived.Maps.OwnSet
import Derived.Maps.Ext
import Derived.Lib.SlKeysI
set_option maxHeartbeats 6400000
set_option maxRecDepth 1000000
set_option linter.unusedVariables false
set_option linter.unusedSimpArgs false
namespace Go.Gim
open Go Go.RowKit Go.Maps
def rgV (r : Rg) : Value := .agg #[.int .i64 r.a, .int .i64 r.b, .bool r.p, .bool r.q, .int .i64 r.u]
def rgD (r : Rg) : DataW Unit := .agg [.lit (.int .i64 r.a), .lit (.int .i64 r.b), .lit (.bool r.p), .lit (.bool r.q), .lit (.int .i64 r.u)]
def rg0 : Rg := ⟨0, 0, false, false, 0⟩
def rgR : Value → Option (DataW Unit × List MemPlace)
 | .agg ⟨[.int .i64 a, .int .i64 b, .bool p, .bool q, .int .i64 u]⟩ => some (rgD ⟨a, b, p, q, u⟩, [])
 | _ => none
theorem rgR_mk (r : Rg) : rgR (rgV r) = some (rgD r, []) := rfl
theorem rgD_inj {r s : Rg} (h : rgD r = rgD s) : r = s := by
 cases r; cases s
 unfold rgD at h
 injection h with h
 injection h with h1 h
 injection h with h2 h
 injection h with h3 h
 injection h with h4 h
 injection h with h5 h
 injection h1 with h1; injection h2 with h2; injection h3 with h3; injection h4 with h4; injection h5 with h5
 injection h1 with _ h1; injection h2 with _ h2; injection h3 with h3; injection h4 with h4; injection h5 with _ h5
 subst h1 h2 h3 h4 h5; rfl
theorem rgR_inv {v : Value} {r : Rg} {ps : List MemPlace} (h : rgR v = some (rgD r, ps)) : v = rgV r := by
 unfold rgR at h
 split at h
 ·simp only [Option.some.injEq, Prod.mk.injEq] at h
  have := rgD_inj h.1
  subst this
  rfl
 ·cases h
def TbD (D : DataW Unit) (L : Tb) : Prop :=
 Maps.size D = L.length ∧ (∀ id : Int, Maps.has D (.int .i64 id) = (getR L id).isSome) ∧ ∀ (id : Int) (r : Rg) (z : DataW Unit), getR L id = some r → D.atKey (.int .i64 id) z = rgD r
def MapIs (P : Program) (k : TypeId) (w : World) (mb : Nat) (L : Tb) : Prop := ∃ D, w.ownsMap P k rgR mb L.length D ∧ TbD D L
section
variable {P : Program} {k e t : TypeId} {w : World} {mb : Nat} {L : Tb}
theorem ownsMap_tight {H : Type} {R : Value → Option (DataW H × List MemPlace)} {n : Nat} {D : DataW H} (h : w.ownsMap P k R mb n D) : w.ownsMap P k R mb (Maps.size D) D := by
 obtain ⟨es, clock, hb, F, _, rfl⟩ := h
 exact ⟨es, clock, hb, F, by simp [Maps.size, length_sorted], rfl⟩
theorem MapIs.lt (h : MapIs P k w mb L) : mb < w.heap.size := by obtain ⟨D, h, _⟩ := h; exact h.lt
theorem MapIs.mod {S : Nat → Prop} {w' : World} (h : MapIs P k w mb L) (hm : Mod S w w') (hS : ¬ S mb) : MapIs P k w' mb L := by
 obtain ⟨D, ⟨es, clock, hb, F⟩, h2⟩ := h
 exact ⟨D, ⟨es, clock, (hm.block mb (Array.getElem?_eq_some_iff.1 hb).1 hS).trans hb, F⟩, h2⟩
theorem MapIs.made (P : Program) (k : TypeId) (w : World) : MapIs P k (w.alloc (.map #[] 0)) w.heap.size [] :=
 ⟨.map [], World.ownsMap_made w P k rgR, rfl, fun _ => rfl, fun _ _ _ h => by cases h⟩
theorem MapIs.look (h : MapIs P k w mb L) (hk : P.underlying k = some (.int .i64)) (ht : P.underlying t = some (.map k e)) (hz : ∀ w, (zeroValue e).run P w = .ok (rgV rg0) w) {id : Int} (hid : (Lit.int .i64 id).wf = true) :
  (Instr.lookup t (.map (some mb)) (.int .i64 id) true).run P w = .ok (.tuple #[rgV ((getR L id).getD rg0), .bool (getR L id).isSome]) w := by
 obtain ⟨D, h, h1, h2, h3⟩ := h
 obtain ⟨v, ps, hrun, hv⟩ := h.look_ok (int_keyed hk) ht (hz w) (rgR_mk rg0) (keyOf_int_mk hk hid)
 rw [h2 id] at hrun
 cases hg : getR L id with
 | some r =>
  rw [h3 id r _ hg] at hv
  rw [hg] at hrun
  rw [hrun, rgR_inv hv]; rfl
 | none =>
  have hh : Maps.has D (.int .i64 id) = false := by rw [h2 id, hg]; rfl
  rw [atKey_of_not_has hh] at hv
  rw [hg] at hrun
  rw [hrun, rgR_inv hv]; rfl
theorem MapIs.look1 (h : MapIs P k w mb L) (hk : P.underlying k = some (.int .i64)) (ht : P.underlying t = some (.map k e)) (hz : ∀ w, (zeroValue e).run P w = .ok (rgV rg0) w) {id : Int} (hid : (Lit.int .i64 id).wf = true) :
  (Instr.lookup t (.map (some mb)) (.int .i64 id) false).run P w = .ok (rgV ((getR L id).getD rg0)) w := by
 obtain ⟨D, h, h1, h2, h3⟩ := h
 obtain ⟨v, ps, hrun, hv⟩ := h.lookup (int_keyed hk) ht (hz w) (rgR_mk rg0) (keyOf_int_mk hk hid)
 cases hg : getR L id with
 | some r =>
  rw [h3 id r _ hg] at hv
  rw [hrun, rgR_inv hv]; rfl
 | none =>
  have hh : Maps.has D (.int .i64 id) = false := by rw [h2 id, hg]; rfl
  rw [atKey_of_not_has hh] at hv
  rw [hrun, rgR_inv hv]; rfl
theorem MapIs.len (h : MapIs P k w mb L) (ht : P.underlying t = some (.map k e)) (ty : TypeId) : (Builtin.len_ #[t] ty #[.map (some mb)]).run P w = .ok (.int .i64 L.length) w := by
 obtain ⟨D, h, h1, _⟩ := h
 rw [h.len ht ty, h1]
theorem Mod.turned {w' : World} (h : w.mapTurned w' mb) : Mod (· = mb) w w' := (Mod.refl (· = mb) w).grown h.grown (fun k hk _ => by cases hk; rfl)
theorem MapIs.store (h : MapIs P k w mb L) (hk : P.underlying k = some (.int .i64)) (ht : P.underlying t = some (.map k e)) (hn : L.length < maxLen) {id : Int} (hid : (Lit.int .i64 id).wf = true) (r : Rg) {L' : Tb}
  (hl : L'.length = if (getR L id).isSome then L.length else L.length + 1) (hs : getR L' id = some r) (ho : ∀ j, j ≠ id → getR L' j = getR L j) :
  ∃ w', (Instr.mapUpdate t (.map (some mb)) (.int .i64 id) (rgV r)).run P w = .ok () w' ∧ MapIs P k w' mb L' ∧ Mod (· = mb) w w' := by
 obtain ⟨D, h, h1, h2, h3⟩ := h
 have hkl : WideAt.IsKeyLit (.int .i64 id) := (int_keyed hk).key (keyOf_int_mk hk hid)
 obtain ⟨w', hrun, hown, hturn⟩ := h.store (int_keyed hk) ht hn (keyOf_int_mk hk hid) (rgR_mk r)
 have hsz : Maps.size (D.put (.int .i64 id) (rgD r)) = L'.length := by rw [Maps.size_put (h.tidy (int_keyed hk)), hl, h2, h1]
 refine ⟨w', hrun, ⟨_, hsz ▸ ownsMap_tight hown, hsz, fun j => ?_, fun j s z hj => ?_⟩, Mod.turned hturn⟩
 ·by_cases e : j = id
  ·subst e; rw [has_put_same h.isMap hkl, hs]; rfl
  ·rw [has_put_other (by intro e'; cases e'; exact e rfl), h2, ho j e]
 ·by_cases e : j = id
  ·subst e
   rw [hs] at hj; cases hj
   exact atKey_put_same h.isMap hkl _ _
  ·rw [atKey_put_other (by intro e'; cases e'; exact e rfl)]
   exact h3 j s z (by rw [← ho j e]; exact hj)
theorem MapIs.set (h : MapIs P k w mb L) (hk : P.underlying k = some (.int .i64)) (ht : P.underlying t = some (.map k e)) (hn : L.length < maxLen) {id : Int} (hid : (Lit.int .i64 id).wf = true) (hg : (getR L id).isSome = true) (r : Rg) :
  ∃ w', (Instr.mapUpdate t (.map (some mb)) (.int .i64 id) (rgV r)).run P w = .ok () w' ∧ MapIs P k w' mb (setR L id r) ∧ Mod (· = mb) w w' :=
 h.store hk ht hn hid r (by rw [setR_len, hg]; rfl) (getR_set_same hg r) (fun j hj => getR_set_other L hj r)
theorem MapIs.add (h : MapIs P k w mb L) (hk : P.underlying k = some (.int .i64)) (ht : P.underlying t = some (.map k e)) (hn : L.length < maxLen) {id : Int} (hid : (Lit.int .i64 id).wf = true) (hg : getR L id = none) (r : Rg) :
  ∃ w', (Instr.mapUpdate t (.map (some mb)) (.int .i64 id) (rgV r)).run P w = .ok () w' ∧ MapIs P k w' mb (L ++ [(id, r)]) ∧ Mod (· = mb) w w' :=
 h.store hk ht hn hid r (by rw [hg]; simp) (by rw [getR_append, hg]; simp [getR]) (fun j hj => by
  rw [getR_append, getR_cons, if_neg (fun e => hj e.symm)]; simp [getR])
theorem MapIs.drop (h : MapIs P k w mb L) (ho : Once L) (hk : P.underlying k = some (.int .i64)) (ht : P.underlying t = some (.map k e)) {id : Int} (hid : (Lit.int .i64 id).wf = true) (ty : TypeId) :
  ∃ w', (Builtin.delete_ #[t, k] ty #[.map (some mb), .int .i64 id]).run P w = .ok (.tuple #[]) w' ∧ MapIs P k w' mb (delR L id) ∧ Mod (· = mb) w w' := by
 obtain ⟨D, h, h1, h2, h3⟩ := h
 obtain ⟨w', hrun, hown, hturn⟩ := h.drop (int_keyed hk) ht (keyOf_int_mk hk hid) ty
 have hsz : Maps.size (D.del (.int .i64 id)) = (delR L id).length := by
  have a := size_del (k := .int .i64 id) (h.tidy (int_keyed hk))
  have b := delR_len ho id
  rw [h2, h1] at a
  omega
 refine ⟨w', hrun, ⟨_, hsz ▸ ownsMap_tight hown, hsz, fun j => ?_, fun j s z hj => ?_⟩, Mod.turned hturn⟩
 ·by_cases e : j = id
  ·subst e; rw [has_del_same, getR_del_same]; rfl
  ·rw [has_del_other (by intro e'; cases e'; exact e rfl), h2, getR_del_other L e]
 ·by_cases e : j = id
  ·subst e; rw [getR_del_same] at hj; cases hj
  ·rw [atKey_del_other (by intro e'; cases e'; exact e rfl)]
   exact h3 j s z (by rw [← getR_del_other L e]; exact hj)
theorem keys_sorted {D : DataW Unit} {n : Nat} {R : Value → Option (DataW Unit × List MemPlace)} (h : w.ownsMap P k R mb n D) (hk : P.underlying k = some (.int .i64)) (hT : TbD D L) (hr : (idsR L).Pairwise (· < ·)) {ss : List Int} (hp : ss.Perm (intKeys D)) :
  ss.mergeSort (fun x y => decide (x ≤ y)) = idsR L ∧ ss.length = L.length := by
 obtain ⟨h1, h2, h3⟩ := hT
 have ht := h.tidy (int_keyed hk)
 have hD := h
 obtain ⟨es, clock, hb, F, _, rfl⟩ := h
 have hnd : (idsR L).Nodup := hr.imp (fun h e => by omega)
 have hkeys : ∀ p ∈ ((es.toList.map (Go.WideElems.rg P k R)).foldr DataW.insert []), ∃ x, p.1 = .int .i64 x := by
  intro p hp'
  have hp2 := (Maps.keys_perm (Go.WideShapes.sorted_perm _).symm (Maps.fit_keys F)) p hp'
  obtain ⟨v, hv⟩ := hp2
  obtain ⟨x, _, hx, _⟩ := Maps.keyOf_i64 hk hv
  exact ⟨x, hx⟩
 obtain ⟨es2, he2, hpw⟩ := ht
 cases he2
 have hperm : (idsR L).Perm (intKeys (.map ((es.toList.map (Go.WideElems.rg P k R)).foldr DataW.insert []))) :=
  perm_intKeys hpw hkeys hnd (fun x => by rw [h2 x, getR_isSome])
 have hp3 := hp.trans hperm.symm
 refine ⟨?_, by rw [hp3.length_eq]; simp [idsR]⟩
 rw [mergeSort_of_perm_i hp3]
 exact List.mergeSort_of_pairwise (hr.imp (fun h => by simp; omega))
end
end Go.Gim

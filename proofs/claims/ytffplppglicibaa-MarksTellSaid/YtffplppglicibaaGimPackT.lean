/- The document's table of ranges, plainly: where a number stands, what goes with one that is dropped, a row set at a place. Conditions: none. -/
import Derived.Test.YtffplppglicibaaGimDropP
import Derived.Test.YtffplppglicibaaGimTabMove
import Derived.Test.YtffplppglicibaaGimRef6M
import Derived.Test.YtffplppglicibaaGimTabW
namespace Go.Gim
/-- Where a number stands first; -1: nowhere. -/
def WhereI (l : List Int) (id R : Int) : Prop := (∃ k : Nat, R = k ∧ l[k]? = some id ∧ ∀ j, j < k → l[j]? ≠ some id) ∨ (R = -1 ∧ ∀ j : Nat, l[j]? ≠ some id)
theorem whereI_at {L : Tb} (ho : Once L) {k : Nat} {x : Int × Rg} (hx : L[k]? = some x) : WhereI (idsR L) x.1 k := by
  refine .inl ⟨k, rfl, by unfold idsR; rw [List.getElem?_map, hx]; rfl, fun j hj he => ?_⟩
  unfold idsR at he
  rw [List.getElem?_map] at he
  cases hy : L[j]? with
  | none => rw [hy] at he; cases he
  | some y =>
    rw [hy] at he
    have := once_at ho hy hx (by simpa using he)
    omega
theorem whereI_no {L : Tb} {id : Int} (h : getR L id = none) : WhereI (idsR L) id (-1) := by
  refine .inr ⟨rfl, fun j he => ?_⟩
  unfold idsR at he
  rw [List.getElem?_map] at he
  cases hy : L[j]? with
  | none => rw [hy] at he; cases he
  | some y =>
    rw [hy] at he
    exact getR_none h y (List.mem_of_getElem? hy) (by simpa using he)
/-- Where it stands, by what it is. -/
theorem getR_place {L : Tb} {id : Int} {r : Rg} (h : getR L id = some r) : ∃ k : Nat, L[k]? = some (id, r) := by
  obtain ⟨k, hk, he⟩ := List.getElem_of_mem (getR_mem h)
  exact ⟨k, by rw [List.getElem?_eq_getElem hk, he]⟩
theorem setR_map {L : Tb} (ho : Once L) {k : Nat} {x : Int × Rg} (hx : L[k]? = some x) (r : Rg) : (setR L x.1 r).map (·.2) = (L.map (·.2)).set k r := by
  refine List.ext_getElem? fun i => ?_
  unfold setR
  rw [List.map_map, List.getElem?_map, List.getElem?_set, List.length_map]
  have hk := (List.getElem?_eq_some_iff.1 hx).1
  by_cases e : k = i
  · subst e
    rw [if_pos rfl, if_pos hk, hx]
    simp
  · rw [if_neg e, List.getElem?_map]
    cases hy : L[i]? with
    | none => rfl
    | some y =>
      have hne : ¬ y.1 = x.1 := fun h => e (once_at ho hx hy h.symm)
      simp [hne]
theorem keepN_succ {L : Tb} {id : Int} {k : Nat} {x : Int × Rg} (hx : L[k]? = some x) : keepN L id (k + 1) = if x.1 = id ∨ x.2.u ≠ 0 ∧ getR (keepN L id k) x.2.u = none then keepN L id k else keepN L id k ++ [x] := by
  obtain ⟨hk, rfl⟩ := List.getElem?_eq_some_iff.1 hx
  unfold keepN
  rw [List.take_succ_eq_append_getElem hk, keepT_append]
  rfl
theorem keepT_noid (id : Int) : ∀ (t K : Tb), (∀ x ∈ K, x.1 ≠ id) → ∀ x ∈ keepT id K t, x.1 ≠ id := by
  intro t
  induction t with
  | nil => intro K h; exact h
  | cons y r ih =>
    intro K h
    rw [keepT.eq_2]
    split
    · exact ih K h
    · rename_i hn
      refine ih _ fun x hx => ?_
      rcases List.mem_append.1 hx with hx | hx
      · exact h x hx
      · rw [List.mem_singleton.1 hx]; exact fun e => hn (.inl e)
/-- The numbers that go, as the document gathers them. -/
def goneN (L : Tb) (id : Int) : Nat → List Int
  | 0 => [id]
  | k + 1 => match L[k]? with
    | some x => if x.1 ∈ goneN L id k ∨ x.2.u ≠ 0 ∧ x.2.u ∈ goneN L id k then goneN L id k ++ [x.1] else goneN L id k
    | none => goneN L id k
theorem goneN_succ {L : Tb} {id : Int} {k : Nat} {x : Int × Rg} (hx : L[k]? = some x) : goneN L id (k + 1) = if x.1 ∈ goneN L id k ∨ x.2.u ≠ 0 ∧ x.2.u ∈ goneN L id k then goneN L id k ++ [x.1] else goneN L id k := by
  rw [goneN.eq_2, hx]
theorem goneN_len (L : Tb) (id : Int) : ∀ k, (goneN L id k).length ≤ k + 1 := by
  intro k
  induction k with
  | zero => exact Nat.le_refl _
  | succ k ih =>
    rw [goneN.eq_2]
    split
    · split
      · rw [List.length_append, List.length_singleton]; omega
      · omega
    · omega
theorem take_rise {L : Tb} {last B : Int} (hT : Tok L last B) {k : Nat} {x : Int × Rg} (hx : L[k]? = some x) : ∀ y ∈ L.take k, y.1 < x.1 := by
  intro y hy
  obtain ⟨j, hj, rfl⟩ := List.getElem_of_mem hy
  rw [List.length_take] at hj
  obtain ⟨hk, rfl⟩ := List.getElem?_eq_some_iff.1 hx
  have := List.pairwise_iff_getElem.1 hT.rise j k (by unfold idsR; rw [List.length_map]; omega) (by unfold idsR; rw [List.length_map]; omega) (by omega)
  simp only [idsR, List.getElem_map] at this
  rw [List.getElem_take]
  exact this
theorem goneN_is {L : Tb} {last B : Int} (hT : Tok L last B) (id : Int) : ∀ k, k ≤ L.length → ∀ u, u ∈ goneN L id k ↔ u = id ∨ (u ∈ idsR (L.take k) ∧ getR (keepN L id k) u = none) := by
  intro k
  induction k with
  | zero => intro _ u; simp [goneN, idsR]
  | succ k ih =>
    intro hk u
    have hx : L[k]? = some (L[k]'(by omega)) := List.getElem?_eq_getElem _
    have ih := ih (by omega)
    have hlow := take_rise hT hx
    have hup := hT.up _ (List.getElem_mem (l := L) (by omega : k < L.length))
    have htk : L.take (k + 1) = L.take k ++ [L[k]'(by omega)] := List.take_succ_eq_append_getElem (by omega)
    rw [goneN_succ hx, keepN_succ hx, htk]
    generalize L[k]'(by omega) = x at *
    have hn1 : x.1 ∉ idsR (L.take k) := fun h => by
      obtain ⟨y, hy, e⟩ := List.mem_map.1 h
      have := hlow y hy
      omega
    have hK1 : getR (keepN L id k) x.1 = none := getR_none_of fun y hy => by
      have := hlow y ((keepN_sub L id k).subset hy)
      omega
    have hno : getR (keepN L id k) id = none := getR_none_of (keepT_noid id _ [] (by simp))
    have hA : x.1 ∈ goneN L id k ↔ x.1 = id := by
      rw [ih]
      exact ⟨fun h => h.resolve_right (fun h => hn1 h.1), .inl⟩
    have hB : x.2.u ≠ 0 → (x.2.u ∈ goneN L id k ↔ getR (keepN L id k) x.2.u = none) := by
      intro h0
      rw [ih]
      constructor
      · rintro (h | h)
        · rw [h]; exact hno
        · exact h.2
      · intro h
        refine .inr ⟨?_, h⟩
        obtain ⟨h1, h2⟩ := hup.resolve_left h0
        obtain ⟨r, hr⟩ := Option.isSome_iff_exists.1 h2
        obtain ⟨j, hj⟩ := getR_place hr
        have hjk : j < k := by
          obtain ⟨hjl, e⟩ := List.getElem?_eq_some_iff.1 hj
          by_cases hlt : j < k
          · exact hlt
          · exfalso
            obtain ⟨hkl, e2⟩ := List.getElem?_eq_some_iff.1 hx
            rcases Nat.eq_or_lt_of_le (Nat.le_of_not_lt hlt) with e3 | e3
            · subst e3
              rw [e2] at e
              have e3 : x.1 = x.2.u := congrArg Prod.fst e
              omega
            · have := List.pairwise_iff_getElem.1 hT.rise k j (by unfold idsR; rw [List.length_map]; omega) (by unfold idsR; rw [List.length_map]; omega) e3
              simp only [idsR, List.getElem_map] at this
              rw [e, e2] at this
              simp only at this
              omega
        refine List.mem_map.2 ⟨(x.2.u, r), ?_, rfl⟩
        refine List.mem_of_getElem? (i := j) ?_
        rw [List.getElem?_take, if_pos hjk]
        exact hj
    have hC : (x.1 ∈ goneN L id k ∨ x.2.u ≠ 0 ∧ x.2.u ∈ goneN L id k) ↔ (x.1 = id ∨ x.2.u ≠ 0 ∧ getR (keepN L id k) x.2.u = none) := by
      rw [hA]
      constructor
      · rintro (h | ⟨h, h2⟩)
        · exact .inl h
        · exact .inr ⟨h, (hB h).1 h2⟩
      · rintro (h | ⟨h, h2⟩)
        · exact .inl h
        · exact .inr ⟨h, (hB h).2 h2⟩
    have hids : idsR (L.take k ++ [x]) = idsR (L.take k) ++ [x.1] := by unfold idsR; rw [List.map_append]; rfl
    rw [hids]
    by_cases hc : x.1 = id ∨ x.2.u ≠ 0 ∧ getR (keepN L id k) x.2.u = none
    · rw [if_pos hc, if_pos (hC.2 hc), List.mem_append, List.mem_append, ih]
      constructor
      · rintro ((h | h) | h)
        · exact .inl h
        · exact .inr ⟨.inl h.1, h.2⟩
        · rw [List.mem_singleton.1 h]; exact .inr ⟨.inr (List.mem_singleton.2 rfl), hK1⟩
      · rintro (h | ⟨h | h, h2⟩)
        · exact .inl (.inl h)
        · exact .inl (.inr ⟨h, h2⟩)
        · exact .inr h
    · rw [if_neg hc, if_neg (fun h => hc (hC.1 h)), List.mem_append, ih, getR_append]
      have hone : getR [x] u = if x.1 = u then some x.2 else none := rfl
      rw [hone]
      constructor
      · rintro (h | ⟨h, h2⟩)
        · exact .inl h
        · refine .inr ⟨.inl h, ?_⟩
          have hne : ¬ x.1 = u := fun e => hn1 (by rw [e]; exact h)
          rw [h2, if_neg hne]; rfl
      · rintro (h | ⟨h | h, h2⟩)
        · exact .inl h
        · refine .inr ⟨h, ?_⟩
          cases hg : getR (keepN L id k) u with
          | none => rfl
          | some r => rw [hg] at h2; cases h2
        · rw [List.mem_singleton.1 h, hK1, if_pos rfl] at h2
          cases h2
theorem goneN_goes {L : Tb} {last B : Int} (hT : Tok L last B) (id : Int) {k : Nat} {x : Int × Rg} (hx : L[k]? = some x) : (x.1 ∈ goneN L id k ∨ x.2.u ≠ 0 ∧ x.2.u ∈ goneN L id k) ↔ keepN L id (k + 1) = keepN L id k := by
  have h1 := goneN_is hT id (k + 1) (List.getElem?_eq_some_iff.1 hx).1
  have hs := keepN_succ (id := id) hx
  have hg := goneN_succ (id := id) hx
  constructor
  · intro h
    rw [hs]
    split
    · rfl
    · rename_i hn
      exfalso
      rw [if_pos h] at hg
      have h2 := (h1 x.1).1 (by rw [hg]; exact List.mem_append.2 (.inr (List.mem_singleton.2 rfl)))
      rcases h2 with h2 | ⟨_, h2⟩
      · exact hn (.inl h2)
      · rw [hs, if_neg hn, getR_append] at h2
        have : getR [x] x.1 = some x.2 := by show (if x.1 = x.1 then some x.2 else none) = _; rw [if_pos rfl]
        rw [this] at h2
        cases hq : getR (keepN L id k) x.1 with
        | none => rw [hq] at h2; cases h2
        | some r => rw [hq] at h2; cases h2
  · intro h
    by_cases hc : x.1 ∈ goneN L id k ∨ x.2.u ≠ 0 ∧ x.2.u ∈ goneN L id k
    · exact hc
    · exfalso
      rw [if_neg hc] at hg
      have hmem : x.1 ∈ idsR (L.take (k + 1)) := by
        obtain ⟨hk, e⟩ := List.getElem?_eq_some_iff.1 hx
        rw [List.take_succ_eq_append_getElem hk, e]
        unfold idsR
        rw [List.map_append]
        exact List.mem_append.2 (.inr (List.mem_singleton.2 rfl))
      have hK1 : getR (keepN L id k) x.1 = none := getR_none_of fun y hy => by
        have := take_rise hT hx y ((keepN_sub L id k).subset hy)
        omega
      have h2 := (h1 x.1).2 (.inr ⟨hmem, by rw [h]; exact hK1⟩)
      rw [hg] at h2
      exact hc (.inl h2)
theorem keepN_whole (L : Tb) (id : Int) : keepN L id L.length = dropT L id := by unfold keepN dropT; rw [List.take_length]
theorem keepN_len (L : Tb) (id : Int) (k : Nat) : (keepN L id k).length ≤ k := by
  have h := (keepN_sub L id k).length_le
  rw [List.length_take] at h
  omega
end Go.Gim

/- The document's table of ranges in memory: its block, its two rows, and what may change with it. Conditions: none. -/
namespace Go.Proofs.Ytffplppglicibaa
open Go.RowKit Go.Gim

/-- What the blocks of the document's table are made of. -/
def refT (T : TypeId) : Prop := T = 3 ∨ T = 33 ∨ T = 63
/-- The blocks, from B on, that may be the document's table's. -/
def RefS (B : Nat) (w : World) (k : Nat) : Prop := B ≤ k ∧ ∃ T cs fr, w.heap[k]? = some (.cells cs T fr) ∧ refT T
theorem RefS.trans {B : Nat} {a b c : World} (h : Mod (RefS B a) a b) (k : Mod (RefS B b) b c) : Mod (RefS B a) a c := by
  refine h.trans k fun i hi hT => ?_
  refine Classical.byContradiction fun hn => hn ?_
  obtain ⟨h1, T, cs, fr, h2, h3⟩ := hT
  exact ⟨h1, T, cs, fr, by rw [← h.block i hi hn]; exact h2, h3⟩
theorem RefS.blk {B b : Nat} {w : World} {T : TypeId} {cs : Array Value} (h : Blk w b T cs) (hT : refT T) (hB : B ≤ b) : RefS B w b := ⟨hB, T, cs, _, h, hT⟩
theorem RefS.own {B B' : Nat} {w : World} {T : TypeId} {z n : Nat} {v : Value} {xs : List Value} (h : w.ownsRow B' T z v n xs) (hT : refT T) (hB : B ≤ B') : ∀ k, v.ownBlock = some k → RefS B w k := by
  intro k hk
  rcases h.2 with ⟨hv, _⟩ | ⟨g, cap, cur, hv, hb, hg, _⟩
  · rw [hv] at hk; cases hk
  · rw [hv] at hk
    cases hk
    exact ⟨Nat.le_trans hB hb, T, cur, _, hg, hT⟩
theorem refs_blk {B b : Nat} {w w' : World} {T : TypeId} {cs : Array Value} (hb : Blk w b T cs) (hT : refT T) (hB : B ≤ b) (h : Mod (· = b) w w') : Mod (RefS B w) w w' := h.mono (fun i _ e => by subst e; exact RefS.blk hb hT hB)
theorem refs_own {B B' : Nat} {w w' : World} {T : TypeId} {z n : Nat} {v : Value} {xs : List Value} (h : w.ownsRow B' T z v n xs) (hT : refT T) (hB : B ≤ B') (hm : Mod (fun k => v.ownBlock = some k) w w') : Mod (RefS B w) w w' := hm.mono (fun i _ e => RefS.own h hT hB i e)
theorem own_type {w : World} {B b z n : Nat} {T T' : TypeId} {v : Value} {xs : List Value} {cs : Array Value} (h : w.ownsRow B T z v n xs) (hb : Blk w b T' cs) (hne : T ≠ T') : ∀ k, v.ownBlock = some k → k ≠ b := by
  intro k hk e
  subst e
  rcases h.2 with ⟨hv, _⟩ | ⟨g, cap, cur, hv, _, hg, _⟩
  · rw [hv] at hk; cases hk
  · rw [hv] at hk
    cases hk
    rw [Blk, hg] at hb
    cases hb
    exact hne rfl
theorem own_apart {w : World} {B B' z z' n n' : Nat} {T T' : TypeId} {v v' : Value} {xs xs' : List Value} (h : w.ownsRow B T z v n xs) (h' : w.ownsRow B' T' z' v' n' xs') (hne : T ≠ T') : ∀ k, v.ownBlock = some k → v'.ownBlock ≠ some k := by
  intro k hk hk'
  rcases h'.2 with ⟨hv, _⟩ | ⟨g, cap, cur, hv, _, hg, _⟩
  · rw [hv] at hk'; cases hk'
  · rw [hv] at hk'
    cases hk'
    exact own_type h (show Blk w g T' cur from hg) hne g hk rfl
/-- The table of marks lies in none of them. -/
theorem RefS.far {B tb mb : Nat} {L : Tb} {last : Int} {w : World} (h : TabAt w tb mb L last) {k : Nat} (hk : RefS B w k) : ¬ tabS tb mb k := by
  obtain ⟨_, T, cs, fr, h2, h3⟩ := hk
  rintro (rfl | rfl)
  · have hb := h.blk
    rw [Blk, h2] at hb
    cases hb
    rcases h3 with h3 | h3 | h3 <;> revert h3 <;> decide
  · obtain ⟨D, ⟨es, clock, hb, _⟩, _⟩ := h.map
    rw [h2] at hb
    cases hb
theorem TabAt.refs {B tb mb : Nat} {L : Tb} {last : Int} {w w' : World} (h : TabAt w tb mb L last) (hm : Mod (RefS B w) w w') : TabAt w' tb mb L last :=
  h.mod hm (fun hk => RefS.far h hk (.inl rfl)) (fun hk => RefS.far h hk (.inr rfl))

/-- The document's table, its blocks from B on. -/
structure RefAt (w : World) (B ub : Nat) (v1 v2 : Value) (L : Tb) (last : Int) : Prop where
  blk : Blk w ub 63 #[v1, v2, .int .i64 last]
  base : B ≤ ub
  is : w.ownsRow B 3 1 v1 L.length (inE.cells (idsR L))
  rs : w.ownsRow B 33 5 v2 L.length (rgE.cells (L.map (·.2)))
theorem RefAt.mod {S : Nat → Prop} {w w' : World} {B ub : Nat} {v1 v2 : Value} {L : Tb} {last : Int} (h : RefAt w B ub v1 v2 L last) (hm : Mod S w w') (hS : ∀ k, RefS B w k → ¬ S k) : RefAt w' B ub v1 v2 L last :=
  ⟨h.blk.mod hm (hS _ (RefS.blk h.blk (.inr (.inr rfl)) h.base)), h.base,
    ownsRow_mod h.is hm (fun k hk => hS k (RefS.own h.is (.inl rfl) (Nat.le_refl _) k hk)), ownsRow_mod h.rs hm (fun k hk => hS k (RefS.own h.rs (.inr (.inl rfl)) (Nat.le_refl _) k hk))⟩
theorem RefAt.ext {w w' : World} {B ub : Nat} {v1 v2 : Value} {L : Tb} {last : Int} (h : RefAt w B ub v1 v2 L last) (hm : Ext w w') : RefAt w' B ub v1 v2 L last := h.mod hm (fun _ _ f => f)
/-- What changes the table of marks leaves it. -/
theorem RefAt.tab {w w' : World} {B ub tb mb : Nat} {v1 v2 : Value} {L L' : Tb} {last last' : Int} (h : RefAt w B ub v1 v2 L last) (ht : TabAt w tb mb L' last') (hm : Mod (tabS tb mb) w w') : RefAt w' B ub v1 v2 L last := h.mod hm (fun _ hk => RefS.far ht hk)
/-- Its numbers, its ranges, read. -/
theorem RefAt.rdI {w : World} {B ub : Nat} {v1 v2 : Value} {L : Tb} {last : Int} (h : RefAt w B ub v1 v2 L last) : ∃ ao c, v1 = .slice ao L.length c ∧ Reads w 1 ao L.length (inE.cells (idsR L)) := Enc.owns_reads (E := inE) h.is
theorem RefAt.rdR {w : World} {B ub : Nat} {v1 v2 : Value} {L : Tb} {last : Int} (h : RefAt w B ub v1 v2 L last) : ∃ ao c, v2 = .slice ao L.length c ∧ Reads w 5 ao L.length (rgE.cells (L.map (·.2))) := Enc.owns_reads (E := rgE) h.rs
end Go.Proofs.Ytffplppglicibaa

/- The document's table of ranges: where a number stands, what is among, Kids, At. Conditions: a table that may be. -/
namespace Go.Proofs.Ytffplppglicibaa
open Go.RowKit Go.Gim

set_option maxHeartbeats 800000 in
set_option maxRecDepth 1000000 in
theorem rat_any (l : List Int) (id R : Int) (hR : WhereI l id R) (ub : Nat) (ao : Option Addr) (cap : Nat) (v2 v3 : Value) (w : World) (hb : Blk w ub 63 #[.slice ao l.length cap, v2, v3]) (hr : Reads w 1 ao l.length (inE.cells l)) (hn : l.length ≤ 1000) :
    Calls Try.prog 63 #[.pointer (some ⟨ub, 0, none⟩), .int .i64 id] w fun e w' => e = .returned (.int .i64 R) ∧ w' = w := by
  have Hr := Lib.hid hr
  have HR := Lib.hid hR
  obtain ⟨N, hN⟩ : ∃ N, N = l.length := ⟨_, rfl⟩
  have HN := Lib.hid hN
  have hb0 := hb.cell 0
  simp only [List.getElem?_toArray, List.getElem?_cons_zero] at hb0
  rw [← hN] at hn hb0
  have hlb := hb.lt
  clear hr hN hR hb
  go_enter Try.func63, Try.ntmps63
  go_wp2_with fail
  go_loop [5] (fun i => ∃ k : Nat, k ≤ N ∧ i = .int .i64 k ∧ Hid (∀ j, j < k → l[j]? ≠ some id)) (fun i => N - (intOf i).toNat)
  case atStart => exact ⟨0, by omega, rfl, Lib.hid (fun j hj => absurd hj (Nat.not_lt_zero j))⟩
  case round =>
    obtain ⟨k, hk, rfl, HK⟩ := hrel
    by_cases hlt : k < N
    · have hlt' : (k : Int) < (N : Int) := by omega
      have hk0 : (0 : Int) ≤ (k : Int) := by omega
      obtain ⟨b, off, rfl⟩ := Hr.out.some (by rw [← HN.out]; omega)
      have hlk : k < l.length := by rw [← HN.out]; exact hlt
      have q0 := rdIn_at Hr.out (List.getElem?_eq_getElem hlk)
      have Hx := Lib.hid (List.getElem?_eq_getElem hlk)
      generalize l[k] = x at *
      have hbl := World.block_lt_of_cell? w _ q0
      by_cases hx : x = id
      · have hx1 : (x == id) = true := by simpa using hx
        have HE := Lib.hid (show (k : Int) = R by
          rcases HR.out with ⟨k2, h1, h2, h3⟩ | ⟨_, h2⟩
          · have a1 : ¬ k < k2 := fun h => h3 k h (by rw [Hx.out, hx])
            have a2 : ¬ k2 < k := fun h => HK.out k2 h h2
            omega
          · exact absurd (by rw [Hx.out, hx]) (h2 k))
        clear hx HR HK
        go_wp2_with fail
        go_ret
        exact ⟨ret_int HE.out, rfl⟩
      · have hx1 : (x == id) = false := by simpa using hx
        have Hne := Lib.hid hx
        clear hx
        go_wp2_with fail
        go_round
        case rel =>
          refine ⟨k + 1, by omega, by go_num, Lib.hid (fun j hj => ?_)⟩
          by_cases e : j = k
          · subst e; rw [Hx.out]; intro h; exact Hne.out (Option.some.inj h)
          · exact HK.out j (by omega)
        case measure => simp [intOf]; omega
    · have hlt' : ¬ (k : Int) < (N : Int) := by omega
      have HE := Lib.hid (show (-1 : Int) = R by
        rcases HR.out with ⟨k2, h1, h2, h3⟩ | ⟨h1, _⟩
        · exact absurd h2 (HK.out k2 (by have := (List.getElem?_eq_some_iff.1 h2).1; rw [← HN.out] at this; omega))
        · exact h1.symm)
      clear HR HK
      go_wp2_with fail
      go_ret
      exact ⟨ret_int HE.out, rfl⟩

set_option maxHeartbeats 800000 in
set_option maxRecDepth 1000000 in
theorem ramong_any (l : List Int) (n : Int) (ao : Option Addr) (cap : Nat) (w : World) (hr : Reads w 1 ao l.length (inE.cells l)) (hn : l.length ≤ 1000) :
    Calls Try.prog 65 #[.slice ao l.length cap, .int .i64 n] w fun e w' => e = .returned (.bool (decide (n ∈ l))) ∧ w' = w := by
  have Hr := Lib.hid hr
  have Hin := Lib.hid (fun (k : Nat) (h : l[k]? = some n) => (decide_eq_true (List.mem_of_getElem? h) : decide (n ∈ l) = true))
  have Hno := Lib.hid (fun (h : ∀ j, j < l.length → l[j]? ≠ some n) => (decide_eq_false (fun hm => by
    obtain ⟨j, hj, e⟩ := List.getElem_of_mem hm
    exact h j hj (by rw [List.getElem?_eq_getElem hj, e])) : decide (n ∈ l) = false))
  obtain ⟨N, hN⟩ : ∃ N, N = l.length := ⟨_, rfl⟩
  have HN := Lib.hid hN
  rw [← hN] at hn Hno ⊢
  generalize decide (n ∈ l) = R at *
  clear hr hN
  go_enter Try.func65, Try.ntmps65
  go_wp2_with fail
  go_loop [5] (fun i => ∃ k : Nat, k ≤ N ∧ i = .int .i64 k ∧ Hid (∀ j, j < k → l[j]? ≠ some n)) (fun i => N - (intOf i).toNat)
  case atStart => exact ⟨0, by omega, rfl, Lib.hid (fun j hj => absurd hj (Nat.not_lt_zero j))⟩
  case round =>
    obtain ⟨k, hk, rfl, HK⟩ := hrel
    by_cases hlt : k < N
    · have hlt' : (k : Int) < (N : Int) := by omega
      have hk0 : (0 : Int) ≤ (k : Int) := by omega
      obtain ⟨b, off, rfl⟩ := Hr.out.some (by rw [← HN.out]; omega)
      have hlk : k < l.length := by rw [← HN.out]; exact hlt
      have q0 := rdIn_at Hr.out (List.getElem?_eq_getElem hlk)
      have Hx := Lib.hid (List.getElem?_eq_getElem hlk)
      generalize l[k] = x at *
      have hbl := World.block_lt_of_cell? w _ q0
      by_cases hx : x = n
      · have hx1 : (x == n) = true := by simpa using hx
        have HE := Lib.hid (Hin.out k (by rw [Hx.out, hx]))
        clear hx Hno HK
        go_wp2_with fail
        go_ret
        exact ⟨ret_bool HE.out.symm, rfl⟩
      · have hx1 : (x == n) = false := by simpa using hx
        have Hne := Lib.hid hx
        clear hx
        go_wp2_with fail
        go_round
        case rel =>
          refine ⟨k + 1, by omega, by go_num, Lib.hid (fun j hj => ?_)⟩
          by_cases e : j = k
          · subst e; rw [Hx.out]; intro h; exact Hne.out (Option.some.inj h)
          · exact HK.out j (by omega)
        case measure => simp [intOf]; omega
    · have hlt' : ¬ (k : Int) < (N : Int) := by omega
      have HE := Lib.hid (Hno.out (fun j hj => HK.out j (by omega)))
      clear Hno HK
      go_wp2_with fail
      go_ret
      exact ⟨ret_bool HE.out.symm, rfl⟩

set_option maxHeartbeats 1600000 in
set_option maxRecDepth 1000000 in
theorem rkids_any (id : Int) (B ub : Nat) (v1 v2 : Value) (L : Tb) (last : Int) (w : World) (h : RefAt w B ub v1 v2 L last) (hn : L.length ≤ 256) :
    Calls Try.prog 46 #[.pointer (some ⟨ub, 0, none⟩), .int .i64 id] w (inE.Out 3 (idsBy (fun r => r.u == id) L) w) := by
  have hl1 : maxLen = 9223372036854775807 := rfl
  obtain ⟨a1, c1, hv1, hr1⟩ := h.rdI
  obtain ⟨a2, c2, hv2, hr2⟩ := h.rdR
  have H := Lib.hid h
  have HrI := Lib.hid hr1
  have HrR := Lib.hid hr2
  obtain ⟨N, hN⟩ : ∃ N, N = L.length := ⟨_, rfl⟩
  have HN := Lib.hid hN
  subst hv1 hv2
  rw [← hN] at hn H
  unfold Enc.Out
  clear h hr1 hr2 hN
  go_enter Try.func46, Try.ntmps46
  go_wp2_with fail
  go_loopw [5, 6] (fun v i wr => ∃ k : Nat, k ≤ N ∧ i = .int .i64 k ∧ Hid (wr.ownsRow w.heap.size 3 1 v (idsBy (fun r => r.u == id) (L.take k)).length (inE.cells (idsBy (fun r => r.u == id) (L.take k)))) ∧ Ext w wr) (fun _ i _ => N - (intOf i).toNat)
  case atStart => exact ⟨0, by omega, rfl, Lib.hid (World.ownsRow_nil _ _ _ _), Mod.refl _ _⟩
  case round =>
    obtain ⟨k, hk, rfl, HO, hx⟩ := hrel
    by_cases hlt : k < N
    · have hlt' : (k : Int) < (N : Int) := by omega
      have hk0 : (0 : Int) ≤ (k : Int) := by omega
      obtain ⟨bi, oi, rfl⟩ := HrI.out.some (by rw [← HN.out]; omega)
      obtain ⟨br, or, rfl⟩ := HrR.out.some (by rw [← HN.out]; omega)
      have hmL : k < L.length := by rw [← HN.out]; exact hlt
      have hkL : L[k]? = some (L[k]'hmL) := List.getElem?_eq_getElem _
      have hidK : (idsR L)[k]? = some (L[k]'hmL).1 := by unfold idsR; rw [List.getElem?_map, hkL]; rfl
      obtain ⟨r0, r1, r2, r3, r4⟩ := reads_rg (HrR.out.mod hx (fun _ _ f => f)) (show (L.map (·.2))[k]? = some (L[k]'hmL).2 by rw [List.getElem?_map, hkL]; rfl)
      have hst := idsBy_snoc (fun r => r.u == id) hkL
      have hlb0 := idsBy_len (fun r => r.u == id) (L.take k)
      rw [List.length_take] at hlb0
      have Hlb := Lib.hid hlb0
      have hbr := World.block_lt_of_cell? wr _ r0
      generalize L[k]'hmL = z at *
      obtain ⟨id1, ra, rb, rp, rq, ru⟩ := z
      simp only at hidK hst r0 r1 r2 r3 r4
      have HidK := Lib.hid hidK
      have Hst := Lib.hid hst
      have hbm := H.out.blk.mod hx (fun f => f)
      have d0 := hbm.cell 0
      have d1 := hbm.cell 1
      simp only [List.getElem?_toArray, List.getElem?_cons_zero, List.getElem?_cons_succ] at d0 d1
      have hlbm := hbm.lt
      clear hkL hidK hst hlb0 hbm
      cases hso : ru == id with
      | true =>
        go_upto_region 6 with fail
        clear d0 d1 r0 r1 r2 r3 r4 hbr hlbm
        have hxr := Mod.refl (fun _ => False) wr
        have hxw := hx
        have Hst2 := Lib.hid (show idsBy (fun r => r.u == id) (L.take (k + 1)) = idsBy (fun r => r.u == id) (L.take k) ++ [id1] by rw [Hst.out]; simp only [hso, if_true])
        have HOm := Lib.hid (ownsRow_mod HO.out hxr (fun _ _ f => f))
        have hbm := H.out.blk.mod hxw (fun f => f)
        have d0 := hbm.cell 0
        simp only [List.getElem?_toArray, List.getElem?_cons_zero] at d0
        have hlb := hbm.lt
        have q0 := rdIn_at (HrI.out.mod hxw (fun _ _ f => f)) HidK.out
        have hbl := World.block_lt_of_cell? wr _ q0
        have hmax : maxLen = 9223372036854775807 := rfl
        clear hbm hso Hst
        go_wp2_with (at_builtin; refine wpList_append_reads rfl _ _ 43 rfl w.heap.size 3 _ 1 8 Try.info3 Try.underlying43 rfl (by decide) _ (idsBy (fun r => r.u == id) (L.take k)).length _ rfl (HOm.out.alloc _) _ 1 1 [.int .i64 id1] rfl ?hrd (inE.one id1) (by have := Hlb.out; omega) (by have := Hlb.out; omega) ?hbs ?_)
        case hrd =>
          have := Reads.new wr 3 #[.int .i64 id1] 1 1 rfl
          simpa using this
        case hbs => have := hxw.size; simp at this ⊢; omega
        intro v' wk hown hmk hbk
        have hyk := (hxw.alloc (.cells #[.int .i64 id1] 3)).over hmk (fun i hi => (HOm.out.lt i hi).1)
        have HOK := Lib.hid (show wk.ownsRow w.heap.size 3 1 v' (idsBy (fun r => r.u == id) (L.take (k + 1))).length (inE.cells (idsBy (fun r => r.u == id) (L.take (k + 1)))) by rw [Hst2.out, inE.cells_append, List.length_append]; exact hown)
        clear hmk hbk hown d0 hlb q0 hbl hxw
        go_wp2_with fail
        go_roundw
        case rel => exact ⟨k + 1, by omega, by go_num, HOK, hyk⟩
        case measure => simp [intOf]; omega
      | false =>
        have Hst2 := Lib.hid (show idsBy (fun r => r.u == id) (L.take (k + 1)) = idsBy (fun r => r.u == id) (L.take k) by rw [Hst.out]; simp only [hso, Bool.false_eq_true, if_false, List.append_nil])
        go_wp2_with fail
        go_roundw
        case rel => exact ⟨k + 1, by omega, by go_num, Lib.hid (by rw [Hst2.out]; exact HO.out), hx⟩
        case measure => simp [intOf]; omega
    · have hlt' : ¬ (k : Int) < (N : Int) := by omega
      obtain rfl : k = N := by omega
      have hO := HO.out
      rw [List.take_of_length_le (by rw [← HN.out]; exact Nat.le_refl _)] at hO
      have HO2 := Lib.hid hO
      have hbm := H.out.blk.mod hx (fun f => f)
      have d0 := hbm.cell 0
      simp only [List.getElem?_toArray, List.getElem?_cons_zero] at d0
      have hlbm := hbm.lt
      clear hO HO hbm
      go_wp2_with fail
      go_ret
      exact ⟨_, rfl, HO2.out, hx⟩

set_option maxHeartbeats 1600000 in
set_option maxRecDepth 1000000 in
theorem rat2_any (o : Int) (B ub : Nat) (v1 v2 : Value) (L : Tb) (last : Int) (w : World) (h : RefAt w B ub v1 v2 L last) (hn : L.length ≤ 256) :
    Calls Try.prog 45 #[.pointer (some ⟨ub, 0, none⟩), .int .i64 o] w (inE.Out 3 (idsBy (fun r => hasS (r.a, r.b) o) L) w) := by
  have hl1 : maxLen = 9223372036854775807 := rfl
  obtain ⟨a1, c1, hv1, hr1⟩ := h.rdI
  obtain ⟨a2, c2, hv2, hr2⟩ := h.rdR
  have H := Lib.hid h
  have HrI := Lib.hid hr1
  have HrR := Lib.hid hr2
  obtain ⟨N, hN⟩ : ∃ N, N = L.length := ⟨_, rfl⟩
  have HN := Lib.hid hN
  subst hv1 hv2
  rw [← hN] at hn H
  unfold Enc.Out
  clear h hr1 hr2 hN
  go_enter Try.func45, Try.ntmps45
  go_wp2_with fail
  go_loopw [5, 6] (fun v i wr => ∃ k : Nat, k ≤ N ∧ i = .int .i64 k ∧ Hid (wr.ownsRow w.heap.size 3 1 v (idsBy (fun r => hasS (r.a, r.b) o) (L.take k)).length (inE.cells (idsBy (fun r => hasS (r.a, r.b) o) (L.take k)))) ∧ Ext w wr) (fun _ i _ => N - (intOf i).toNat)
  case atStart => exact ⟨0, by omega, rfl, Lib.hid (World.ownsRow_nil _ _ _ _), Mod.refl _ _⟩
  case round =>
    obtain ⟨k, hk, rfl, HO, hx⟩ := hrel
    by_cases hlt : k < N
    · have hlt' : (k : Int) < (N : Int) := by omega
      have hk0 : (0 : Int) ≤ (k : Int) := by omega
      obtain ⟨bi, oi, rfl⟩ := HrI.out.some (by rw [← HN.out]; omega)
      obtain ⟨br, or, rfl⟩ := HrR.out.some (by rw [← HN.out]; omega)
      have hmL : k < L.length := by rw [← HN.out]; exact hlt
      have hkL : L[k]? = some (L[k]'hmL) := List.getElem?_eq_getElem _
      have hidK : (idsR L)[k]? = some (L[k]'hmL).1 := by unfold idsR; rw [List.getElem?_map, hkL]; rfl
      obtain ⟨r0, r1, r2, r3, r4⟩ := reads_rg (HrR.out.mod hx (fun _ _ f => f)) (show (L.map (·.2))[k]? = some (L[k]'hmL).2 by rw [List.getElem?_map, hkL]; rfl)
      have hst := idsBy_snoc (fun r => hasS (r.a, r.b) o) hkL
      have hlb0 := idsBy_len (fun r => hasS (r.a, r.b) o) (L.take k)
      rw [List.length_take] at hlb0
      have Hlb := Lib.hid hlb0
      have hbr := World.block_lt_of_cell? wr _ r0
      generalize L[k]'hmL = z at *
      obtain ⟨id1, ra, rb, rp, rq, ru⟩ := z
      simp only at hidK hst r0 r1 r2 r3 r4
      have HidK := Lib.hid hidK
      have Hst := Lib.hid hst
      have hbm := H.out.blk.mod hx (fun f => f)
      have d0 := hbm.cell 0
      have d1 := hbm.cell 1
      simp only [List.getElem?_toArray, List.getElem?_cons_zero, List.getElem?_cons_succ] at d0 d1
      have hlbm := hbm.lt
      clear hkL hidK hst hlb0 hbm
      have Hh := Lib.hid (rfHas_any (ra, rb) o wr)
      go_wp2_with fail
      refine Hh.out.mono ?_
      rintro e wz ⟨rfl, hxr⟩
      have hxz := hx.ext_trans hxr
      clear d0 d1 r0 r1 r2 r3 r4 hbr hlbm Hh
      cases hso : hasS (ra, rb) o with
      | true =>
        go_upto_region 6 with fail
        have hxw := hxz
        have Hst2 := Lib.hid (show idsBy (fun r => hasS (r.a, r.b) o) (L.take (k + 1)) = idsBy (fun r => hasS (r.a, r.b) o) (L.take k) ++ [id1] by rw [Hst.out]; simp only [hso, if_true])
        have HOm := Lib.hid (ownsRow_mod HO.out hxr (fun _ _ f => f))
        have hbm := H.out.blk.mod hxw (fun f => f)
        have d0 := hbm.cell 0
        simp only [List.getElem?_toArray, List.getElem?_cons_zero] at d0
        have hlb := hbm.lt
        have q0 := rdIn_at (HrI.out.mod hxw (fun _ _ f => f)) HidK.out
        have hbl := World.block_lt_of_cell? wz _ q0
        have hmax : maxLen = 9223372036854775807 := rfl
        clear hbm hso Hst
        go_wp2_with (at_builtin; refine wpList_append_reads rfl _ _ 43 rfl w.heap.size 3 _ 1 8 Try.info3 Try.underlying43 rfl (by decide) _ (idsBy (fun r => hasS (r.a, r.b) o) (L.take k)).length _ rfl (HOm.out.alloc _) _ 1 1 [.int .i64 id1] rfl ?hrd (inE.one id1) (by have := Hlb.out; omega) (by have := Hlb.out; omega) ?hbs ?_)
        case hrd =>
          have := Reads.new wz 3 #[.int .i64 id1] 1 1 rfl
          simpa using this
        case hbs => have := hxw.size; simp at this ⊢; omega
        intro v' wk hown hmk hbk
        have hyk := (hxw.alloc (.cells #[.int .i64 id1] 3)).over hmk (fun i hi => (HOm.out.lt i hi).1)
        have HOK := Lib.hid (show wk.ownsRow w.heap.size 3 1 v' (idsBy (fun r => hasS (r.a, r.b) o) (L.take (k + 1))).length (inE.cells (idsBy (fun r => hasS (r.a, r.b) o) (L.take (k + 1)))) by rw [Hst2.out, inE.cells_append, List.length_append]; exact hown)
        clear hmk hbk hown d0 hlb q0 hbl hxw
        go_wp2_with fail
        go_roundw
        case rel => exact ⟨k + 1, by omega, by go_num, HOK, hyk⟩
        case measure => simp [intOf]; omega
      | false =>
        have Hst2 := Lib.hid (show idsBy (fun r => hasS (r.a, r.b) o) (L.take (k + 1)) = idsBy (fun r => hasS (r.a, r.b) o) (L.take k) by rw [Hst.out]; simp only [hso, Bool.false_eq_true, if_false, List.append_nil])
        have HOm := Lib.hid (ownsRow_mod HO.out hxr (fun _ _ f => f))
        go_wp2_with fail
        go_roundw
        case rel => exact ⟨k + 1, by omega, by go_num, Lib.hid (by rw [Hst2.out]; exact HOm.out), hxz⟩
        case measure => simp [intOf]; omega
    · have hlt' : ¬ (k : Int) < (N : Int) := by omega
      obtain rfl : k = N := by omega
      have hO := HO.out
      rw [List.take_of_length_le (by rw [← HN.out]; exact Nat.le_refl _)] at hO
      have HO2 := Lib.hid hO
      have hbm := H.out.blk.mod hx (fun f => f)
      have d0 := hbm.cell 0
      simp only [List.getElem?_toArray, List.getElem?_cons_zero] at d0
      have hlbm := hbm.lt
      clear hO HO hbm
      go_wp2_with fail
      go_ret
      exact ⟨_, rfl, HO2.out, hx⟩
end Go.Proofs.Ytffplppglicibaa

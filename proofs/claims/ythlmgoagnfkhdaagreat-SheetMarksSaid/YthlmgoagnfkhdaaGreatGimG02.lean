/- General lemmas used by all walks of this claim: how far a call changes memory (Mod), blocks read cell by cell, and a class of worlds for regions whose calls only make new memory. Conditions: none. -/
import Derived.Test.YthlmgoagnfkhdaaGreatGimG01
import Derived.WalkKit
import Derived.BigRegion
import Derived.BigQuiet
import Derived.Deep.QuietTactic
import Derived.Lib.Hide
import Derived.WalkSpells
import Derived.WalkLawsBesides
import Derived.Lib.AppendStr
import Derived.ArgAppend
set_option maxHeartbeats 6400000
set_option maxRecDepth 1000000
set_option linter.unusedVariables false
set_option linter.unusedSimpArgs false
namespace Go.Gim
open Go.RowKit
structure Mod (S : Nat → Prop) (w w' : World) : Prop where
 os : w'.os = w.os
 tape : w'.tape = w.tape
 output : w'.output = w.output
 size : w.heap.size ≤ w'.heap.size
 block : ∀ k, k < w.heap.size → ¬ S k → w'.heap[k]? = w.heap[k]?
abbrev Ext (w w' : World) : Prop := Mod (fun _ => False) w w'
theorem Mod.refl (S : Nat → Prop) (w : World) : Mod S w w := ⟨rfl, rfl, rfl, Nat.le_refl _, fun _ _ _ => rfl⟩
theorem Mod.mono {S T : Nat → Prop} {w w' : World} (h : Mod S w w') (hs : ∀ k, k < w.heap.size → S k → T k) : Mod T w w' :=
 ⟨h.os, h.tape, h.output, h.size, fun k hk hT => h.block k hk (fun hS => hT (hs k hk hS))⟩
theorem Mod.trans {S T : Nat → Prop} {a b c : World} (h : Mod S a b) (k : Mod T b c) (hT : ∀ i, i < a.heap.size → T i → S i) : Mod S a c :=
 ⟨k.os.trans h.os, k.tape.trans h.tape, k.output.trans h.output, Nat.le_trans h.size k.size,
  fun i hi hS => (k.block i (Nat.lt_of_lt_of_le hi h.size) (fun t => hS (hT i hi t))).trans (h.block i hi hS)⟩
theorem Mod.drewN {S : Nat → Prop} {a w : World} (h : Mod S a w) (n : Nat) : Mod S a (w.drewN n) := ⟨h.os, h.tape, h.output, h.size, h.block⟩
theorem Mod.drew {S : Nat → Prop} {a w : World} (h : Mod S a w) : Mod S a w.drew := ⟨h.os, h.tape, h.output, h.size, h.block⟩
theorem Mod.of_drewN {S : Nat → Prop} {a w : World} {n : Nat} (h : Mod S (a.drewN n) w) : Mod S a w := ⟨h.os, h.tape, h.output, h.size, h.block⟩
theorem Mod.alloc {S : Nat → Prop} {a w : World} (h : Mod S a w) (o : Obj) : Mod S a (w.alloc o) :=
 ⟨h.os, h.tape, h.output, Nat.le_trans h.size (by simp), fun k hk hS => (Below.heap_alloc _ _ _ (Nat.lt_of_lt_of_le hk h.size)).trans (h.block k hk hS)⟩
theorem Mod.setCell {S : Nat → Prop} {a w : World} (h : Mod S a w) {p : Addr} (hp : p.block < a.heap.size → S p.block) (u : Value) : Mod S a (w.setCell p u) :=
 ⟨h.os, h.tape, h.output, by simpa using h.size, fun k hk hS => (Below.heap_setCell _ _ _ _ (fun e => hS (by subst e; exact hp hk))).trans (h.block k hk hS)⟩
theorem Mod.grown {S : Nat → Prop} {a w w' : World} {row : Option Nat} (h : Mod S a w) (hg : w.grownBy w' row) (hr : ∀ k, row = some k → k < a.heap.size → S k) : Mod S a w' :=
 ⟨hg.os.trans h.os, hg.tape.trans h.tape, hg.output.trans h.output, Nat.le_trans h.size hg.size,
  fun k hk hS => (hg.block k (Nat.lt_of_lt_of_le hk h.size) (fun e => hS (hr k e.symm hk))).trans (h.block k hk hS)⟩
theorem Mod.cell {S : Nat → Prop} {w w' : World} (h : Mod S w w') {p : Addr} (hp : p.block < w.heap.size) (hS : ¬ S p.block) : w'.cell? p = w.cell? p :=
 World.cell?_of_block (w := w) (h.block _ hp hS)
theorem Mod.frozen {S : Nat → Prop} {w w' : World} (h : Mod S w w') {p : Addr} (hp : p.block < w.heap.size) (hS : ¬ S p.block) : w'.frozen? p = w.frozen? p :=
 World.frozen?_of_block (w := w) (h.block _ hp hS)
theorem Mod.below {w w' : World} (h : Ext w w') : Below w.heap.size w w' := ⟨h.os, h.tape, h.output, h.size, fun k hk => h.block k hk (fun f => f)⟩
theorem Mod.of_below {S : Nat → Prop} {w w' : World} (h : Below w.heap.size w w') : Mod S w w' := ⟨h.os, h.tape, h.output, h.size, fun k hk _ => h.block k hk⟩
theorem Mod.any {S : Nat → Prop} {w w' : World} (h : Ext w w') : Mod S w w' := h.mono (fun _ _ f => f.elim)
theorem Mod.ext_trans {a b c : World} (h : Ext a b) (k : Ext b c) : Ext a c := Mod.trans h k (fun _ _ f => f)
theorem Mod.over {a b c : World} {v : Value} (h : Ext a b) (hm : Mod (fun k => v.ownBlock = some k) b c) (hv : ∀ k, v.ownBlock = some k → a.heap.size ≤ k) : Ext a c :=
 Mod.trans h hm (fun i hi e => absurd (hv i e) (by omega))
theorem Mod.lt {S : Nat → Prop} {w w' : World} (h : Mod S w w') {b : Nat} (hb : b < w.heap.size) : b < w'.heap.size := Nat.lt_of_lt_of_le hb h.size
def Blk (w : World) (b : Nat) (T : TypeId) (cs : Array Value) : Prop := w.heap[b]? = some (.cells cs T (0, 0))
theorem Blk.lt {w : World} {b : Nat} {T : TypeId} {cs : Array Value} (h : Blk w b T cs) : b < w.heap.size := (Array.getElem?_eq_some_iff.1 h).1
theorem Blk.cell {w : World} {b : Nat} {T : TypeId} {cs : Array Value} (h : Blk w b T cs) (i : Nat) : w.cell? ⟨b, i, none⟩ = cs[i]? := by
 unfold Blk at h; simp [World.cell?, h]
theorem Blk.free {w : World} {b : Nat} {T : TypeId} {cs : Array Value} (h : Blk w b T cs) (i : Nat) : w.frozen? ⟨b, i, none⟩ = false := by
 unfold Blk at h; simp [World.frozen?, h]
theorem Blk.mod {S : Nat → Prop} {w w' : World} {b : Nat} {T : TypeId} {cs : Array Value} (h : Blk w b T cs) (hm : Mod S w w') (hS : ¬ S b) : Blk w' b T cs :=
 (hm.block b h.lt hS).trans h
theorem Blk.drewN {w : World} {b : Nat} {T : TypeId} {cs : Array Value} (h : Blk w b T cs) (n : Nat) : Blk (w.drewN n) b T cs := h
theorem Blk.set {w : World} {b : Nat} {T : TypeId} {cs : Array Value} (h : Blk w b T cs) (i : Nat) (v : Value) : Blk (w.setCell ⟨b, i, none⟩ v) b T (cs.setIfInBounds i v) := by
 unfold Blk at *
 simp only [World.setCell, Array.getElem?_modify, h, Option.map_some, Option.isSome_none, Bool.false_eq_true, if_false, if_true]
theorem Blk.set_other {w : World} {b : Nat} {T : TypeId} {cs : Array Value} (h : Blk w b T cs) {p : Addr} (hp : b ≠ p.block) (v : Value) : Blk (w.setCell p v) b T cs :=
 (Below.heap_setCell _ _ _ _ hp).trans h
theorem Blk.alloc {w : World} {b : Nat} {T : TypeId} {cs : Array Value} (h : Blk w b T cs) (o : Obj) : Blk (w.alloc o) b T cs :=
 (Below.heap_alloc _ _ _ h.lt).trans h
theorem Blk.new (w : World) (T : TypeId) (cs : Array Value) : Blk (w.alloc (.cells cs T)) w.heap.size T cs :=
 heap_alloc_new w _
theorem ownsRow_shape {w : World} {base : Nat} {e : TypeId} {size : Nat} {v : Value} {n : Nat} {xs : List Value} (h : w.ownsRow base e size v n xs) :
  ∃ ao cap, v = .slice ao n cap ∧ n ≤ cap ∧ (0 < n → ∃ g, ao = some ⟨g, 0, none⟩) := by
 rcases h.2 with ⟨hv, hn⟩ | ⟨g, cap, cur, hv, _, _, hn, _⟩
 ·exact ⟨none, 0, by rw [hv, hn], by omega, fun h0 => by omega⟩
 ·exact ⟨_, cap, hv, hn, fun _ => ⟨g, rfl⟩⟩
theorem ret_int {k : IntKind} {a b : Int} (h : a = b) : Ending.returned (.int k a) = .returned (.int k b) := by rw [h]
theorem ret_bool {a b : Bool} (h : a = b) : Ending.returned (.bool a) = .returned (.bool b) := by rw [h]
theorem ret_string {a b : ByteArray} (h : a = b) : Ending.returned (.string a) = .returned (.string b) := by rw [h]
def Reads (w : World) (size : Nat) (ao : Option Addr) (n : Nat) (xs : List Value) : Prop :=
 xs.length = n * size ∧ (0 < n → ∃ b off, ao = some ⟨b, off, none⟩ ∧ ∀ j, j < xs.length → w.cell? ⟨b, off + j, none⟩ = xs[j]?)
theorem Reads.adds {w : World} {b off : Nat} {xs : List Value} (h : ∀ j, j < xs.length → w.cell? ⟨b, off + j, none⟩ = xs[j]?) :
  ∀ j u, xs[j]? = some u → w.cell? ((⟨b, off, none⟩ : Addr).add j) = some u := by
 intro j u hu
 have hj := (List.getElem?_eq_some_iff.1 hu).1
 have e : (⟨b, off, none⟩ : Addr).add j = ⟨b, off + j, none⟩ := by unfold Addr.add; split <;> simp_all
 rw [e, h j hj, hu]
theorem Reads.mod {S : Nat → Prop} {w w' : World} {size n : Nat} {ao : Option Addr} {xs : List Value} (h : Reads w size ao n xs) (hm : Mod S w w') (hS : ∀ a, ao = some a → ¬ S a.block) : Reads w' size ao n xs := by
 refine ⟨h.1, fun h0 => ?_⟩
 obtain ⟨b, off, rfl, hc⟩ := h.2 h0
 refine ⟨b, off, rfl, fun j hj => ?_⟩
 have hu : w.cell? ⟨b, off + j, none⟩ = some (xs[j]) := by rw [hc j hj, List.getElem?_eq_getElem hj]
 rw [hm.cell (p := ⟨b, off + j, none⟩) (World.block_lt_of_cell? w _ hu) (hS ⟨b, off, none⟩ rfl)]
 exact hc j hj
theorem Reads.alloc {w : World} {size n : Nat} {ao : Option Addr} {xs : List Value} (h : Reads w size ao n xs) (o : Obj) : Reads (w.alloc o) size ao n xs :=
 h.mod ((Mod.refl (fun _ => False) w).alloc o) (fun _ _ f => f)
theorem Reads.own {w : World} {base : Nat} {e : TypeId} {size n cap : Nat} {ao : Option Addr} {xs : List Value} (h : w.ownsRow base e size (.slice ao n cap) n xs) : Reads w size ao n xs := by
 refine ⟨h.1, fun h0 => ?_⟩
 obtain ⟨ao', cap', hv, hn, hg⟩ := ownsRow_shape h
 obtain ⟨g, rfl⟩ := hg h0
 cases hv
 refine ⟨g, 0, rfl, fun j hj => ?_⟩
 rw [Nat.zero_add, h.cellAt j (by rw [← h.1]; exact hj)]
theorem Reads.new (w : World) (T : TypeId) (cs : Array Value) (size n : Nat) (h : cs.size = n * size) : Reads (w.alloc (.cells cs T)) size (some ⟨w.heap.size, 0, none⟩) n cs.toList := by
 refine ⟨by simpa using h, fun _ => ⟨_, _, rfl, fun j hj => ?_⟩⟩
 rw [Nat.zero_add, (Blk.new w T cs).cell j]; simp
theorem Reads.at {w : World} {b off n : Nat} {xs : List Value} (h : Reads w 1 (some ⟨b, off, none⟩) n xs) {j : Nat} {v : Value} (hv : xs[j]? = some v) : w.cell? ⟨b, off + j, none⟩ = some v := by
 have hj := (List.getElem?_eq_some_iff.1 hv).1
 obtain ⟨b', off', he, hc⟩ := h.2 (by have := h.1; omega)
 cases he
 rw [hc j hj, hv]
theorem Reads.some {w : World} {ao : Option Addr} {size n : Nat} {xs : List Value} (h : Reads w size ao n xs) (h0 : 0 < n) : ∃ b off, ao = .some ⟨b, off, none⟩ := by
 obtain ⟨b, off, he, _⟩ := h.2 h0; exact ⟨b, off, he⟩
theorem map_oneCell {α : Type} (f : α → Value) (hf : ∀ a, (f a).oneCell' = true) (l : List α) : ∀ u ∈ l.map f, u.oneCell' = true := by
 intro u hu; obtain ⟨a, _, rfl⟩ := List.mem_map.1 hu; exact hf a
/-! A class of worlds for regions that draw their order and whose calls make new memory alone. -/
def Exts (w : World) : Type := { w' : World // Below w.heap.size w w' }
def ext (w : World) (x : Exts w) : World := x.1
theorem ext_below (w : World) (x : Exts w) : Below w.heap.size w (ext w x) := x.2
@[simp, go_sem] theorem cell?_ext (w : World) (x : Exts w) (b o : Nat) (h : b < w.heap.size) : (ext w x).cell? ⟨b, o, none⟩ = w.cell? ⟨b, o, none⟩ :=
 (ext_below w x).cell (p := ⟨b, o, none⟩) h
@[simp, go_sem] theorem frozen?_ext (w : World) (x : Exts w) (b o : Nat) (h : b < w.heap.size) : (ext w x).frozen? ⟨b, o, none⟩ = w.frozen? ⟨b, o, none⟩ :=
 (ext_below w x).frozen (p := ⟨b, o, none⟩) h
theorem Exts.of {w w' : World} (h : Below w.heap.size w w') : ∃ x : Exts w, w' = ext w x := ⟨⟨w', h⟩, rfl⟩
theorem Calls.ext_of {P : Program} {f : FuncId} {args : Array Value} {w : World} {x : Exts w} {v : Value}
  (h : Calls P f args (ext w x) fun e w' => e = .returned v ∧ Ext (ext w x) w') : Calls P f args (ext w x) fun e w'' => e = .returned v ∧ ∃ y : Exts w, w'' = ext w y :=
 h.mono fun _ _ ⟨he, hm⟩ => ⟨he, Exts.of ((ext_below w x).trans (hm.below.mono (ext_below w x).size))⟩
theorem Calls.ext_of_same {P : Program} {f : FuncId} {args : Array Value} {w : World} {x : Exts w} {v : Value}
  (h : Calls P f args (ext w x) fun e w' => e = .returned v ∧ w' = ext w x) : Calls P f args (ext w x) fun e w'' => e = .returned v ∧ ∃ y : Exts w, w'' = ext w y :=
 h.mono fun _ _ ⟨he, hm⟩ => ⟨he, x, hm⟩
theorem wp_region_ext_lit {P : Program} {id : Nat} {Q : Exit → Act → World → Prop} {a : Act} {w : World} {l : List Oper} (hm : P.follows .mixedOrders = true) (hB : Region.lexB .any l.toArray = true)
  (h : wpQuiet P l.toArray (fun w' => ∃ x : Exts w, w' = ext w x) (fun a' => ∀ w', Ext w w' → Q .normal a' w') l a) : (Code.region id l.toArray true).wp P Q a w :=
 wp_region_quiet (C := fun w' => ∃ x : Exts w, w' = ext w x) hm hB (Exts.of ⟨rfl, rfl, rfl, Nat.le_refl _, fun _ _ => rfl⟩)
  (by
   have h2 : (fun a' : Act => ∀ w', (∃ x : Exts w, w' = ext w x) → Q .normal a' w') = (fun a' : Act => ∀ w', Ext w w' → Q .normal a' w') := by
    funext a'; apply propext; constructor
    ·intro h w' hx; exact h w' (Exts.of hx.below)
    ·rintro h w' ⟨x, rfl⟩; exact h _ (Mod.of_below (ext_below w x))
   rw [h2]; simpa using h)
end Go.Gim
namespace Go.Gim
open Go.RowKit Go.Lib
theorem run_append_own_nothing {P : Program} {w : World} (base : Nat) (t ty e : TypeId) (i : TypeInfo) (size : Nat) (ht : P.underlying t = some (.slice e)) (hi : P.info? e = some i)
  (v : Value) (n : Nat) (xs : List Value) (hown : w.ownsRow base e size v n xs) (c : Nat) :
  (Builtin.append_ #[t, t] ty #[v, .slice none 0 c]).run P w = .ok v w := by
 rcases hown.2 with ⟨rfl, rfl⟩ | ⟨g, cap, cur, rfl, _, _, hnc, _⟩
 ·simp [Builtin.append_, run_underlying ht, sizeOf, typeInfo, hi, Builtin.lenOf, Builtin.firstCells]
 ·simp [Builtin.append_, run_underlying ht, sizeOf, typeInfo, hi, Builtin.lenOf, Builtin.firstCells, hnc, storeCells]
theorem ownsRow_base {w : World} {b b' : Nat} {e : TypeId} {size : Nat} {v : Value} {n : Nat} {xs : List Value} (h : w.ownsRow b e size v n xs) (hb : b' ≤ b) : w.ownsRow b' e size v n xs := by
 refine ⟨h.1, ?_⟩
 rcases h.2 with hn | ⟨g, cap, cur, hv, hg, rest⟩
 ·exact .inl hn
 ·exact .inr ⟨g, cap, cur, hv, Nat.le_trans hb hg, rest⟩
theorem ownsRow_mod {S : Nat → Prop} {w w' : World} {base : Nat} {e : TypeId} {size : Nat} {v : Value} {n : Nat} {xs : List Value} (h : w.ownsRow base e size v n xs) (hm : Mod S w w') (hS : ∀ k, v.ownBlock = some k → ¬ S k) : w'.ownsRow base e size v n xs := by
 refine ⟨h.1, ?_⟩
 rcases h.2 with hn | ⟨g, cap, cur, hv, hb, hg, rest⟩
 ·exact .inl hn
 ·exact .inr ⟨g, cap, cur, hv, hb, (hm.block g (Array.getElem?_eq_some_iff.1 hg).1 (hS g (by rw [hv]; rfl))).trans hg, rest⟩
theorem own_new {w w' : World} {e : TypeId} {size : Nat} {v : Value} {n : Nat} {xs : List Value} (h : w'.ownsRow w.heap.size e size v n xs) : ∀ k, v.ownBlock = some k → w.heap.size ≤ k :=
 fun k hk => (h.lt k hk).1
theorem run_append_reads {P : Program} {w : World} (t ty : TypeId)
    (base : Nat) (e : TypeId) (z : Value) (size bytes : Nat) (hinfo : (P.info? e).map (fun i => (i.zero, i.size, i.bytes)) = some (some z, size, bytes)) (ht : P.underlying t = some (.slice e))
    (hzs : z.cells.size = size) (hsz : 0 < size)
    (v : Value) (n : Nat) (xs : List Value) (hown : w.ownsRow base e size v n xs)
    (ao : Option Addr) (m c : Nat) (news : List Value) (hr : Reads w size ao m news) (h1 : ∀ u ∈ news, u.oneCell' = true)
    (h63 : n + m ≤ maxLen) (hbytes : (n + m) * bytes ≤ 140737488355328) (hbase : base ≤ w.heap.size) :
    ∃ v' w', (Builtin.append_ #[t, t] ty #[v, .slice ao m c]).run P w = .ok v' w' ∧ w'.ownsRow base e size v' (n + m) (xs ++ news) ∧ Mod (fun k => v.ownBlock = some k) w w' ∧ (v'.ownBlock = v.ownBlock ∨ ∀ k, v'.ownBlock = some k → w.heap.size ≤ k) := by
  obtain ⟨i, hi, hz, hsize, hby⟩ := info_parts hinfo
  cases ao with
  | none =>
    obtain ⟨hr1, hr2⟩ := hr
    have hm : m = 0 := by
      rcases Nat.eq_zero_or_pos m with h0 | h0
      · exact h0
      · obtain ⟨b, off, he, _⟩ := hr2 h0; cases he
    subst hm
    have hnews : news = [] := List.eq_nil_of_length_eq_zero (by simpa using hr1)
    subst hnews
    exact ⟨v, w, run_append_own_nothing (P := P) (w := w) base t ty e i size ht hi v n xs hown c, by simpa using hown, Mod.refl _ _, .inl rfl⟩
  | some ad =>
    have hc : ∀ j u, news[j]? = some u → w.cell? (ad.add j) = some u := by
      intro j u hj
      have hl : j < news.length := (List.getElem?_eq_some_iff.1 hj).1
      obtain ⟨b, off, he, hc⟩ := hr.2 (by rcases Nat.eq_zero_or_pos m with h0 | h0; · rw [hr.1, h0] at hl; simp at hl
                                          · exact h0)
      cases he
      exact Reads.adds hc j u hj
    rcases hown.2 with ⟨hv, hn⟩ | ⟨g, cap, cur, hv, _, _, hnc, _⟩
    · by_cases hm : m = 0
      · obtain ⟨v', w', hrun, k1, k2, k3⟩ := run_append_own (P := P) w base t ty e i z size bytes ht hi hz hsize hby hzs hsz v n xs hown ad m c news hr.1 hc h1 h63 hbytes hbase
        exact ⟨v', w', hrun, k1, (Mod.refl _ w).grown k2 (fun k hk _ => hk), .inl (by rw [k3.2 ⟨hv, hm⟩, hv])⟩
      · subst hv
        subst hn
        have hxs : xs = [] := List.eq_nil_of_length_eq_zero (by simpa using hown.1)
        subst hxs
        obtain ⟨v', w', hrun, k1, k2, _⟩ := run_append_own (P := P) w w.heap.size t ty e i z size bytes ht hi hz hsize hby hzs hsz (.slice none 0 0) 0 [] (World.ownsRow_nil w _ e size) ad m c news hr.1 hc h1 h63 hbytes (Nat.le_refl _)
        exact ⟨v', w', hrun, ownsRow_base k1 hbase, (Mod.refl _ w).grown k2 (fun k hk => by cases hk), .inr (own_new k1)⟩
    · subst hv
      by_cases hroom : n + m ≤ cap
      · obtain ⟨w', hrun, k1, k2⟩ := run_append_fits (P := P) w base t ty e i size ht hi hsize g n cap xs hown ad m c news hr.1 hc h1 hroom
        exact ⟨_, w', hrun, k1, (Mod.refl _ w).grown k2 (fun k hk _ => hk), .inl rfl⟩
      · obtain ⟨v', w', hrun, k1, k2⟩ := run_append_arg_grows (P := P) w t ty e i z size bytes ht hi hz hsize hby hzs hsz ⟨g, 0, none⟩ n cap xs hown.1 (hown.cells (g := g) rfl) ad m c news hr.1 hc (by omega) h63 hbytes
        exact ⟨v', w', hrun, ownsRow_base k1 hbase, (Mod.refl _ w).grown k2 (fun k hk => by cases hk), .inr (own_new k1)⟩
theorem wpList_append_reads {P : Program} {w : World} {ops : Array Oper} {rest : List Oper} {o : Oper} {a : Act} {Q : Exit → Act → World → Prop} (hgd : o.guard = none) (s x : Operand) (t : TypeId)
  (ho : o.op = .call { callee := .builtin .append, args := #[s, x], argTypes := #[t, t] })
  (base : Nat) (e : TypeId) (z : Value) (size bytes : Nat) (hinfo : (P.info? e).map (fun i => (i.zero, i.size, i.bytes)) = some (some z, size, bytes)) (ht : P.underlying t = some (.slice e))
  (hzs : z.cells.size = size) (hsz : 0 < size)
  (v : Value) (n : Nat) (xs : List Value) (hs : a.eval s = v) (hown : w.ownsRow base e size v n xs)
  (ao : Option Addr) (m c : Nat) (news : List Value) (hx : a.eval x = .slice ao m c) (hr : Reads w size ao m news) (h1 : ∀ u ∈ news, u.oneCell' = true)
  (h63 : n + m ≤ maxLen) (hbytes : (n + m) * bytes ≤ 140737488355328) (hbase : base ≤ w.heap.size)
  (h : ∀ v' w', w'.ownsRow base e size v' (n + m) (xs ++ news) → Mod (fun k => v.ownBlock = some k) w w' → (v'.ownBlock = v.ownBlock ∨ ∀ k, v'.ownBlock = some k → w.heap.size ≤ k) → wpList P ops Q rest (a.put o.dst v') w') : wpList P ops Q (o :: rest) a w := by
 refine wpList_plain hgd fun K hK => ?_
 obtain ⟨v', w', hrun, k1, k2, k3⟩ := run_append_reads (P := P) (w := w) t o.type base e z size bytes hinfo ht hzs hsz v n xs hown ao m c news hr h1 h63 hbytes hbase
 unfold Oper.wp
 simp [execOp, ho, resolve, invoke, builtin, hs, hx, hrun, Result.andThen]
 exact hK _ _ (h v' w' k1 k2 k3)
theorem wpList_append_str {P : Program} {w : World} {ops : Array Oper} {rest : List Oper} {o : Oper} {a : Act} {Q : Exit → Act → World → Prop} (hgd : o.guard = none) (sl x : Operand) (t u : TypeId)
  (ho : o.op = .call { callee := .builtin .append, args := #[sl, x], argTypes := #[t, u] })
  (base : Nat) (e : TypeId) (hinfo : (P.info? e).map (fun i => (i.zero, i.size, i.bytes)) = some (some (.int .u8 0), 1, 1)) (ht : P.underlying t = some (.slice e)) (hu : P.underlying u = some .string)
  (v : Value) (n : Nat) (xs : List Value) (hs : a.eval sl = v) (hown : w.ownsRow base e 1 v n xs) (s : ByteArray) (hx : a.eval x = .string s)
  (h63 : n + s.size ≤ 1000000000) (hbase : base ≤ w.heap.size)
  (h : ∀ v' w', w'.ownsRow base e 1 v' (n + s.size) (xs ++ strCells s) → Mod (fun k => v.ownBlock = some k) w w' → wpList P ops Q rest (a.put o.dst v') w') : wpList P ops Q (o :: rest) a w := by
 obtain ⟨i, hi, hz, hsize, hby⟩ := info_parts hinfo
 refine wpList_append_own_string w hgd sl x t u ho base e i ht hu hi hz hsize hby v n xs hs hown s hx (by unfold maxLen; omega) (by omega) hbase fun v' w' k1 k2 _ => ?_
 exact h v' w' k1 ((Mod.refl _ w).grown k2 (fun k hk _ => hk))
end Go.Gim
namespace Go.Gim
open Go Go.RowKit
structure Enc (α : Type) where
 k : Nat
 pos : 0 < k
 f : α → List Value
 len : ∀ x, (f x).length = k
 one : ∀ x, ∀ u ∈ f x, u.oneCell' = true
section
variable {α : Type} (E : Enc α)
def Enc.cells (L : List α) : List Value := (L.map E.f).flatten
theorem Enc.cells_cons (x : α) (r : List α) : E.cells (x :: r) = E.f x ++ E.cells r := rfl
theorem Enc.cells_append (a b : List α) : E.cells (a ++ b) = E.cells a ++ E.cells b := by
 unfold Enc.cells; rw [List.map_append, List.flatten_append]
theorem Enc.cells_len (L : List α) : (E.cells L).length = L.length * E.k := by
 induction L with
 | nil => simp [Enc.cells]
 | cons x r ih => rw [E.cells_cons, List.length_append, E.len, ih, List.length_cons, Nat.add_mul, Nat.one_mul, Nat.add_comm]
theorem Enc.cells_one (L : List α) : ∀ u ∈ E.cells L, u.oneCell' = true := by
 intro u hu
 obtain ⟨l, hl, hu⟩ := List.mem_flatten.1 hu
 obtain ⟨x, _, rfl⟩ := List.mem_map.1 hl
 exact E.one x u hu
theorem Enc.cells_at (L : List α) : ∀ (i : Nat) (x : α) (j : Nat), L[i]? = some x → j < E.k → (E.cells L)[i * E.k + j]? = (E.f x)[j]? := by
 induction L with
 | nil => intro i x j h; simp at h
 | cons y r ih =>
  intro i x j h hj
  cases i with
  | zero =>
   simp at h; subst h
   rw [E.cells_cons, Nat.zero_mul, Nat.zero_add, List.getElem?_append_left (by rw [E.len]; exact hj)]
  | succ i =>
   rw [E.cells_cons, List.getElem?_append_right (by rw [E.len, Nat.add_mul]; omega), E.len, show (i + 1) * E.k + j - E.k = i * E.k + j by rw [Nat.add_mul]; omega]
   exact ih i x j (by simpa using h) hj
theorem Enc.cells_set (L : List α) : ∀ (i : Nat) (x y : α) (j : Nat) (v : Value), L[i]? = some x → j < E.k → E.f y = (E.f x).set j v → E.cells (L.set i y) = (E.cells L).set (i * E.k + j) v := by
 induction L with
 | nil => intro i x y j v h; simp at h
 | cons z r ih =>
  intro i x y j v h hj he
  cases i with
  | zero =>
   simp at h; subst h
   rw [List.set_cons_zero, E.cells_cons, E.cells_cons, he, Nat.zero_mul, Nat.zero_add, List.set_append_left _ _ (by rw [E.len]; exact hj)]
  | succ i =>
   rw [List.set_cons_succ, E.cells_cons, E.cells_cons, ih i x y j v (by simpa using h) hj he, List.set_append_right _ _ (by rw [E.len, Nat.add_mul]; omega), E.len, show (i + 1) * E.k + j - E.k = i * E.k + j by rw [Nat.add_mul]; omega]
variable {E}
theorem Enc.reads_len {w : World} {ao : Option Addr} {n : Nat} {L : List α} (h : Reads w E.k ao n (E.cells L)) : L.length = n := by
 have h1 := h.1; rw [E.cells_len] at h1; exact Nat.eq_of_mul_eq_mul_right E.pos h1
theorem Enc.reads_at {w : World} {b off n : Nat} {L : List α} (h : Reads w E.k (some ⟨b, off, none⟩) n (E.cells L)) {i : Nat} {x : α} (hx : L[i]? = some x) {j : Nat} {v : Value} (hv : (E.f x)[j]? = some v) :
  w.cell? ⟨b, off + i * E.k + j, none⟩ = some v := by
 have hj : j < E.k := by have := (List.getElem?_eq_some_iff.1 hv).1; rwa [E.len] at this
 have hc := E.cells_at L i x j hx hj
 rw [hv] at hc
 have hlt := (List.getElem?_eq_some_iff.1 hc).1
 have hn : 0 < n := by
  have hi := (List.getElem?_eq_some_iff.1 hx).1
  have := Enc.reads_len h; omega
 obtain ⟨b', off', he, hcl⟩ := h.2 hn
 cases he
 rw [Nat.add_assoc, hcl _ hlt, hc]
theorem Enc.reads_take {w : World} {ao : Option Addr} {n m : Nat} {L : List α} (h : Reads w E.k ao n (E.cells L)) (hm : m ≤ n) : Reads w E.k ao m (E.cells (L.take m)) := by
 have hl := Enc.reads_len h
 refine ⟨by rw [E.cells_len, List.length_take]; congr 1; omega, fun h0 => ?_⟩
 obtain ⟨b, off, rfl, hc⟩ := h.2 (by omega)
 refine ⟨b, off, rfl, fun j hj => ?_⟩
 have e : E.cells L = E.cells (L.take m) ++ E.cells (L.drop m) := by rw [← E.cells_append, List.take_append_drop]
 rw [hc j (by rw [e, List.length_append]; omega), e, List.getElem?_append_left hj]
theorem Enc.reads_drop {w : World} {b off n m : Nat} {L : List α} (h : Reads w E.k (some ⟨b, off, none⟩) n (E.cells L)) (hm : m ≤ n) : Reads w E.k (some ⟨b, off + m * E.k, none⟩) (n - m) (E.cells (L.drop m)) := by
 have hl := Enc.reads_len h
 refine ⟨by rw [E.cells_len, List.length_drop]; congr 1; omega, fun h0 => ?_⟩
 obtain ⟨b', off', he, hc⟩ := h.2 (by omega)
 cases he
 refine ⟨b, off + m * E.k, rfl, fun j hj => ?_⟩
 have e : E.cells L = E.cells (L.take m) ++ E.cells (L.drop m) := by rw [← E.cells_append, List.take_append_drop]
 have et : (E.cells (L.take m)).length = m * E.k := by rw [E.cells_len, List.length_take]; congr 1; omega
 have h1 := hc (m * E.k + j) (by rw [e, List.length_append, et]; omega)
 rw [Nat.add_assoc, h1, e, List.getElem?_append_right (by omega), et, Nat.add_sub_cancel_left]
theorem Enc.reads_none {w : World} {ao : Option Addr} : Reads w E.k ao 0 (E.cells []) := ⟨by simp [Enc.cells], fun h => absurd h (Nat.lt_irrefl _)⟩
theorem Enc.reads_rest {w : World} {g n m vc : Nat} {L : List α} (h : Reads w E.k (some ⟨g, 0, none⟩) n (E.cells L)) (hk : m ≤ n) (hv : n ≤ vc) :
  Reads w E.k (if vc = m then some ⟨g, 0, none⟩ else some ⟨g, m * E.k, none⟩) (n - m) (E.cells (L.drop m)) := by
 split
 ·have h0 : n - m = 0 := by omega
  have hl := Enc.reads_len h
  rw [h0, List.drop_of_length_le (by omega)]
  exact Enc.reads_none
 ·have := Enc.reads_drop h hk
  rwa [Nat.zero_add] at this
theorem Enc.owns_at {w : World} {B g c n : Nat} {T : TypeId} {l : List α} (h : w.ownsRow B T E.k (.slice (some ⟨g, 0, none⟩) n c) n (E.cells l)) :
  ∃ cur : Array Value, Blk w g T cur ∧ B ≤ g ∧ n ≤ c ∧ c ≤ maxLen ∧ cur.size = c * E.k ∧ cur.toList.take (n * E.k) = E.cells l := by
 rcases h.2 with ⟨h1, _⟩ | ⟨g', c', cur, h1, h2, h3, h4, h5, h6, h7⟩
 ·cases h1
 ·cases h1; exact ⟨cur, h3, h2, h4, h5, h6, h7⟩
theorem Enc.owns_len {w : World} {B n : Nat} {T : TypeId} {v : Value} {l : List α} (h : w.ownsRow B T E.k v n (E.cells l)) : l.length = n := by
 have h1 := h.1; rw [E.cells_len] at h1; exact Nat.eq_of_mul_eq_mul_right E.pos h1
theorem Enc.owns_cell {w : World} {B g c n : Nat} {T : TypeId} {l : List α} (h : w.ownsRow B T E.k (.slice (some ⟨g, 0, none⟩) n c) n (E.cells l)) {i : Nat} {x : α} (hx : l[i]? = some x) {j : Nat} {v : Value} (hv : (E.f x)[j]? = some v) :
  w.cell? ⟨g, i * E.k + j, none⟩ = some v := by
 have := Enc.reads_at (Reads.own h) hx hv
 rwa [Nat.zero_add] at this
theorem Enc.owns_free {w : World} {B g c n : Nat} {T : TypeId} {l : List α} (h : w.ownsRow B T E.k (.slice (some ⟨g, 0, none⟩) n c) n (E.cells l)) (j : Nat) : w.frozen? ⟨g, j, none⟩ = false := by
 obtain ⟨cur, hb, _⟩ := Enc.owns_at h; exact hb.free j
theorem Enc.owns_block {w : World} {B g c n : Nat} {T : TypeId} {l : List α} (h : w.ownsRow B T E.k (.slice (some ⟨g, 0, none⟩) n c) n (E.cells l)) : B ≤ g ∧ g < w.heap.size := by
 obtain ⟨cur, hb, hB, _⟩ := Enc.owns_at h; exact ⟨hB, hb.lt⟩
theorem Enc.owns_cap {w : World} {B g c n : Nat} {T : TypeId} {l : List α} (h : w.ownsRow B T E.k (.slice (some ⟨g, 0, none⟩) n c) n (E.cells l)) : n ≤ c := by
 obtain ⟨cur, hb, hB, h1, _⟩ := Enc.owns_at h; exact h1
theorem Enc.owns_some {w : World} {B n : Nat} {T : TypeId} {v : Value} {l : List α} (h : w.ownsRow B T E.k v n (E.cells l)) (h0 : 0 < n) : ∃ g c, v = .slice (some ⟨g, 0, none⟩) n c := by
 rcases h.2 with ⟨_, h1⟩ | ⟨g', c', cur, h1, _⟩
 ·omega
 ·exact ⟨g', c', h1⟩
theorem Enc.owns_reads {w : World} {B n : Nat} {T : TypeId} {v : Value} {l : List α} (h : w.ownsRow B T E.k v n (E.cells l)) : ∃ ao c, v = .slice ao n c ∧ Reads w E.k ao n (E.cells l) := by
 obtain ⟨ao, c, rfl, _, _⟩ := ownsRow_shape h
 exact ⟨ao, c, rfl, Reads.own h⟩
theorem Enc.owns_set {w : World} {B g c n : Nat} {T : TypeId} {l : List α} (h : w.ownsRow B T E.k (.slice (some ⟨g, 0, none⟩) n c) n (E.cells l)) {i : Nat} {x : α} (hx : l[i]? = some x) {j : Nat} (hj : j < E.k) {v : Value} (y : α) (hy : E.f y = (E.f x).set j v) :
  (w.setCell ⟨g, i * E.k + j, none⟩ v).ownsRow B T E.k (.slice (some ⟨g, 0, none⟩) n c) n (E.cells (l.set i y)) := by
 have hl := Enc.owns_len h
 obtain ⟨cur, hb, hB, h1, h2, h3, h4⟩ := Enc.owns_at h
 refine ⟨by rw [E.cells_len, List.length_set, hl], .inr ⟨g, c, _, rfl, hB, hb.set (i * E.k + j) _, h1, h2, by simp [h3], ?_⟩⟩
 rw [E.cells_set l i x y j v hx hj hy, ← h4]
 simp only [Array.toList_setIfInBounds, List.take_set]
theorem Enc.owns_set2 {w : World} {B g c n : Nat} {T : TypeId} {l : List α} {i : Nat} {x y : α} (h : w.ownsRow B T E.k (.slice (some ⟨g, 0, none⟩) n c) n (E.cells (l.set i x))) (hi : i < l.length) {j : Nat} (hj : j < E.k) {v : Value} (hy : E.f y = (E.f x).set j v) :
  (w.setCell ⟨g, i * E.k + j, none⟩ v).ownsRow B T E.k (.slice (some ⟨g, 0, none⟩) n c) n (E.cells (l.set i y)) := by
 have := Enc.owns_set h (show (l.set i x)[i]? = some x from List.getElem?_set_self hi) hj y hy
 rwa [List.set_set] at this
def Enc.Row (E : Enc α) (w : World) (g : Nat) (T : TypeId) (l : List α) : Prop :=
 ∃ cs : Array Value, Blk w g T cs ∧ l.length * E.k ≤ cs.size ∧ cs.toList.take (l.length * E.k) = E.cells l
theorem Enc.Row.of_owns {w : World} {B g c n : Nat} {T : TypeId} {l : List α} (h : w.ownsRow B T E.k (.slice (some ⟨g, 0, none⟩) n c) n (E.cells l)) : E.Row w g T l := by
 have hl := Enc.owns_len h
 obtain ⟨cur, hb, hB, h1, h2, h3, h4⟩ := Enc.owns_at h
 exact ⟨cur, hb, by rw [hl, h3]; exact Nat.mul_le_mul_right _ h1, by rw [hl]; exact h4⟩
theorem Enc.Row.reads {w : World} {g : Nat} {T : TypeId} {l : List α} (h : E.Row w g T l) : Reads w E.k (some ⟨g, 0, none⟩) l.length (E.cells l) := by
 obtain ⟨cs, hb, h1, h2⟩ := h
 refine ⟨E.cells_len l, fun _ => ⟨g, 0, rfl, fun j hj => ?_⟩⟩
 rw [Nat.zero_add, hb.cell j, ← h2, List.getElem?_take_of_lt (by rw [E.cells_len] at hj; exact hj)]
 simp
theorem Enc.Row.cell {w : World} {g : Nat} {T : TypeId} {l : List α} (h : E.Row w g T l) {i : Nat} {x : α} (hx : l[i]? = some x) {j : Nat} {v : Value} (hv : (E.f x)[j]? = some v) : w.cell? ⟨g, i * E.k + j, none⟩ = some v := by
 have := Enc.reads_at h.reads hx hv
 rwa [Nat.zero_add] at this
theorem Enc.Row.free {w : World} {g : Nat} {T : TypeId} {l : List α} (h : E.Row w g T l) (j : Nat) : w.frozen? ⟨g, j, none⟩ = false := by
 obtain ⟨cs, hb, _⟩ := h; exact hb.free j
theorem Enc.Row.lt {w : World} {g : Nat} {T : TypeId} {l : List α} (h : E.Row w g T l) : g < w.heap.size := by
 obtain ⟨cs, hb, _⟩ := h; exact hb.lt
theorem Enc.Row.mod {S : Nat → Prop} {w w' : World} {g : Nat} {T : TypeId} {l : List α} (h : E.Row w g T l) (hm : Mod S w w') (hS : ¬ S g) : E.Row w' g T l := by
 obtain ⟨cs, hb, hc⟩ := h; exact ⟨cs, hb.mod hm hS, hc⟩
theorem Enc.Row.set {w : World} {g : Nat} {T : TypeId} {l : List α} (h : E.Row w g T l) {i : Nat} {x : α} (hx : l[i]? = some x) {j : Nat} (hj : j < E.k) {v : Value} (y : α) (hy : E.f y = (E.f x).set j v) :
  E.Row (w.setCell ⟨g, i * E.k + j, none⟩ v) g T (l.set i y) := by
 obtain ⟨cs, hb, h1, h2⟩ := h
 refine ⟨_, hb.set (i * E.k + j) v, by simpa using h1, ?_⟩
 rw [E.cells_set l i x y j v hx hj hy, ← h2, List.length_set]
 simp only [Array.toList_setIfInBounds, List.take_set]
theorem Enc.Row.set2 {w : World} {g : Nat} {T : TypeId} {l : List α} {i : Nat} {x y : α} (h : E.Row w g T (l.set i x)) (hi : i < l.length) {j : Nat} (hj : j < E.k) {v : Value} (hy : E.f y = (E.f x).set j v) :
  E.Row (w.setCell ⟨g, i * E.k + j, none⟩ v) g T (l.set i y) := by
 have := Enc.Row.set h (show (l.set i x)[i]? = some x from List.getElem?_set_self hi) hj y hy
 rwa [List.set_set] at this
def Enc.New (E : Enc α) (T : TypeId) (l : List α) (w : World) (e : Ending) (w' : World) : Prop :=
 ∃ g cap, e = .returned (.slice (some ⟨g, 0, none⟩) l.length cap) ∧ w'.ownsRow w.heap.size T E.k (.slice (some ⟨g, 0, none⟩) l.length cap) l.length (E.cells l) ∧ Ext w w'
def Enc.Out (E : Enc α) (T : TypeId) (l : List α) (w : World) (e : Ending) (w' : World) : Prop :=
 ∃ v, e = .returned v ∧ w'.ownsRow w.heap.size T E.k v l.length (E.cells l) ∧ Ext w w'
end
def prE : Enc (Int × Int) := ⟨2, by decide, fun x => [.int .i64 x.1, .int .i64 x.2], fun _ => rfl, fun x u hu => by simp at hu; rcases hu with rfl | rfl <;> rfl⟩
structure Ed where
 a : Int
 b : Int
 t : ByteArray
def edE : Enc Ed := ⟨3, by decide, fun x => [.int .i64 x.a, .int .i64 x.b, .string x.t], fun _ => rfl, fun x u hu => by simp at hu; rcases hu with rfl | rfl | rfl <;> rfl⟩
structure Rg where
 a : Int
 b : Int
 p : Bool
 q : Bool
 u : Int
def rgE : Enc Rg := ⟨5, by decide, fun x => [.int .i64 x.a, .int .i64 x.b, .bool x.p, .bool x.q, .int .i64 x.u], fun _ => rfl, fun x u hu => by simp at hu; rcases hu with rfl | rfl | rfl | rfl | rfl <;> rfl⟩
def inE : Enc Int := ⟨1, by decide, fun x => [.int .i64 x], fun _ => rfl, fun x u hu => by simp at hu; subst hu; rfl⟩
theorem reads_ed {w : World} {b off n : Nat} {L : List Ed} (h : Reads w 3 (some ⟨b, off, none⟩) n (edE.cells L)) {i : Nat} {x : Ed} (hx : L[i]? = some x) :
  w.cell? ⟨b, off + i * 3, none⟩ = some (.int .i64 x.a) ∧ w.cell? ⟨b, off + i * 3 + 1, none⟩ = some (.int .i64 x.b) ∧ w.cell? ⟨b, off + i * 3 + 2, none⟩ = some (.string x.t) :=
 ⟨Enc.reads_at (E := edE) (j := 0) h hx rfl, Enc.reads_at (E := edE) (j := 1) h hx rfl, Enc.reads_at (E := edE) (j := 2) h hx rfl⟩
theorem reads_rg {w : World} {b off n : Nat} {L : List Rg} (h : Reads w 5 (some ⟨b, off, none⟩) n (rgE.cells L)) {i : Nat} {x : Rg} (hx : L[i]? = some x) :
  w.cell? ⟨b, off + i * 5, none⟩ = some (.int .i64 x.a) ∧ w.cell? ⟨b, off + i * 5 + 1, none⟩ = some (.int .i64 x.b) ∧ w.cell? ⟨b, off + i * 5 + 2, none⟩ = some (.bool x.p) ∧ w.cell? ⟨b, off + i * 5 + 3, none⟩ = some (.bool x.q) ∧ w.cell? ⟨b, off + i * 5 + 4, none⟩ = some (.int .i64 x.u) :=
 ⟨Enc.reads_at (E := rgE) (j := 0) h hx rfl, Enc.reads_at (E := rgE) (j := 1) h hx rfl, Enc.reads_at (E := rgE) (j := 2) h hx rfl, Enc.reads_at (E := rgE) (j := 3) h hx rfl, Enc.reads_at (E := rgE) (j := 4) h hx rfl⟩
end Go.Gim
namespace Go.Gim
theorem Enc.Row.alloc {α : Type} {E : Enc α} {w : World} {g : Nat} {T : TypeId} {l : List α} (h : E.Row w g T l) (o : Obj) : E.Row (w.alloc o) g T l :=
 h.mod ((Mod.refl (fun _ => False) w).alloc o) (fun f => f)
theorem Enc.Row.drewN {α : Type} {E : Enc α} {w : World} {g : Nat} {T : TypeId} {l : List α} (h : E.Row w g T l) (n : Nat) : E.Row (w.drewN n) g T l := h
theorem Enc.splice_own {α : Type} {E : Enc α} {w : World} {B B' n K k : Nat} {T : TypeId} {v : Value} {S : List α} {x : α} (h : w.ownsRow B T E.k v n (E.cells (S.take K) ++ E.f x ++ E.cells (S.drop K))) (hn : n = k + 1) (hB : B' ≤ B) :
  w.ownsRow B' T E.k v (k + 1) (E.cells (S.take K ++ x :: S.drop K)) := by
 subst hn
 rw [E.cells_append, E.cells_cons, ← List.append_assoc]
 exact ownsRow_base h hB
abbrev Tb := List (Int × Rg)
def getR : Tb → Int → Option Rg
 | [], _ => none
 | x :: t, id => if x.1 = id then some x.2 else getR t id
def setR (L : Tb) (id : Int) (r : Rg) : Tb := L.map fun x => if x.1 = id then (id, r) else x
def delR (L : Tb) (id : Int) : Tb := L.filter fun x => !decide (x.1 = id)
def idsR (L : Tb) : List Int := L.map (·.1)
def Once (L : Tb) : Prop := L.Pairwise (fun x y => x.1 ≠ y.1)
theorem getR_cons (x : Int × Rg) (t : Tb) (id : Int) : getR (x :: t) id = if x.1 = id then some x.2 else getR t id := rfl
theorem getR_append (a b : Tb) (id : Int) : getR (a ++ b) id = (getR a id).or (getR b id) := by
 induction a with
 | nil => simp [getR]
 | cons x t ih =>
  rw [List.cons_append, getR_cons, getR_cons, ih]
  split <;> simp
theorem getR_mem {L : Tb} {id : Int} {r : Rg} (h : getR L id = some r) : (id, r) ∈ L := by
 induction L with
 | nil => simp [getR] at h
 | cons x t ih =>
  rw [getR_cons] at h
  split at h
  ·rename_i e
   cases h
   rw [← e]; exact List.mem_cons_self
  ·exact List.mem_cons_of_mem _ (ih h)
theorem getR_none {L : Tb} {id : Int} (h : getR L id = none) : ∀ x ∈ L, x.1 ≠ id := by
 induction L with
 | nil => simp
 | cons y t ih =>
  rw [getR_cons] at h
  split at h
  ·cases h
  ·rename_i hne
   intro x hx
   rcases List.mem_cons.1 hx with rfl | hx
   ·exact hne
   ·exact ih h x hx
theorem getR_none_of {L : Tb} {id : Int} (h : ∀ x ∈ L, x.1 ≠ id) : getR L id = none := by
 cases hg : getR L id with
 | none => rfl
 | some r => exact absurd rfl (h _ (getR_mem hg))
theorem getR_of_mem {L : Tb} (ho : Once L) {id : Int} {r : Rg} (h : (id, r) ∈ L) : getR L id = some r := by
 induction L with
 | nil => simp at h
 | cons x t ih =>
  obtain ⟨h1, h2⟩ := List.pairwise_cons.1 ho
  rw [getR_cons]
  rcases List.mem_cons.1 h with h | h
  ·rw [← h, if_pos rfl]
  ·rw [if_neg (h1 _ h)]; exact ih h2 h
theorem getR_isSome {L : Tb} {id : Int} : (getR L id).isSome = true ↔ id ∈ idsR L := by
 constructor
 ·intro h
  obtain ⟨r, hr⟩ := Option.isSome_iff_exists.1 h
  exact List.mem_map.2 ⟨_, getR_mem hr, rfl⟩
 ·intro h
  obtain ⟨x, hx, rfl⟩ := List.mem_map.1 h
  cases hg : getR L x.1 with
  | some r => rfl
  | none => exact absurd rfl (getR_none hg x hx)
theorem setR_len (L : Tb) (id : Int) (r : Rg) : (setR L id r).length = L.length := by simp [setR]
theorem setR_ids (L : Tb) (id : Int) (r : Rg) : idsR (setR L id r) = idsR L := by
 unfold idsR setR
 rw [List.map_map]
 apply List.map_congr_left
 intro x _
 simp only [Function.comp]
 split
 ·rename_i h; exact h.symm
 ·rfl
theorem getR_set_same {L : Tb} {id : Int} (h : (getR L id).isSome = true) (r : Rg) : getR (setR L id r) id = some r := by
 induction L with
 | nil => simp [getR] at h
 | cons x t ih =>
  show getR ((if x.1 = id then (id, r) else x) :: setR t id r) id = some r
  rw [getR_cons] at h
  by_cases e : x.1 = id
  ·rw [if_pos e, getR_cons, if_pos rfl]
  ·rw [if_neg e] at h
   rw [if_neg e, getR_cons, if_neg e]; exact ih h
theorem getR_set_other (L : Tb) {id id' : Int} (h : id' ≠ id) (r : Rg) : getR (setR L id r) id' = getR L id' := by
 induction L with
 | nil => rfl
 | cons x t ih =>
  show getR ((if x.1 = id then (id, r) else x) :: setR t id r) id' = _
  by_cases e : x.1 = id
  ·rw [if_pos e, getR_cons, getR_cons, if_neg (fun e' => h e'.symm), if_neg (fun e' : x.1 = id' => h (e'.symm.trans e)), ih]
  ·rw [if_neg e, getR_cons, getR_cons, ih]
theorem getR_del_same (L : Tb) (id : Int) : getR (delR L id) id = none :=
 getR_none_of (fun x hx => by have := (List.mem_filter.1 hx).2; simpa using this)
theorem getR_del_other (L : Tb) {id id' : Int} (h : id' ≠ id) : getR (delR L id) id' = getR L id' := by
 unfold delR
 induction L with
 | nil => rfl
 | cons x t ih =>
  rw [List.filter_cons]
  by_cases e : x.1 = id
  ·rw [if_neg (by simpa using e), ih, getR_cons, if_neg (fun e' : x.1 = id' => h (e'.symm.trans e))]
  ·rw [if_pos (by simpa using e), getR_cons, getR_cons, ih]
theorem delR_len {L : Tb} (ho : Once L) (id : Int) : (delR L id).length + (if (getR L id).isSome then 1 else 0) = L.length := by
 unfold delR
 induction L with
 | nil => rfl
 | cons x t ih =>
  obtain ⟨h1, h2⟩ := List.pairwise_cons.1 ho
  have ih := ih h2
  rw [List.filter_cons, getR_cons]
  by_cases e : x.1 = id
  ·have hn : getR t id = none := getR_none_of (fun y hy => by rw [← e]; exact (h1 y hy).symm)
   rw [if_neg (by simpa using e), if_pos e]
   rw [hn] at ih
   simp only [Option.isSome_none, Bool.false_eq_true, if_false, Nat.add_zero] at ih
   simp only [Option.isSome_some, if_true, List.length_cons, ih]
  ·rw [if_pos (by simpa using e), if_neg e, List.length_cons, List.length_cons]; omega
theorem Once.set {L : Tb} (h : Once L) (id : Int) (r : Rg) : Once (setR L id r) := by
 have e : ∀ M : Tb, Once M ↔ (idsR M).Pairwise (· ≠ ·) := fun M => by unfold Once idsR; rw [List.pairwise_map]
 rw [e, setR_ids, ← e]; exact h
theorem Once.del {L : Tb} (h : Once L) (id : Int) : Once (delR L id) := h.filter _
theorem Once.add {L : Tb} (h : Once L) {id : Int} (hn : getR L id = none) (r : Rg) : Once (L ++ [(id, r)]) := by
 refine List.pairwise_append.2 ⟨h, List.pairwise_singleton _ _, ?_⟩
 intro a ha b hb
 rw [List.mem_singleton.1 hb]
 exact getR_none hn a ha
theorem once_ids {L : Tb} : Once L ↔ (idsR L).Nodup := by unfold Once idsR List.Nodup; rw [List.pairwise_map]
def lessE (x y : Ed) : Bool := lessB (x.a, x.b) (y.a, y.b)
def edS (x : Ed) : Int × Int := (x.a, x.b)
def oneE (right : Bool) (o : Int) (e : Ed) : Int :=
 if o < e.a then o else if e.b < o then o + ((e.t.size : Int) - (e.b - e.a)) else if right then e.a + e.t.size else e.a
def moveE (right : Bool) (es : List Ed) (o : Int) : Int := (sorted lessE es).reverse.foldl (oneE right) o
def apart1 (x : Int × Int) : Option (Int × Int) → Bool
 | some y => !(decide (x.1 = y.1) || decide (x.1 < y.2))
 | none => true
def prevOf (s : List (Int × Int)) : Nat → Option (Int × Int)
 | 0 => none
 | j + 1 => s[j]?
def okAt (s : List (Int × Int)) (i : Nat) : Bool :=
 match s[i]? with
 | some x => !decide (x.2 < x.1) && apart1 x (prevOf s i)
 | none => true
def apartB (l : List (Int × Int)) : Bool := (List.range l.length).all (okAt (sorted lessB l))
theorem lessB_yes {x y : Int × Int} (h : lessB x y = true) : x.1 < y.1 ∨ x.1 = y.1 ∧ x.2 < y.2 := of_decide_eq_true h
theorem lessB_no {x y : Int × Int} (h : lessB x y = false) : ¬ (x.1 < y.1 ∨ x.1 = y.1 ∧ x.2 < y.2) := of_decide_eq_false h
theorem place_yes' {α : Type} (less : α → α → Bool) (x : α) (out : List α) : ∀ (k j : Nat) (y : α), place less x out k ≤ j → j < k → out[j]? = some y → less x y = true := by
 intro k
 induction k with
 | zero => intro j y _ h; omega
 | succ k ih =>
  intro j y h1 h2 h3
  unfold place at h1
  split at h1
  ·rename_i z hz
   split at h1
   ·rename_i hl
    by_cases hjk : j = k
    ·subst hjk; rw [hz] at h3; cases h3; exact hl
    ·exact ih j y h1 (by omega) h3
   ·omega
  ·omega
theorem place_no' {α : Type} (less : α → α → Bool) (x : α) (out : List α) : ∀ (k j : Nat) (y : α), place less x out k = j + 1 → k ≤ out.length → out[j]? = some y → less x y = false := by
 intro k
 induction k with
 | zero => intro j y h; cases h
 | succ k ih =>
  intro j y h1 h2 h3
  unfold place at h1
  split at h1
  ·rename_i z hz
   split at h1
   ·exact ih j y h1 (by omega) h3
   ·rename_i hl
    obtain rfl : k = j := by omega
    rw [hz] at h3; cases h3; simpa using hl
  ·rename_i hz
   rw [List.getElem?_eq_getElem (by omega)] at hz; cases hz
section
variable {α : Type} (less : α → α → Bool) (R : α → α → Prop) (hy : ∀ x y, less x y = true → R x y) (hn : ∀ x y, less x y = false → R y x) (tr : ∀ x y z, R x y → R y z → R x z)
include hy hn tr
theorem insR_pairwise {out : List α} (h : out.Pairwise R) (x : α) : (insR less out x).Pairwise R := by
 have hle := place_le less x out out.length
 have h1 := place_yes' less x out out.length
 have h2 := place_no' less x out out.length
 unfold insR
 generalize place less x out out.length = K at *
 have hsplit : (out.take K ++ out.drop K).Pairwise R := by rw [List.take_append_drop]; exact h
 rw [List.pairwise_append] at hsplit
 obtain ⟨p1, p2, p3⟩ := hsplit
 have hx1 : ∀ y ∈ out.drop K, R x y := by
  intro y hy'
  obtain ⟨i, hi, rfl⟩ := List.getElem_of_mem hy'
  rw [List.length_drop] at hi
  exact hy _ _ (h1 (K + i) _ (by omega) (by omega) (by rw [List.getElem_drop]; exact List.getElem?_eq_getElem (by omega)))
 have hx2 : ∀ y ∈ out.take K, R y x := by
  intro y hy'
  cases K with
  | zero => simp at hy'
  | succ j =>
   have hl := hn _ _ (h2 j (out[j]'(by omega)) rfl (Nat.le_refl _) (List.getElem?_eq_getElem _))
   rw [List.take_succ_eq_append_getElem (by omega)] at hy' p1
   rcases List.mem_append.1 hy' with hm | hm
   ·exact tr _ _ _ ((List.pairwise_append.1 p1).2.2 y hm _ (List.mem_singleton.2 rfl)) hl
   ·rw [List.mem_singleton.1 hm]; exact hl
 rw [List.pairwise_append]
 refine ⟨p1, List.pairwise_cons.2 ⟨hx1, p2⟩, ?_⟩
 intro a ha b hb
 rcases List.mem_cons.1 hb with rfl | hb
 ·exact hx2 a ha
 ·exact p3 a ha b hb
theorem sorted_pairwise (l : List α) : (sorted less l).Pairwise R := by
 have : ∀ (l out : List α), out.Pairwise R → (l.foldl (insR less) out).Pairwise R := by
  intro l
  induction l with
  | nil => intro out h; exact h
  | cons x r ih => intro out h; exact ih _ (insR_pairwise less R hy hn tr h x)
 exact this l [] List.Pairwise.nil
end
def leB (x y : Int × Int) : Prop := x.1 < y.1 ∨ x.1 = y.1 ∧ x.2 ≤ y.2
theorem sortedB_rises (l : List (Int × Int)) : (sorted lessB l).Pairwise leB :=
 sorted_pairwise lessB leB (fun x y h => by have := lessB_yes h; unfold leB; omega) (fun x y h => by have := lessB_no h; unfold leB; omega) (fun x y z h k => by unfold leB at *; omega) l
theorem sorted_map {α β : Type} (f : α → β) (less : α → α → Bool) (less' : β → β → Bool) (h : ∀ x y, less' (f x) (f y) = less x y) (l : List α) : (sorted less l).map f = sorted less' (l.map f) := by
 have hp : ∀ (x : α) (out : List α) (k : Nat), place less' (f x) (out.map f) k = place less x out k := by
  intro x out k
  induction k with
  | zero => rfl
  | succ k ih =>
   rw [place.eq_2, place.eq_2, List.getElem?_map]
   cases out[k]? with
   | none => rfl
   | some y => simp only [Option.map_some, h, ih]
 have hi : ∀ (out : List α) (x : α), (insR less out x).map f = insR less' (out.map f) (f x) := by
  intro out x
  unfold insR
  rw [List.length_map, hp]; simp
 have : ∀ (l out : List α), (l.foldl (insR less) out).map f = (l.map f).foldl (insR less') (out.map f) := by
  intro l
  induction l with
  | nil => intro out; rfl
  | cons x r ih => intro out; rw [List.foldl_cons, ih, hi]; rfl
 exact this l []
theorem sortedE_map (l : List Ed) : (sorted lessE l).map edS = sorted lessB (l.map edS) := sorted_map edS lessE lessB (fun _ _ => rfl) l
theorem okAt_is {s : List (Int × Int)} {i : Nat} {x : Int × Int} (hx : s[i]? = some x) : okAt s i = (!decide (x.2 < x.1) && apart1 x (prevOf s i)) := by
 unfold okAt; rw [hx]
theorem okAt_yes {s : List (Int × Int)} {i : Nat} {x : Int × Int} (hx : s[i]? = some x) : okAt s i = true ↔ x.1 ≤ x.2 ∧ ∀ j y, i = j + 1 → s[j]? = some y → ¬ x.1 = y.1 ∧ y.2 ≤ x.1 := by
 rw [okAt_is hx, Bool.and_eq_true, Bool.not_eq_true', decide_eq_false_iff_not, Int.not_lt]
 cases i with
 | zero => exact ⟨fun h => ⟨h.1, fun j y e => by cases e⟩, fun h => ⟨h.1, rfl⟩⟩
 | succ j =>
  show _ ∧ apart1 x s[j]? = true ↔ _
  cases hy : s[j]? with
  | none =>
   refine ⟨fun h => ⟨h.1, fun j' y' e hy' => ?_⟩, fun h => ⟨h.1, rfl⟩⟩
   cases e
   rw [hy] at hy'; cases hy'
  | some y =>
   unfold apart1
   rw [Bool.not_eq_true', Bool.or_eq_false_iff, decide_eq_false_iff_not, decide_eq_false_iff_not, Int.not_lt]
   refine ⟨fun h => ⟨h.1, fun j' y' e hy' => ?_⟩, fun h => ⟨h.1, h.2 j y rfl hy⟩⟩
   cases e
   rw [hy] at hy'; cases hy'
   exact h.2
section
variable {α : Type}
def revTo (l : List α) : Nat → List α
 | 0 => l
 | k + 1 =>
  match (revTo l k)[k]?, (revTo l k)[l.length - 1 - k]? with
  | some x, some y => ((revTo l k).set k y).set (l.length - 1 - k) x
  | _, _ => revTo l k
theorem revTo_len (l : List α) (k : Nat) : (revTo l k).length = l.length := by
 induction k with
 | zero => rfl
 | succ k ih =>
  unfold revTo
  split
  ·rw [List.length_set, List.length_set, ih]
  ·exact ih
theorem revTo_step {l : List α} {k : Nat} {x y : α} (hx : (revTo l k)[k]? = some x) (hy : (revTo l k)[l.length - 1 - k]? = some y) : revTo l (k + 1) = ((revTo l k).set k y).set (l.length - 1 - k) x := by
 rw [revTo.eq_2, hx, hy]
theorem revTo_at (l : List α) : ∀ (k : Nat), 2 * k ≤ l.length → ∀ i, i < l.length → (revTo l k)[i]? = if i < k ∨ l.length ≤ i + k then l[l.length - 1 - i]? else l[i]? := by
 intro k
 induction k with
 | zero => intro _ i hi; rw [if_neg (by omega)]; rfl
 | succ k ih =>
  intro hk i hi
  have e1 := ih (by omega) k (by omega)
  have e2 := ih (by omega) (l.length - 1 - k) (by omega)
  rw [if_neg (by omega)] at e1 e2
  rw [List.getElem?_eq_getElem (l := l) (show k < l.length by omega)] at e1
  rw [List.getElem?_eq_getElem (l := l) (show l.length - 1 - k < l.length by omega)] at e2
  have hl := revTo_len l k
  rw [revTo_step e1 e2]
  by_cases c1 : i = l.length - 1 - k
  ·subst c1
   rw [List.getElem?_set_self (by rw [List.length_set, hl]; omega), if_pos (by omega), show l.length - 1 - (l.length - 1 - k) = k by omega, List.getElem?_eq_getElem (l := l) (show k < l.length by omega)]
  ·rw [List.getElem?_set_ne (by omega)]
   by_cases c2 : i = k
   ·subst c2
    rw [List.getElem?_set_self (by rw [hl]; omega), if_pos (by omega), List.getElem?_eq_getElem (l := l) (show l.length - 1 - i < l.length by omega)]
   ·rw [List.getElem?_set_ne (by omega), ih (by omega) i hi]
    by_cases c3 : i < k ∨ l.length ≤ i + k
    ·rw [if_pos c3, if_pos (by omega)]
    ·rw [if_neg c3, if_neg (by omega)]
theorem revTo_all (l : List α) {k : Nat} (h1 : 2 * k ≤ l.length) (h2 : l.length ≤ 2 * k + 1) : revTo l k = l.reverse := by
 apply List.ext_getElem?
 intro i
 by_cases hi : i < l.length
 ·rw [revTo_at l k h1 i hi, List.getElem?_reverse hi]
  by_cases c : i < k ∨ l.length ≤ i + k
  ·rw [if_pos c]
  ·rw [if_neg c, show l.length - 1 - i = i by omega]
 ·rw [List.getElem?_eq_none (by rw [revTo_len]; omega), List.getElem?_eq_none (by simp; omega)]
end
def EdOk (e : Ed) : Prop := 0 ≤ e.a ∧ e.a ≤ e.b ∧ e.b ≤ 65536 ∧ e.t.size ≤ 100000
theorem oneE_bd {right : Bool} {o : Int} {e : Ed} {m : Int} (he : EdOk e) (h0 : 0 ≤ o) (h1 : o ≤ m) (_ : 65536 ≤ m) : 0 ≤ oneE right o e ∧ oneE right o e ≤ m + 100000 := by
 obtain ⟨e1, e2, e3, e4⟩ := he
 unfold oneE
 split
 ·omega
 ·split
  ·omega
  ·split <;> omega
end Go.Gim

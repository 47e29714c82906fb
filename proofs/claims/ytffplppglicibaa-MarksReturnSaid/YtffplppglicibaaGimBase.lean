/- General lemmas used by all walks of this claim: how far a call changes memory (Mod), blocks read cell by cell, and a class of worlds for regions whose calls only make new memory. Conditions: none. -/
import Derived.WalkKit
import Derived.BigRegion
import Derived.BigQuiet
import Derived.Deep.QuietTactic
import Derived.Lib.Hide
import Derived.WalkSpells
import Derived.WalkLawsBesides
namespace Go.Gim
open Go.RowKit

/-- Outside the blocks of S the world w' is as w was; no block has gone. -/
structure Mod (S : Nat → Prop) (w w' : World) : Prop where
  os : w'.os = w.os
  tape : w'.tape = w.tape
  output : w'.output = w.output
  size : w.heap.size ≤ w'.heap.size
  block : ∀ k, k < w.heap.size → ¬ S k → w'.heap[k]? = w.heap[k]?

/-- Nothing that was there has changed. -/
abbrev Ext (w w' : World) : Prop := Mod (fun _ => False) w w'

theorem Mod.refl (S : Nat → Prop) (w : World) : Mod S w w := ⟨rfl, rfl, rfl, Nat.le_refl _, fun _ _ _ => rfl⟩

theorem Mod.mono {S T : Nat → Prop} {w w' : World} (h : Mod S w w') (hs : ∀ k, k < w.heap.size → S k → T k) : Mod T w w' :=
  ⟨h.os, h.tape, h.output, h.size, fun k hk hT => h.block k hk (fun hS => hT (hs k hk hS))⟩

theorem Mod.trans {S T : Nat → Prop} {a b c : World} (h : Mod S a b) (k : Mod T b c) (hT : ∀ i, i < a.heap.size → T i → S i) : Mod S a c :=
  ⟨k.os.trans h.os, k.tape.trans h.tape, k.output.trans h.output, Nat.le_trans h.size k.size,
   fun i hi hS => (k.block i (Nat.lt_of_lt_of_le hi h.size) (fun t => hS (hT i hi t))).trans (h.block i hi hS)⟩

theorem Mod.drewN {S : Nat → Prop} {a w : World} (h : Mod S a w) (n : Nat) : Mod S a (w.drewN n) := ⟨h.os, h.tape, h.output, h.size, h.block⟩
theorem Mod.drew {S : Nat → Prop} {a w : World} (h : Mod S a w) : Mod S a w.drew := ⟨h.os, h.tape, h.output, h.size, h.block⟩
theorem Mod.of_drewN {S : Nat → Prop} {a w : World} {n : Nat} (h : Mod S (a.drewN n) w) : Mod S a w := ⟨h.os, h.tape, h.output, h.size, h.block⟩

theorem Mod.alloc {S : Nat → Prop} {a w : World} (h : Mod S a w) (o : Obj) : Mod S a (w.alloc o) :=
  ⟨h.os, h.tape, h.output, Nat.le_trans h.size (by simp), fun k hk hS => (Below.heap_alloc _ _ _ (Nat.lt_of_lt_of_le hk h.size)).trans (h.block k hk hS)⟩

theorem Mod.setCell {S : Nat → Prop} {a w : World} (h : Mod S a w) {p : Addr} (hp : p.block < a.heap.size → S p.block) (u : Value) : Mod S a (w.setCell p u) :=
  ⟨h.os, h.tape, h.output, by simpa using h.size, fun k hk hS => (Below.heap_setCell _ _ _ _ (fun e => hS (by subst e; exact hp hk))).trans (h.block k hk hS)⟩

theorem Mod.grown {S : Nat → Prop} {a w w' : World} {row : Option Nat} (h : Mod S a w) (hg : w.grownBy w' row) (hr : ∀ k, row = some k → k < a.heap.size → S k) : Mod S a w' :=
  ⟨hg.os.trans h.os, hg.tape.trans h.tape, hg.output.trans h.output, Nat.le_trans h.size hg.size,
   fun k hk hS => (hg.block k (Nat.lt_of_lt_of_le hk h.size) (fun e => hS (hr k e.symm hk))).trans (h.block k hk hS)⟩

theorem Mod.cell {S : Nat → Prop} {w w' : World} (h : Mod S w w') {p : Addr} (hp : p.block < w.heap.size) (hS : ¬ S p.block) : w'.cell? p = w.cell? p :=
  World.cell?_of_block (w := w) (h.block _ hp hS)
theorem Mod.frozen {S : Nat → Prop} {w w' : World} (h : Mod S w w') {p : Addr} (hp : p.block < w.heap.size) (hS : ¬ S p.block) : w'.frozen? p = w.frozen? p :=
  World.frozen?_of_block (w := w) (h.block _ hp hS)

theorem Mod.below {w w' : World} (h : Ext w w') : Below w.heap.size w w' := ⟨h.os, h.tape, h.output, h.size, fun k hk => h.block k hk (fun f => f)⟩
theorem Mod.of_below {S : Nat → Prop} {w w' : World} (h : Below w.heap.size w w') : Mod S w w' := ⟨h.os, h.tape, h.output, h.size, fun k hk _ => h.block k hk⟩
theorem Mod.any {S : Nat → Prop} {w w' : World} (h : Ext w w') : Mod S w w' := h.mono (fun _ _ f => f.elim)
theorem Mod.ext_trans {a b c : World} (h : Ext a b) (k : Ext b c) : Ext a c := Mod.trans h k (fun _ _ f => f)
theorem Mod.over {a b c : World} {v : Value} (h : Ext a b) (hm : Mod (fun k => v.ownBlock = some k) b c) (hv : ∀ k, v.ownBlock = some k → a.heap.size ≤ k) : Ext a c :=
  Mod.trans h hm (fun i hi e => absurd (hv i e) (by omega))
theorem Mod.of_alike {S : Nat → Prop} {a w w' : World} (h : Mod S a w) (ht : w'.tape = w.tape) (ha : w'.Alike w) : Mod S a w' :=
  ⟨ha.2.1.trans h.os, ht.trans h.tape, ha.2.2.trans h.output, by rw [ha.1]; exact h.size, fun k hk hS => by rw [ha.1]; exact h.block k hk hS⟩
theorem Mod.lt {S : Nat → Prop} {w w' : World} (h : Mod S w w') {b : Nat} (hb : b < w.heap.size) : b < w'.heap.size := Nat.lt_of_lt_of_le hb h.size

/-- The block b holds just these cells, none of them frozen. -/
def Blk (w : World) (b : Nat) (T : TypeId) (cs : Array Value) : Prop := w.heap[b]? = some (.cells cs T (0, 0))

theorem Blk.lt {w : World} {b : Nat} {T : TypeId} {cs : Array Value} (h : Blk w b T cs) : b < w.heap.size := (Array.getElem?_eq_some_iff.1 h).1
theorem Blk.cell {w : World} {b : Nat} {T : TypeId} {cs : Array Value} (h : Blk w b T cs) (i : Nat) : w.cell? ⟨b, i, none⟩ = cs[i]? := by
  unfold Blk at h; simp [World.cell?, h]
theorem Blk.free {w : World} {b : Nat} {T : TypeId} {cs : Array Value} (h : Blk w b T cs) (i : Nat) : w.frozen? ⟨b, i, none⟩ = false := by
  unfold Blk at h; simp [World.frozen?, h]
theorem Blk.mod {S : Nat → Prop} {w w' : World} {b : Nat} {T : TypeId} {cs : Array Value} (h : Blk w b T cs) (hm : Mod S w w') (hS : ¬ S b) : Blk w' b T cs :=
  (hm.block b h.lt hS).trans h
theorem Blk.drewN {w : World} {b : Nat} {T : TypeId} {cs : Array Value} (h : Blk w b T cs) (n : Nat) : Blk (w.drewN n) b T cs := h
theorem Blk.set {w : World} {b : Nat} {T : TypeId} {cs : Array Value} (h : Blk w b T cs) (i : Nat) (v : Value) : Blk (w.setCell ⟨b, i, none⟩ v) b T (cs.setIfInBounds i v) := by
  unfold Blk at *
  simp only [World.setCell, Array.getElem?_modify, h, Option.map_some, Option.isSome_none, Bool.false_eq_true, if_false, if_true]
theorem Blk.set_other {w : World} {b : Nat} {T : TypeId} {cs : Array Value} (h : Blk w b T cs) {p : Addr} (hp : b ≠ p.block) (v : Value) : Blk (w.setCell p v) b T cs :=
  (Below.heap_setCell _ _ _ _ hp).trans h
theorem Blk.alloc {w : World} {b : Nat} {T : TypeId} {cs : Array Value} (h : Blk w b T cs) (o : Obj) : Blk (w.alloc o) b T cs :=
  (Below.heap_alloc _ _ _ h.lt).trans h
theorem Blk.new (w : World) (T : TypeId) (cs : Array Value) : Blk (w.alloc (.cells cs T)) w.heap.size T cs :=
  heap_alloc_new w _

/-- A slice that the call owns shows what it is. -/
theorem ownsRow_shape {w : World} {base : Nat} {e : TypeId} {size : Nat} {v : Value} {n : Nat} {xs : List Value} (h : w.ownsRow base e size v n xs) :
    ∃ ao cap, v = .slice ao n cap ∧ n ≤ cap ∧ (0 < n → ∃ g, ao = some ⟨g, 0, none⟩) := by
  rcases h.2 with ⟨hv, hn⟩ | ⟨g, cap, cur, hv, _, _, hn, _⟩
  · exact ⟨none, 0, by rw [hv, hn], by omega, fun h0 => by omega⟩
  · exact ⟨_, cap, hv, hn, fun _ => ⟨g, rfl⟩⟩

theorem ret_int {k : IntKind} {a b : Int} (h : a = b) : Ending.returned (.int k a) = .returned (.int k b) := by rw [h]

theorem ret_bool {a b : Bool} (h : a = b) : Ending.returned (.bool a) = .returned (.bool b) := by rw [h]
theorem ret_string {a b : ByteArray} (h : a = b) : Ending.returned (.string a) = .returned (.string b) := by rw [h]

/-- A slice that is read: its n elements of so many cells hold xs; nil, or a row of some block. -/
def Reads (w : World) (size : Nat) (ao : Option Addr) (n : Nat) (xs : List Value) : Prop :=
  xs.length = n * size ∧ (0 < n → ∃ b off, ao = some ⟨b, off, none⟩ ∧ ∀ j, j < xs.length → w.cell? ⟨b, off + j, none⟩ = xs[j]?)

theorem Reads.adds {w : World} {b off : Nat} {xs : List Value} (h : ∀ j, j < xs.length → w.cell? ⟨b, off + j, none⟩ = xs[j]?) :
    ∀ j u, xs[j]? = some u → w.cell? ((⟨b, off, none⟩ : Addr).add j) = some u := by
  intro j u hu
  have hj := (List.getElem?_eq_some_iff.1 hu).1
  have e : (⟨b, off, none⟩ : Addr).add j = ⟨b, off + j, none⟩ := by unfold Addr.add; split <;> simp_all
  rw [e, h j hj, hu]
theorem Reads.mod {S : Nat → Prop} {w w' : World} {size n : Nat} {ao : Option Addr} {xs : List Value} (h : Reads w size ao n xs) (hm : Mod S w w') (hS : ∀ a, ao = some a → ¬ S a.block) : Reads w' size ao n xs := by
  refine ⟨h.1, fun h0 => ?_⟩
  obtain ⟨b, off, rfl, hc⟩ := h.2 h0
  refine ⟨b, off, rfl, fun j hj => ?_⟩
  have hu : w.cell? ⟨b, off + j, none⟩ = some (xs[j]) := by rw [hc j hj, List.getElem?_eq_getElem hj]
  rw [hm.cell (p := ⟨b, off + j, none⟩) (World.block_lt_of_cell? w _ hu) (hS ⟨b, off, none⟩ rfl)]
  exact hc j hj
theorem Reads.alloc {w : World} {size n : Nat} {ao : Option Addr} {xs : List Value} (h : Reads w size ao n xs) (o : Obj) : Reads (w.alloc o) size ao n xs :=
  h.mod ((Mod.refl (fun _ => False) w).alloc o) (fun _ _ f => f)
theorem Reads.own {w : World} {base : Nat} {e : TypeId} {size n cap : Nat} {ao : Option Addr} {xs : List Value} (h : w.ownsRow base e size (.slice ao n cap) n xs) : Reads w size ao n xs := by
  refine ⟨h.1, fun h0 => ?_⟩
  obtain ⟨ao', cap', hv, hn, hg⟩ := ownsRow_shape h
  obtain ⟨g, rfl⟩ := hg h0
  cases hv
  refine ⟨g, 0, rfl, fun j hj => ?_⟩
  rw [Nat.zero_add, h.cellAt j (by rw [← h.1]; exact hj)]

theorem Reads.new (w : World) (T : TypeId) (cs : Array Value) (size n : Nat) (h : cs.size = n * size) : Reads (w.alloc (.cells cs T)) size (some ⟨w.heap.size, 0, none⟩) n cs.toList := by
  refine ⟨by simpa using h, fun _ => ⟨_, _, rfl, fun j hj => ?_⟩⟩
  rw [Nat.zero_add, (Blk.new w T cs).cell j]; simp
/-- The cell of one element that is read. -/
theorem Reads.at {w : World} {b off n : Nat} {xs : List Value} (h : Reads w 1 (some ⟨b, off, none⟩) n xs) {j : Nat} {v : Value} (hv : xs[j]? = some v) : w.cell? ⟨b, off + j, none⟩ = some v := by
  have hj := (List.getElem?_eq_some_iff.1 hv).1
  obtain ⟨b', off', he, hc⟩ := h.2 (by have := h.1; omega)
  cases he
  rw [hc j hj, hv]
theorem Reads.some {w : World} {ao : Option Addr} {size n : Nat} {xs : List Value} (h : Reads w size ao n xs) (h0 : 0 < n) : ∃ b off, ao = .some ⟨b, off, none⟩ := by
  obtain ⟨b, off, he, _⟩ := h.2 h0; exact ⟨b, off, he⟩

theorem map_oneCell {α : Type} (f : α → Value) (hf : ∀ a, (f a).oneCell' = true) (l : List α) : ∀ u ∈ l.map f, u.oneCell' = true := by
  intro u hu; obtain ⟨a, _, rfl⟩ := List.mem_map.1 hu; exact hf a

/-- How the walk holds two texts against each other. -/
theorem str_ne {a b : ByteArray} (h : a ≠ b) : (a.toList == b.toList) = false := by
  rw [beq_eq_false_iff_ne, ByteArray.toList_eq, ByteArray.toList_eq]
  intro e
  exact h (by rcases a with ⟨⟨a⟩⟩; rcases b with ⟨⟨b⟩⟩; cases e; rfl)
theorem str_eq {a b : ByteArray} (h : a = b) : (a.toList == b.toList) = true := by rw [h]; exact beq_self_eq_true _

/-! A class of worlds for regions that draw their order and whose calls make new memory alone. -/
def Exts (w : World) : Type := { w' : World // Below w.heap.size w w' }
def ext (w : World) (x : Exts w) : World := x.1
theorem ext_below (w : World) (x : Exts w) : Below w.heap.size w (ext w x) := x.2
@[simp, go_sem] theorem cell?_ext (w : World) (x : Exts w) (b o : Nat) (h : b < w.heap.size) : (ext w x).cell? ⟨b, o, none⟩ = w.cell? ⟨b, o, none⟩ :=
  (ext_below w x).cell (p := ⟨b, o, none⟩) h
@[simp, go_sem] theorem frozen?_ext (w : World) (x : Exts w) (b o : Nat) (h : b < w.heap.size) : (ext w x).frozen? ⟨b, o, none⟩ = w.frozen? ⟨b, o, none⟩ :=
  (ext_below w x).frozen (p := ⟨b, o, none⟩) h
theorem Exts.of {w w' : World} (h : Below w.heap.size w w') : ∃ x : Exts w, w' = ext w x := ⟨⟨w', h⟩, rfl⟩

/-- A callee's contract, met in a world of the class. -/
theorem Calls.ext_of {P : Program} {f : FuncId} {args : Array Value} {w : World} {x : Exts w} {v : Value}
    (h : Calls P f args (ext w x) fun e w' => e = .returned v ∧ Ext (ext w x) w') : Calls P f args (ext w x) fun e w'' => e = .returned v ∧ ∃ y : Exts w, w'' = ext w y :=
  h.mono fun _ _ ⟨he, hm⟩ => ⟨he, Exts.of ((ext_below w x).trans (hm.below.mono (ext_below w x).size))⟩
theorem Calls.ext_of_same {P : Program} {f : FuncId} {args : Array Value} {w : World} {x : Exts w} {v : Value}
    (h : Calls P f args (ext w x) fun e w' => e = .returned v ∧ w' = ext w x) : Calls P f args (ext w x) fun e w'' => e = .returned v ∧ ∃ y : Exts w, w'' = ext w y :=
  h.mono fun _ _ ⟨he, hm⟩ => ⟨he, x, hm⟩
theorem Calls.ext_of_drewN {P : Program} {f : FuncId} {args : Array Value} {w : World} {x : Exts w} {v : Value}
    (h : Calls P f args (ext w x) fun e w' => e = .returned v ∧ ∃ n, w' = (ext w x).drewN n) : Calls P f args (ext w x) fun e w'' => e = .returned v ∧ ∃ y : Exts w, w'' = ext w y :=
  h.mono fun _ _ ⟨he, n, hm⟩ => ⟨he, Exts.of (by rw [hm]; have := ext_below w x; exact ⟨this.os, this.tape, this.output, this.size, this.block⟩)⟩

theorem wp_region_ext_lit {P : Program} {id : Nat} {Q : Exit → Act → World → Prop} {a : Act} {w : World} {l : List Oper} (hm : P.follows .mixedOrders = true) (hB : Region.lexB .any l.toArray = true)
    (h : wpQuiet P l.toArray (fun w' => ∃ x : Exts w, w' = ext w x) (fun a' => ∀ w', Ext w w' → Q .normal a' w') l a) : (Code.region id l.toArray true).wp P Q a w :=
  wp_region_quiet (C := fun w' => ∃ x : Exts w, w' = ext w x) hm hB (Exts.of ⟨rfl, rfl, rfl, Nat.le_refl _, fun _ _ => rfl⟩)
    (by
      have h2 : (fun a' : Act => ∀ w', (∃ x : Exts w, w' = ext w x) → Q .normal a' w') = (fun a' : Act => ∀ w', Ext w w' → Q .normal a' w') := by
        funext a'; apply propext; constructor
        · intro h w' hx; exact h w' (Exts.of hx.below)
        · rintro h w' ⟨x, rfl⟩; exact h _ (Mod.of_below (ext_below w x))
      rw [h2]; simpa using h)

end Go.Gim

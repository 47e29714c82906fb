/- General lemmas used by all walks of this claim: how far a call changes memory (Mod), blocks read cell by cell, and a class of worlds for regions whose calls only make new memory. Conditions: none. -/
import Derived.WalkKit
import Derived.BigRegion
import Derived.BigQuiet
import Derived.Deep.QuietTactic
import Derived.Lib.Hide
import Derived.WalkSpells
import Derived.WalkLawsBesides
import Derived.StillTailTactics
import Derived.Lib.ConvBytes
import Derived.Laws.IdiomStrings
import Derived.Lib.AppendStr
import Derived.ArgAppend
import Derived.Orders
namespace Go.Gim
open Go.RowKit

/-- Outside the blocks of S the world w' is as w was; no block has gone. -/
structure Mod (S : Nat → Prop) (w w' : World) : Prop where
  os : w'.os = w.os
  tape : w'.tape = w.tape
  output : w'.output = w.output
  size : w.heap.size ≤ w'.heap.size
  block : ∀ k, k < w.heap.size → ¬ S k → w'.heap[k]? = w.heap[k]?

/-- Nothing that was there has changed. -/
abbrev Ext (w w' : World) : Prop := Mod (fun _ => False) w w'

theorem Mod.refl (S : Nat → Prop) (w : World) : Mod S w w := ⟨rfl, rfl, rfl, Nat.le_refl _, fun _ _ _ => rfl⟩

theorem Mod.mono {S T : Nat → Prop} {w w' : World} (h : Mod S w w') (hs : ∀ k, k < w.heap.size → S k → T k) : Mod T w w' :=
  ⟨h.os, h.tape, h.output, h.size, fun k hk hT => h.block k hk (fun hS => hT (hs k hk hS))⟩

theorem Mod.trans {S T : Nat → Prop} {a b c : World} (h : Mod S a b) (k : Mod T b c) (hT : ∀ i, i < a.heap.size → T i → S i) : Mod S a c :=
  ⟨k.os.trans h.os, k.tape.trans h.tape, k.output.trans h.output, Nat.le_trans h.size k.size,
   fun i hi hS => (k.block i (Nat.lt_of_lt_of_le hi h.size) (fun t => hS (hT i hi t))).trans (h.block i hi hS)⟩

theorem Mod.drewN {S : Nat → Prop} {a w : World} (h : Mod S a w) (n : Nat) : Mod S a (w.drewN n) := ⟨h.os, h.tape, h.output, h.size, h.block⟩
theorem Mod.drew {S : Nat → Prop} {a w : World} (h : Mod S a w) : Mod S a w.drew := ⟨h.os, h.tape, h.output, h.size, h.block⟩
theorem Mod.of_drewN {S : Nat → Prop} {a w : World} {n : Nat} (h : Mod S (a.drewN n) w) : Mod S a w := ⟨h.os, h.tape, h.output, h.size, h.block⟩

theorem Mod.alloc {S : Nat → Prop} {a w : World} (h : Mod S a w) (o : Obj) : Mod S a (w.alloc o) :=
  ⟨h.os, h.tape, h.output, Nat.le_trans h.size (by simp), fun k hk hS => (Below.heap_alloc _ _ _ (Nat.lt_of_lt_of_le hk h.size)).trans (h.block k hk hS)⟩

theorem Mod.setCell {S : Nat → Prop} {a w : World} (h : Mod S a w) {p : Addr} (hp : p.block < a.heap.size → S p.block) (u : Value) : Mod S a (w.setCell p u) :=
  ⟨h.os, h.tape, h.output, by simpa using h.size, fun k hk hS => (Below.heap_setCell _ _ _ _ (fun e => hS (by subst e; exact hp hk))).trans (h.block k hk hS)⟩

theorem Mod.grown {S : Nat → Prop} {a w w' : World} {row : Option Nat} (h : Mod S a w) (hg : w.grownBy w' row) (hr : ∀ k, row = some k → k < a.heap.size → S k) : Mod S a w' :=
  ⟨hg.os.trans h.os, hg.tape.trans h.tape, hg.output.trans h.output, Nat.le_trans h.size hg.size,
   fun k hk hS => (hg.block k (Nat.lt_of_lt_of_le hk h.size) (fun e => hS (hr k e.symm hk))).trans (h.block k hk hS)⟩

theorem Mod.cell {S : Nat → Prop} {w w' : World} (h : Mod S w w') {p : Addr} (hp : p.block < w.heap.size) (hS : ¬ S p.block) : w'.cell? p = w.cell? p :=
  World.cell?_of_block (w := w) (h.block _ hp hS)
theorem Mod.frozen {S : Nat → Prop} {w w' : World} (h : Mod S w w') {p : Addr} (hp : p.block < w.heap.size) (hS : ¬ S p.block) : w'.frozen? p = w.frozen? p :=
  World.frozen?_of_block (w := w) (h.block _ hp hS)

theorem Mod.below {w w' : World} (h : Ext w w') : Below w.heap.size w w' := ⟨h.os, h.tape, h.output, h.size, fun k hk => h.block k hk (fun f => f)⟩
theorem Mod.of_below {S : Nat → Prop} {w w' : World} (h : Below w.heap.size w w') : Mod S w w' := ⟨h.os, h.tape, h.output, h.size, fun k hk _ => h.block k hk⟩
theorem Mod.any {S : Nat → Prop} {w w' : World} (h : Ext w w') : Mod S w w' := h.mono (fun _ _ f => f.elim)
theorem Mod.ext_trans {a b c : World} (h : Ext a b) (k : Ext b c) : Ext a c := Mod.trans h k (fun _ _ f => f)
theorem Mod.over {a b c : World} {v : Value} (h : Ext a b) (hm : Mod (fun k => v.ownBlock = some k) b c) (hv : ∀ k, v.ownBlock = some k → a.heap.size ≤ k) : Ext a c :=
  Mod.trans h hm (fun i hi e => absurd (hv i e) (by omega))
theorem Mod.of_alike {S : Nat → Prop} {a w w' : World} (h : Mod S a w) (ht : w'.tape = w.tape) (ha : w'.Alike w) : Mod S a w' :=
  ⟨ha.2.1.trans h.os, ht.trans h.tape, ha.2.2.trans h.output, by rw [ha.1]; exact h.size, fun k hk hS => by rw [ha.1]; exact h.block k hk hS⟩
theorem Mod.lt {S : Nat → Prop} {w w' : World} (h : Mod S w w') {b : Nat} (hb : b < w.heap.size) : b < w'.heap.size := Nat.lt_of_lt_of_le hb h.size

/-- The block b holds just these cells, none of them frozen. -/
def Blk (w : World) (b : Nat) (T : TypeId) (cs : Array Value) : Prop := w.heap[b]? = some (.cells cs T (0, 0))

theorem Blk.lt {w : World} {b : Nat} {T : TypeId} {cs : Array Value} (h : Blk w b T cs) : b < w.heap.size := (Array.getElem?_eq_some_iff.1 h).1
theorem Blk.cell {w : World} {b : Nat} {T : TypeId} {cs : Array Value} (h : Blk w b T cs) (i : Nat) : w.cell? ⟨b, i, none⟩ = cs[i]? := by
  unfold Blk at h; simp [World.cell?, h]
theorem Blk.free {w : World} {b : Nat} {T : TypeId} {cs : Array Value} (h : Blk w b T cs) (i : Nat) : w.frozen? ⟨b, i, none⟩ = false := by
  unfold Blk at h; simp [World.frozen?, h]
theorem Blk.mod {S : Nat → Prop} {w w' : World} {b : Nat} {T : TypeId} {cs : Array Value} (h : Blk w b T cs) (hm : Mod S w w') (hS : ¬ S b) : Blk w' b T cs :=
  (hm.block b h.lt hS).trans h
theorem Blk.drewN {w : World} {b : Nat} {T : TypeId} {cs : Array Value} (h : Blk w b T cs) (n : Nat) : Blk (w.drewN n) b T cs := h
theorem Blk.set {w : World} {b : Nat} {T : TypeId} {cs : Array Value} (h : Blk w b T cs) (i : Nat) (v : Value) : Blk (w.setCell ⟨b, i, none⟩ v) b T (cs.setIfInBounds i v) := by
  unfold Blk at *
  simp only [World.setCell, Array.getElem?_modify, h, Option.map_some, Option.isSome_none, Bool.false_eq_true, if_false, if_true]
theorem Blk.set_other {w : World} {b : Nat} {T : TypeId} {cs : Array Value} (h : Blk w b T cs) {p : Addr} (hp : b ≠ p.block) (v : Value) : Blk (w.setCell p v) b T cs :=
  (Below.heap_setCell _ _ _ _ hp).trans h
theorem Blk.alloc {w : World} {b : Nat} {T : TypeId} {cs : Array Value} (h : Blk w b T cs) (o : Obj) : Blk (w.alloc o) b T cs :=
  (Below.heap_alloc _ _ _ h.lt).trans h
theorem Blk.new (w : World) (T : TypeId) (cs : Array Value) : Blk (w.alloc (.cells cs T)) w.heap.size T cs :=
  heap_alloc_new w _

/-- A slice that the call owns shows what it is. -/
theorem ownsRow_shape {w : World} {base : Nat} {e : TypeId} {size : Nat} {v : Value} {n : Nat} {xs : List Value} (h : w.ownsRow base e size v n xs) :
    ∃ ao cap, v = .slice ao n cap ∧ n ≤ cap ∧ (0 < n → ∃ g, ao = some ⟨g, 0, none⟩) := by
  rcases h.2 with ⟨hv, hn⟩ | ⟨g, cap, cur, hv, _, _, hn, _⟩
  · exact ⟨none, 0, by rw [hv, hn], by omega, fun h0 => by omega⟩
  · exact ⟨_, cap, hv, hn, fun _ => ⟨g, rfl⟩⟩

theorem ret_int {k : IntKind} {a b : Int} (h : a = b) : Ending.returned (.int k a) = .returned (.int k b) := by rw [h]

theorem ret_bool {a b : Bool} (h : a = b) : Ending.returned (.bool a) = .returned (.bool b) := by rw [h]
theorem ret_string {a b : ByteArray} (h : a = b) : Ending.returned (.string a) = .returned (.string b) := by rw [h]

/-- A slice that is read: its n elements of so many cells hold xs; nil, or a row of some block. -/
def Reads (w : World) (size : Nat) (ao : Option Addr) (n : Nat) (xs : List Value) : Prop :=
  xs.length = n * size ∧ (0 < n → ∃ b off, ao = some ⟨b, off, none⟩ ∧ ∀ j, j < xs.length → w.cell? ⟨b, off + j, none⟩ = xs[j]?)

theorem Reads.adds {w : World} {b off : Nat} {xs : List Value} (h : ∀ j, j < xs.length → w.cell? ⟨b, off + j, none⟩ = xs[j]?) :
    ∀ j u, xs[j]? = some u → w.cell? ((⟨b, off, none⟩ : Addr).add j) = some u := by
  intro j u hu
  have hj := (List.getElem?_eq_some_iff.1 hu).1
  have e : (⟨b, off, none⟩ : Addr).add j = ⟨b, off + j, none⟩ := by unfold Addr.add; split <;> simp_all
  rw [e, h j hj, hu]
theorem Reads.mod {S : Nat → Prop} {w w' : World} {size n : Nat} {ao : Option Addr} {xs : List Value} (h : Reads w size ao n xs) (hm : Mod S w w') (hS : ∀ a, ao = some a → ¬ S a.block) : Reads w' size ao n xs := by
  refine ⟨h.1, fun h0 => ?_⟩
  obtain ⟨b, off, rfl, hc⟩ := h.2 h0
  refine ⟨b, off, rfl, fun j hj => ?_⟩
  have hu : w.cell? ⟨b, off + j, none⟩ = some (xs[j]) := by rw [hc j hj, List.getElem?_eq_getElem hj]
  rw [hm.cell (p := ⟨b, off + j, none⟩) (World.block_lt_of_cell? w _ hu) (hS ⟨b, off, none⟩ rfl)]
  exact hc j hj
theorem Reads.alloc {w : World} {size n : Nat} {ao : Option Addr} {xs : List Value} (h : Reads w size ao n xs) (o : Obj) : Reads (w.alloc o) size ao n xs :=
  h.mod ((Mod.refl (fun _ => False) w).alloc o) (fun _ _ f => f)
theorem Reads.own {w : World} {base : Nat} {e : TypeId} {size n cap : Nat} {ao : Option Addr} {xs : List Value} (h : w.ownsRow base e size (.slice ao n cap) n xs) : Reads w size ao n xs := by
  refine ⟨h.1, fun h0 => ?_⟩
  obtain ⟨ao', cap', hv, hn, hg⟩ := ownsRow_shape h
  obtain ⟨g, rfl⟩ := hg h0
  cases hv
  refine ⟨g, 0, rfl, fun j hj => ?_⟩
  rw [Nat.zero_add, h.cellAt j (by rw [← h.1]; exact hj)]

theorem Reads.new (w : World) (T : TypeId) (cs : Array Value) (size n : Nat) (h : cs.size = n * size) : Reads (w.alloc (.cells cs T)) size (some ⟨w.heap.size, 0, none⟩) n cs.toList := by
  refine ⟨by simpa using h, fun _ => ⟨_, _, rfl, fun j hj => ?_⟩⟩
  rw [Nat.zero_add, (Blk.new w T cs).cell j]; simp
/-- The cell of one element that is read. -/
theorem Reads.at {w : World} {b off n : Nat} {xs : List Value} (h : Reads w 1 (some ⟨b, off, none⟩) n xs) {j : Nat} {v : Value} (hv : xs[j]? = some v) : w.cell? ⟨b, off + j, none⟩ = some v := by
  have hj := (List.getElem?_eq_some_iff.1 hv).1
  obtain ⟨b', off', he, hc⟩ := h.2 (by have := h.1; omega)
  cases he
  rw [hc j hj, hv]
theorem Reads.some {w : World} {ao : Option Addr} {size n : Nat} {xs : List Value} (h : Reads w size ao n xs) (h0 : 0 < n) : ∃ b off, ao = .some ⟨b, off, none⟩ := by
  obtain ⟨b, off, he, _⟩ := h.2 h0; exact ⟨b, off, he⟩

theorem map_oneCell {α : Type} (f : α → Value) (hf : ∀ a, (f a).oneCell' = true) (l : List α) : ∀ u ∈ l.map f, u.oneCell' = true := by
  intro u hu; obtain ⟨a, _, rfl⟩ := List.mem_map.1 hu; exact hf a

/-- How the walk holds two texts against each other. -/
theorem str_ne {a b : ByteArray} (h : a ≠ b) : (a.toList == b.toList) = false := by
  rw [beq_eq_false_iff_ne, ByteArray.toList_eq, ByteArray.toList_eq]
  intro e
  exact h (by rcases a with ⟨⟨a⟩⟩; rcases b with ⟨⟨b⟩⟩; cases e; rfl)
theorem str_eq {a b : ByteArray} (h : a = b) : (a.toList == b.toList) = true := by rw [h]; exact beq_self_eq_true _

/-! A class of worlds for regions that draw their order and whose calls make new memory alone. -/
def Exts (w : World) : Type := { w' : World // Below w.heap.size w w' }
def ext (w : World) (x : Exts w) : World := x.1
theorem ext_below (w : World) (x : Exts w) : Below w.heap.size w (ext w x) := x.2
@[simp, go_sem] theorem cell?_ext (w : World) (x : Exts w) (b o : Nat) (h : b < w.heap.size) : (ext w x).cell? ⟨b, o, none⟩ = w.cell? ⟨b, o, none⟩ :=
  (ext_below w x).cell (p := ⟨b, o, none⟩) h
@[simp, go_sem] theorem frozen?_ext (w : World) (x : Exts w) (b o : Nat) (h : b < w.heap.size) : (ext w x).frozen? ⟨b, o, none⟩ = w.frozen? ⟨b, o, none⟩ :=
  (ext_below w x).frozen (p := ⟨b, o, none⟩) h
theorem Exts.of {w w' : World} (h : Below w.heap.size w w') : ∃ x : Exts w, w' = ext w x := ⟨⟨w', h⟩, rfl⟩

/-- A callee's contract, met in a world of the class. -/
theorem Calls.ext_of {P : Program} {f : FuncId} {args : Array Value} {w : World} {x : Exts w} {v : Value}
    (h : Calls P f args (ext w x) fun e w' => e = .returned v ∧ Ext (ext w x) w') : Calls P f args (ext w x) fun e w'' => e = .returned v ∧ ∃ y : Exts w, w'' = ext w y :=
  h.mono fun _ _ ⟨he, hm⟩ => ⟨he, Exts.of ((ext_below w x).trans (hm.below.mono (ext_below w x).size))⟩
theorem Calls.ext_of_same {P : Program} {f : FuncId} {args : Array Value} {w : World} {x : Exts w} {v : Value}
    (h : Calls P f args (ext w x) fun e w' => e = .returned v ∧ w' = ext w x) : Calls P f args (ext w x) fun e w'' => e = .returned v ∧ ∃ y : Exts w, w'' = ext w y :=
  h.mono fun _ _ ⟨he, hm⟩ => ⟨he, x, hm⟩
theorem Calls.ext_of_drewN {P : Program} {f : FuncId} {args : Array Value} {w : World} {x : Exts w} {v : Value}
    (h : Calls P f args (ext w x) fun e w' => e = .returned v ∧ ∃ n, w' = (ext w x).drewN n) : Calls P f args (ext w x) fun e w'' => e = .returned v ∧ ∃ y : Exts w, w'' = ext w y :=
  h.mono fun _ _ ⟨he, n, hm⟩ => ⟨he, Exts.of (by rw [hm]; have := ext_below w x; exact ⟨this.os, this.tape, this.output, this.size, this.block⟩)⟩

theorem wp_region_ext_lit {P : Program} {id : Nat} {Q : Exit → Act → World → Prop} {a : Act} {w : World} {l : List Oper} (hm : P.follows .mixedOrders = true) (hB : Region.lexB .any l.toArray = true)
    (h : wpQuiet P l.toArray (fun w' => ∃ x : Exts w, w' = ext w x) (fun a' => ∀ w', Ext w w' → Q .normal a' w') l a) : (Code.region id l.toArray true).wp P Q a w :=
  wp_region_quiet (C := fun w' => ∃ x : Exts w, w' = ext w x) hm hB (Exts.of ⟨rfl, rfl, rfl, Nat.le_refl _, fun _ _ => rfl⟩)
    (by
      have h2 : (fun a' : Act => ∀ w', (∃ x : Exts w, w' = ext w x) → Q .normal a' w') = (fun a' : Act => ∀ w', Ext w w' → Q .normal a' w') := by
        funext a'; apply propext; constructor
        · intro h w' hx; exact h w' (Exts.of hx.below)
        · rintro h w' ⟨x, rfl⟩; exact h _ (Mod.of_below (ext_below w x))
      rw [h2]; simpa using h)

end Go.Gim

/- Plain facts on characters of byte strings: where one ends, a text's characters and their places; no program in sight. Conditions: none. -/
namespace Go.Gim

/-- Is a byte not the first one of a proper character? -/
def inB (c : UInt8) : Bool := decide (128 ≤ c.toNat ∧ c.toNat ≤ 191)
/-- How many bytes of those that are not first stand at the beginning. -/
def cont (l : List UInt8) : Nat := (l.takeWhile inB).length
/-- Where the character that begins at a place ends. -/
def endN (l : List UInt8) (a : Nat) : Nat := a + 1 + cont (l.drop (a + 1))
def bs (l : List UInt8) : ByteArray := ⟨l.toArray⟩

theorem bs_toList (l : List UInt8) : (bs l).data.toList = l := rfl
theorem bs_size (l : List UInt8) : (bs l).size = l.length := rfl
theorem bs_of (s : ByteArray) : bs s.data.toList = s := rfl
theorem toList_length (s : ByteArray) : s.data.toList.length = s.size := rfl
theorem toList_get (s : ByteArray) (k : Nat) (h : k < s.size) : s.data.toList[k]'(by rw [toList_length]; exact h) = s[k] := rfl

theorem cont_drop (l : List UInt8) (k : Nat) (h : k < l.length) : cont (l.drop k) = if inB l[k] then cont (l.drop (k + 1)) + 1 else 0 := by
  rw [List.drop_eq_getElem_cons h]
  simp only [cont, List.takeWhile_cons]
  split <;> simp
theorem cont_over (l : List UInt8) (k : Nat) (h : l.length ≤ k) : cont (l.drop k) = 0 := by rw [List.drop_of_length_le h]; rfl
theorem cont_le (l : List UInt8) : cont l ≤ l.length := (List.takeWhile_prefix _).length_le

theorem endN_gt (l : List UInt8) (a : Nat) : a < endN l a := by unfold endN; omega
theorem endN_le (l : List UInt8) (a : Nat) (h : a < l.length) : endN l a ≤ l.length := by
  have := cont_le (l.drop (a + 1)); rw [List.length_drop] at this; unfold endN; omega

theorem cont_in (l : List UInt8) (j : Nat) (h : j < cont l) (hj : j < l.length) : inB l[j] = true := by
  induction l generalizing j with
  | nil => simp at hj
  | cons x r ih =>
    by_cases hx : inB x
    · have e : cont (x :: r) = cont r + 1 := by simp [cont, hx]
      cases j with
      | zero => simpa using hx
      | succ j => simpa using ih j (by omega) (by simpa using hj)
    · have e : cont (x :: r) = 0 := by simp [cont, hx]
      omega
theorem cont_stop (l : List UInt8) (h : cont l < l.length) : inB l[cont l] = false := by
  induction l with
  | nil => simp at h
  | cons x r ih =>
    by_cases hx : inB x
    · have e : cont (x :: r) = cont r + 1 := by simp [cont, hx]
      simp only [e, List.getElem_cons_succ]
      exact ih (by rw [e] at h; simpa using h)
    · have e : cont (x :: r) = 0 := by simp [cont, hx]
      simp only [e, List.getElem_cons_zero]
      simpa using hx

theorem endN_in (l : List UInt8) (a j : Nat) (h1 : a < j) (h2 : j < endN l a) (hj : j < l.length) : inB l[j] = true := by
  unfold endN at h2
  have h3 := cont_in (l.drop (a + 1)) (j - (a + 1)) (by omega) (by rw [List.length_drop]; omega)
  rw [List.getElem_drop] at h3
  have e : a + 1 + (j - (a + 1)) = j := by omega
  simpa [e] using h3
theorem endN_stop (l : List UInt8) (a : Nat) (h : endN l a < l.length) : inB l[endN l a] = false := by
  have h3 := cont_stop (l.drop (a + 1)) (by rw [List.length_drop]; unfold endN at h; omega)
  rw [List.getElem_drop] at h3
  exact h3
/-- What it is told by. -/
theorem endN_eq (l : List UInt8) (a i : Nat) (h1 : a < i) (h2 : i ≤ l.length) (h3 : ∀ j (hj : j < l.length), a < j → j < i → inB l[j] = true) (h4 : ∀ hi : i < l.length, inB l[i] = false) : endN l a = i := by
  rcases Nat.lt_trichotomy (endN l a) i with h | h | h
  · have := h3 (endN l a) (by omega) (endN_gt l a) h
    rw [endN_stop l a (by omega)] at this; cases this
  · exact h
  · have hi : i < l.length := by
      rcases Nat.lt_or_ge i l.length with h' | h'
      · exact h'
      · have := endN_le l a (by omega); omega
    have := endN_in l a i h1 h hi
    rw [h4 hi] at this; cases this

/-- The characters behind a place, the places behind it. -/
def charsF (l : List UInt8) : Nat → Nat → List (List UInt8)
  | 0, _ => []
  | f + 1, a => if a < l.length then (l.drop a).take (endN l a - a) :: charsF l f (endN l a) else []
def placesF (l : List UInt8) : Nat → Nat → List Nat
  | 0, _ => []
  | f + 1, a => if a < l.length then endN l a :: placesF l f (endN l a) else []
def charsAt (l : List UInt8) (a : Nat) : List (List UInt8) := charsF l (l.length - a) a
def placesAt (l : List UInt8) (a : Nat) : List Nat := placesF l (l.length - a) a

theorem charsF_fuel (l : List UInt8) : ∀ (f g a : Nat), l.length - a ≤ f → l.length - a ≤ g → charsF l f a = charsF l g a
  | 0, 0, _, _, _ => rfl
  | 0, g + 1, a, h, _ => by simp [charsF, show ¬ a < l.length by omega]
  | f + 1, 0, a, _, h => by simp [charsF, show ¬ a < l.length by omega]
  | f + 1, g + 1, a, h1, h2 => by
    simp only [charsF]
    split
    · have := endN_gt l a
      rw [charsF_fuel l f g (endN l a) (by omega) (by omega)]
    · rfl
theorem placesF_fuel (l : List UInt8) : ∀ (f g a : Nat), l.length - a ≤ f → l.length - a ≤ g → placesF l f a = placesF l g a
  | 0, 0, _, _, _ => rfl
  | 0, g + 1, a, h, _ => by simp [placesF, show ¬ a < l.length by omega]
  | f + 1, 0, a, _, h => by simp [placesF, show ¬ a < l.length by omega]
  | f + 1, g + 1, a, h1, h2 => by
    simp only [placesF]
    split
    · have := endN_gt l a
      rw [placesF_fuel l f g (endN l a) (by omega) (by omega)]
    · rfl

theorem charsAt_step (l : List UInt8) (a : Nat) (h : a < l.length) : charsAt l a = (l.drop a).take (endN l a - a) :: charsAt l (endN l a) := by
  obtain ⟨f, hf⟩ : ∃ f, l.length - a = f + 1 := ⟨l.length - a - 1, by omega⟩
  have := endN_gt l a
  unfold charsAt
  rw [hf]
  simp only [charsF, if_pos h]
  rw [charsF_fuel l f (l.length - endN l a) _ (by omega) (Nat.le_refl _)]
theorem charsAt_end (l : List UInt8) (a : Nat) (h : l.length ≤ a) : charsAt l a = [] := by
  unfold charsAt; rw [show l.length - a = 0 by omega]; rfl
theorem placesAt_step (l : List UInt8) (a : Nat) (h : a < l.length) : placesAt l a = endN l a :: placesAt l (endN l a) := by
  obtain ⟨f, hf⟩ : ∃ f, l.length - a = f + 1 := ⟨l.length - a - 1, by omega⟩
  have := endN_gt l a
  unfold placesAt
  rw [hf]
  simp only [placesF, if_pos h]
  rw [placesF_fuel l f (l.length - endN l a) _ (by omega) (Nat.le_refl _)]
theorem placesAt_end (l : List UInt8) (a : Nat) (h : l.length ≤ a) : placesAt l a = [] := by
  unfold placesAt; rw [show l.length - a = 0 by omega]; rfl

theorem charsF_len (l : List UInt8) : ∀ (f a : Nat), (charsF l f a).length ≤ f
  | 0, _ => by simp [charsF]
  | f + 1, a => by
    simp only [charsF]
    split
    · have := charsF_len l f (endN l a); simp; omega
    · simp
theorem placesF_len (l : List UInt8) : ∀ (f a : Nat), (placesF l f a).length ≤ f
  | 0, _ => by simp [placesF]
  | f + 1, a => by
    simp only [placesF]
    split
    · have := placesF_len l f (endN l a); simp; omega
    · simp
theorem charsAt_len (l : List UInt8) (a : Nat) : (charsAt l a).length ≤ l.length - a := charsF_len _ _ _
theorem placesAt_len (l : List UInt8) (a : Nat) : (placesAt l a).length ≤ l.length - a := placesF_len _ _ _

theorem extract_bs (s : ByteArray) (a b : Nat) : s.extract a b = bs ((s.data.toList.drop a).take (b - a)) := by
  apply ByteArray.ext
  rw [ByteArray.data_extract]
  apply Array.ext'
  simp [bs, List.extract_eq_take_drop]

end Go.Gim

/- Plain facts on the treap of pieces and on counts of bytes: no program in sight. Conditions: none. -/
namespace Go.Gim

/-! Counts of a text. -/
def brk (l : List UInt8) : Nat := l.countP (fun c => c == 10)
def run (l : List UInt8) : Nat := l.countP (fun c => c < 128 || 191 < c)
def big (l : List UInt8) : Nat := l.countP (fun c => 240 ≤ c)
def unt (l : List UInt8) : Nat := run l + big l
def byt (l : List UInt8) : Nat := l.length
def by_ (way : Nat) (l : List UInt8) : Nat := match way with | 0 => l.length | 1 => run l | 2 => unt l | _ => brk l
def tally (l : List UInt8) : Array Value := #[.int .i64 (byt l), .int .i64 (brk l), .int .i64 (run l), .int .i64 (unt l)]

theorem byt_append (a b : List UInt8) : byt (a ++ b) = byt a + byt b := List.length_append ..
theorem brk_append (a b : List UInt8) : brk (a ++ b) = brk a + brk b := List.countP_append ..
theorem run_append (a b : List UInt8) : run (a ++ b) = run a + run b := List.countP_append ..
theorem unt_append (a b : List UInt8) : unt (a ++ b) = unt a + unt b := by simp only [unt, run, big, List.countP_append]; omega
theorem brk_le (a : List UInt8) : brk a ≤ a.length := List.countP_le_length ..
theorem run_le (a : List UInt8) : run a ≤ a.length := List.countP_le_length ..
theorem unt_le (a : List UInt8) : unt a ≤ 2 * a.length := by
  have h1 : run a ≤ a.length := List.countP_le_length ..
  have h2 : big a ≤ a.length := List.countP_le_length ..
  simp only [unt]; omega


/-! The treap. -/
inductive T where
  | nil
  | node (b : Nat) (own : ByteArray) (prio : Int) (l r : T)

def T.addr : T → Option Addr
  | .nil => none
  | .node b _ _ _ _ => some ⟨b, 0, none⟩
def T.blocks : T → List Nat
  | .nil => []
  | .node b _ _ l r => b :: (l.blocks ++ r.blocks)
def T.text : T → List UInt8
  | .nil => []
  | .node _ own _ l r => l.text ++ (own.data.toList ++ r.text)
def T.owns : T → List ByteArray
  | .nil => []
  | .node _ own _ l r => l.owns ++ own :: r.owns
def T.size (t : T) : Nat := t.text.length
def T.Le (p : Int) : T → Prop
  | .nil => True
  | .node _ _ q _ _ => q ≤ p
def T.Heap : T → Prop
  | .nil => True
  | .node _ _ p l r => l.Le p ∧ r.Le p ∧ l.Heap ∧ r.Heap
def T.isNil : T → Bool
  | .nil => true
  | _ => false
def T.count : T → Nat
  | .nil => 0
  | .node _ _ _ l r => l.count + r.count + 1

def join (l : List ByteArray) : List UInt8 := l.flatMap (fun b => b.data.toList)
theorem join_append (a b : List ByteArray) : join (a ++ b) = join a ++ join b := by simp [join]
theorem join_cons (a : ByteArray) (b : List ByteArray) : join (a :: b) = a.data.toList ++ join b := by simp [join]
theorem T.text_owns (t : T) : t.text = join t.owns := by
  induction t with
  | nil => rfl
  | node b own p l r ihl ihr => simp [T.text, T.owns, join_append, join_cons, ihl, ihr]

/-- The sizes of pieces: each has 1 to 64 bytes, two neighbours together more than 64. -/
def Adj : List ByteArray → Prop
  | [] => True
  | [_] => True
  | a :: b :: r => 64 < a.size + b.size ∧ Adj (b :: r)
def Sized (l : List ByteArray) : Prop := ∀ x ∈ l, 1 ≤ x.size ∧ x.size ≤ 64
def Pcs (l : List ByteArray) : Prop := Sized l ∧ Adj l

/-- The length of the last piece, of the first; 64 of none (so that a sum with one of at least one byte passes 64). -/
def lastLen (l : List ByteArray) : Nat := match l.getLast? with | some x => x.size | none => 64
def firstLen (l : List ByteArray) : Nat := match l with | x :: _ => x.size | [] => 64

theorem lastLen_append_cons (a : List ByteArray) (x : ByteArray) (b : List ByteArray) : lastLen (a ++ x :: b) = lastLen (x :: b) := by
  simp [lastLen, List.getLast?_append, List.getLast?_cons]
theorem lastLen_single (a : List ByteArray) (x : ByteArray) : lastLen (a ++ [x]) = x.size := by simp [lastLen]
theorem lastLen_cons_cons (x y : ByteArray) (b : List ByteArray) : lastLen (x :: y :: b) = lastLen (y :: b) := by simp [lastLen]

theorem adj_cons {x : ByteArray} {l : List ByteArray} : Adj (x :: l) ↔ (l ≠ [] → 64 < x.size + firstLen l) ∧ Adj l := by
  cases l with
  | nil => simp [Adj]
  | cons y r => simp [Adj, firstLen]

theorem adj_append {a b : List ByteArray} : Adj (a ++ b) ↔ Adj a ∧ Adj b ∧ (a ≠ [] → b ≠ [] → 64 < lastLen a + firstLen b) := by
  induction a with
  | nil => simp [Adj]
  | cons x r ih =>
    cases r with
    | nil =>
      rw [List.cons_append, List.nil_append, adj_cons]
      simp [Adj, lastLen]
      constructor
      · rintro ⟨h1, h2⟩; exact ⟨h2, h1⟩
      · rintro ⟨h1, h2⟩; exact ⟨h2, h1⟩
    | cons y q =>
      have e1 : Adj (x :: (y :: q ++ b)) ↔ 64 < x.size + y.size ∧ Adj (y :: q ++ b) := by rw [adj_cons]; simp [firstLen]
      have e2 : Adj (x :: y :: q) ↔ 64 < x.size + y.size ∧ Adj (y :: q) := by rw [adj_cons]; simp [firstLen]
      rw [List.cons_append, e1, e2, ih, lastLen_cons_cons]
      constructor
      · rintro ⟨h1, h2, h3, h4⟩; exact ⟨⟨h1, h2⟩, h3, fun _ => h4 (by simp)⟩
      · rintro ⟨⟨h1, h2⟩, h3, h4⟩; exact ⟨h1, h2, h3, fun _ => h4 (by simp)⟩

theorem sized_append {a b : List ByteArray} : Sized (a ++ b) ↔ Sized a ∧ Sized b := by
  simp only [Sized, List.mem_append]
  constructor
  · intro h; exact ⟨fun x hx => h x (.inl hx), fun x hx => h x (.inr hx)⟩
  · rintro ⟨h1, h2⟩ x (hx | hx)
    · exact h1 x hx
    · exact h2 x hx

theorem good_append {a b : List ByteArray} : Pcs (a ++ b) ↔ Pcs a ∧ Pcs b ∧ (a ≠ [] → b ≠ [] → 64 < lastLen a + firstLen b) := by
  simp only [Pcs, sized_append, adj_append]
  constructor
  · rintro ⟨⟨h1, h2⟩, h3, h4, h5⟩; exact ⟨⟨h1, h3⟩, ⟨h2, h4⟩, h5⟩
  · rintro ⟨⟨h1, h3⟩, ⟨h2, h4⟩, h5⟩; exact ⟨⟨h1, h2⟩, h3, h4, h5⟩

theorem good_nil : Pcs [] := ⟨by simp [Sized], trivial⟩
theorem good_one {x : ByteArray} (h1 : 1 ≤ x.size) (h2 : x.size ≤ 64) : Pcs [x] := ⟨by simp [Sized, h1, h2], trivial⟩

theorem T.size_node (b : Nat) (own : ByteArray) (p : Int) (l r : T) : (T.node b own p l r).size = l.size + (own.size + r.size) := by
  simp [T.size, T.text]

theorem T.size_owns {t : T} {l : List ByteArray} (h : t.owns = l) : t.size = (join l).length := by rw [T.size, T.text_owns, h]
theorem T.size_join (t : T) : t.size = (join t.owns).length := T.size_owns rfl
theorem T.size_two {t a b : T} (h : t.owns = a.owns ++ b.owns) : t.size = a.size + b.size := by
  rw [T.size_owns h, join_append, List.length_append, ← T.size_join, ← T.size_join]

/-- t is what merge makes of a and b. -/
structure Merged (a b t : T) : Prop where
  owns : t.owns = a.owns ++ b.owns
  blocks : t.blocks.Perm (a.blocks ++ b.blocks)
  heap : a.Heap → b.Heap → t.Heap
  le : ∀ p, a.Le p → b.Le p → t.Le p

theorem T.Le.mono {t : T} {p q : Int} (h : t.Le p) (hq : p ≤ q) : t.Le q := by
  cases t with
  | nil => trivial
  | node => exact Int.le_trans h hq
theorem Merged.nil_left (b : T) : Merged .nil b b := ⟨rfl, List.Perm.refl _, fun _ h => h, fun _ _ h => h⟩
theorem Merged.nil_right (a : T) : Merged a .nil a := ⟨by simp [T.owns], by simp [T.blocks], fun h _ => h, fun _ h _ => h⟩
theorem Merged.right {ba bb : Nat} {oa ob : ByteArray} {pa pb : Int} {la ra lb rb t : T} (h : Merged ra (.node bb ob pb lb rb) t) (hp : pb ≤ pa) : Merged (.node ba oa pa la ra) (.node bb ob pb lb rb) (.node ba oa pa la t) := by
  refine ⟨?_, ?_, ?_, fun q h1 _ => h1⟩
  · simp only [T.owns]; rw [h.owns]; simp [T.owns]
  · have := h.blocks
    rw [show (T.node ba oa pa la t).blocks = ba :: (la.blocks ++ t.blocks) from rfl, show (T.node ba oa pa la ra).blocks = ba :: (la.blocks ++ ra.blocks) from rfl, List.cons_append, List.append_assoc]
    exact List.Perm.cons _ (List.Perm.append_left _ this)
  · rintro ⟨h1, h2, h3, h4⟩ hb
    exact ⟨h1, h.le pa h2 hp, h3, h.heap h4 hb⟩
theorem Merged.left {ba bb : Nat} {oa ob : ByteArray} {pa pb : Int} {la ra lb rb t : T} (h : Merged (.node ba oa pa la ra) lb t) (hp : pa ≤ pb) : Merged (.node ba oa pa la ra) (.node bb ob pb lb rb) (.node bb ob pb t rb) := by
  refine ⟨?_, ?_, ?_, fun q _ h2 => h2⟩
  · simp only [T.owns]; rw [h.owns]; simp [T.owns]
  · have := h.blocks
    rw [show (T.node bb ob pb t rb).blocks = bb :: (t.blocks ++ rb.blocks) from rfl, show (T.node bb ob pb lb rb).blocks = bb :: (lb.blocks ++ rb.blocks) from rfl]
    refine (List.Perm.cons _ (List.Perm.append_right _ this)).trans ?_
    rw [List.append_assoc]
    exact List.perm_middle.symm
  · rintro ha ⟨h1, h2, h3, h4⟩
    exact ⟨h.le pb hp h1, h2, h.heap ha h3, h4⟩

/-- t, parted in two. -/
structure Parted (t l r : T) : Prop where
  owns : t.owns = l.owns ++ r.owns
  blocks : (l.blocks ++ r.blocks).Perm t.blocks
  heap : t.Heap → l.Heap ∧ r.Heap
  le : t.Heap → ∀ p, t.Le p → l.Le p ∧ r.Le p
theorem Parted.nil : Parted .nil .nil .nil := ⟨rfl, List.Perm.refl _, fun h => ⟨h, h⟩, fun _ _ h => ⟨h, h⟩⟩
theorem Parted.right {b : Nat} {own : ByteArray} {p : Int} {tl tr l r : T} (h : Parted tr l r) : Parted (.node b own p tl tr) (.node b own p tl l) r := by
  refine ⟨by simp [T.owns, h.owns], ?_, ?_, ?_⟩
  · show (b :: (tl.blocks ++ l.blocks) ++ r.blocks).Perm (b :: (tl.blocks ++ tr.blocks))
    rw [List.cons_append, List.append_assoc]
    exact List.Perm.cons _ (List.Perm.append_left _ h.blocks)
  · rintro ⟨h1, h2, h3, h4⟩
    exact ⟨⟨h1, (h.le h4 p h2).1, h3, (h.heap h4).1⟩, (h.heap h4).2⟩
  · rintro ⟨h1, h2, h3, h4⟩ q hq
    exact ⟨hq, (h.le h4 p h2).2.mono hq⟩
theorem Parted.left {b : Nat} {own : ByteArray} {p : Int} {tl tr l r : T} (h : Parted tl l r) : Parted (.node b own p tl tr) l (.node b own p r tr) := by
  refine ⟨by simp [T.owns, h.owns], ?_, ?_, ?_⟩
  · show (l.blocks ++ b :: (r.blocks ++ tr.blocks)).Perm (b :: (tl.blocks ++ tr.blocks))
    refine List.perm_middle.trans (List.Perm.cons _ ?_)
    rw [← List.append_assoc]
    exact List.Perm.append_right _ h.blocks
  · rintro ⟨h1, h2, h3, h4⟩
    exact ⟨(h.heap h3).1, ⟨(h.le h3 p h1).2, h2, (h.heap h3).2, h4⟩⟩
  · rintro ⟨h1, h2, h3, h4⟩ q hq
    exact ⟨(h.le h3 p h1).1.mono hq, hq⟩
theorem Parted.size {t l r : T} (h : Parted t l r) : t.size = l.size + r.size := T.size_two h.owns

theorem firstLen_append {a b : List ByteArray} (h : a ≠ []) : firstLen (a ++ b) = firstLen a := by
  cases a with
  | nil => exact absurd rfl h
  | cons => rfl

/-- Where ends, begins part it. -/
def EndsAt (a : Int) (l r : T) : Prop := (l.size : Int) ≤ a ∧ (r.owns = [] ∨ a < l.size + firstLen r.owns)
def BeginsAt (a : Int) (l r : T) : Prop := (r.owns = [] ∨ a ≤ l.size) ∧ (l.owns = [] ∨ (l.size : Int) - lastLen l.owns < a)

theorem T.size_of_owns {t u : T} (h : t.owns = u.owns) : t.size = u.size := by rw [T.size_join, T.size_join, h]

theorem EndsAt.nil {a : Int} (h : 0 ≤ a) : EndsAt a .nil .nil := ⟨by simpa [T.size, T.text] using h, .inl rfl⟩
theorem EndsAt.right {b : Nat} {own : ByteArray} {p : Int} {tl l r : T} {a : Int} (h : EndsAt (a - (tl.size + own.size)) l r) : EndsAt a (.node b own p tl l) r := by
  obtain ⟨h1, h2⟩ := h
  have e := T.size_node b own p tl l
  refine ⟨by omega, h2.imp id (fun h => ?_)⟩
  omega
theorem EndsAt.left {b : Nat} {own : ByteArray} {p : Int} {tl tr l r : T} {a : Int} (h : EndsAt a l r) (hp : Parted tl l r) (ha : a < tl.size + own.size) : EndsAt a l (.node b own p r tr) := by
  obtain ⟨h1, h2⟩ := h
  refine ⟨h1, .inr ?_⟩
  by_cases hr : r.owns = []
  · have e : tl.size = l.size := T.size_of_owns (by rw [hp.owns, hr, List.append_nil])
    simp only [T.owns, hr, List.nil_append, firstLen]
    omega
  · have h3 := h2.resolve_left hr
    simp only [T.owns]
    rw [firstLen_append hr]; exact h3

theorem BeginsAt.nil {a : Int} : BeginsAt a .nil .nil := ⟨.inl rfl, .inl rfl⟩
theorem BeginsAt.right {b : Nat} {own : ByteArray} {p : Int} {tl l r : T} {a : Int} (h : BeginsAt (a - tl.size - own.size) l r) (ha : (tl.size : Int) < a) : BeginsAt a (.node b own p tl l) r := by
  obtain ⟨h1, h2⟩ := h
  have e := T.size_node b own p tl l
  refine ⟨h1.imp id (fun h => by omega), .inr ?_⟩
  simp only [T.owns]
  cases hl : l.owns with
  | nil =>
    rw [lastLen_single]
    have : l.size = 0 := by rw [T.size_join, hl]; rfl
    omega
  | cons x q =>
    rw [lastLen_append_cons, lastLen_cons_cons]
    rw [hl] at h2
    have h3 := h2.resolve_left (by simp)
    omega
theorem BeginsAt.left {b : Nat} {own : ByteArray} {p : Int} {tl tr l r : T} {a : Int} (h : BeginsAt a l r) (hp : Parted tl l r) (ha : a ≤ tl.size) : BeginsAt a l (.node b own p r tr) := by
  obtain ⟨h1, h2⟩ := h
  refine ⟨.inr ?_, h2⟩
  rcases h1 with h1 | h1
  · have e : tl.size = l.size := T.size_of_owns (by rw [hp.owns, h1, List.append_nil])
    omega
  · exact h1

end Go.Gim

/- A region that draws its order: what only reads comes first, in one walk of the text's order; what stands at its end in a forced order is walked as ever. Conditions: none. -/
namespace Go.Gim
open Go.RowKit

theorem Oper.still_of_quiet {P : Program} {o : Oper} {a : Act} {w : World} {K K' : Act → Prop} (hK : ∀ a, K a → K' a) (h : o.quiet P a (fun w' => ∃ _ : Unit, w' = w) K) : o.still P a w K' := by
  obtain ⟨v, h1, h2⟩ := h
  have h3 := h1 w ⟨(), rfl⟩
  unfold Oper.quietAt at h3
  unfold Oper.still
  generalize (execOp a.eval o).run P w = r at *
  cases r with
  | ok n w' =>
    cases n <;> simp only [Oper.quietUpon] at h3 <;> simp only [Oper.stillUpon]
    case value u => exact ⟨h3.1, by rw [h3.2]; exact hK _ h2⟩
    case skip => exact ⟨h3.1, by rw [← h3.2]; exact hK _ h2⟩
    case enter f args => exact ⟨h3.1, v, h3.2.mono fun e w'' ⟨he, _, hw⟩ => ⟨he, hw⟩, hK _ h2⟩
  | halt x w' => simp only [Oper.quietUpon] at h3

theorem wpStill_of_quiet {P : Program} {ops : Array Oper} {w : World} {Q : Act → Prop} : ∀ (l : List Oper) (a : Act), wpQuiet P ops (fun w' => ∃ _ : Unit, w' = w) Q l a → wpStill P ops w Q l a
  | [], a, h => h
  | o :: rest, a, h => by
    unfold wpQuiet at h
    unfold wpStill
    split
    · rename_i hw; rw [if_pos hw] at h; exact Oper.still_of_quiet (fun a' h' => wpStill_of_quiet rest a' h') h
    · rename_i hw; rw [if_neg hw] at h; exact wpStill_of_quiet rest _ h

/-- The first n operations only read (their callees leave the world as it is); those behind them come in the text's order. -/
theorem wp_region_quiet_tail {P : Program} {id : Nat} {Q : Exit → Act → World → Prop} {a : Act} {w : World} {l : List Oper} (n : Nat) (hm : P.follows .mixedOrders = true) (hB : Region.lexTailB .any l.toArray n = true)
    (h : wpQuiet P l.toArray (fun w' => ∃ _ : Unit, w' = w.drew) (fun a' => wpList P l.toArray Q (l.drop n) a' w.drew) (l.take n) a) : (Code.region id l.toArray true).wp P Q a w :=
  wp_region_still_tail n hm hB (wpStill_of_quiet _ _ h)

theorem Calls.still_of {P : Program} {f : FuncId} {args : Array Value} {w : World} {v : Value}
    (h : Calls P f args w fun e w' => e = .returned v ∧ w' = w) : Calls P f args w fun e w'' => e = .returned v ∧ ∃ _ : Unit, w'' = w :=
  h.mono fun _ _ ⟨he, hm⟩ => ⟨he, (), hm⟩

end Go.Gim

/- A row of bytes that a conversion of a string has made, written in place and turned back into a string. Conditions: none. -/
namespace Go.Gim
open Go.RowKit

/-- The block g begins with these bytes, none of them frozen. -/
def BytesAt (w : World) (g : Nat) (l : List UInt8) : Prop :=
  ∃ (C : Array Value) (e : TypeId) (lo hi : Nat), w.heap[g]? = some (.cells C e (lo, hi)) ∧ l.length ≤ lo ∧ ∀ j (h : j < l.length), C[j]? = some (.int .u8 (l[j].toNat : Int))

theorem BytesAt.cell {w : World} {g : Nat} {l : List UInt8} (h : BytesAt w g l) (j : Nat) (hj : j < l.length) : w.cell? ⟨g, j, none⟩ = some (.int .u8 (l[j].toNat : Int)) := by
  obtain ⟨C, e, lo, hi, hg, _, hc⟩ := h
  simp [World.cell?, hg, hc j hj]
theorem BytesAt.free {w : World} {g : Nat} {l : List UInt8} (h : BytesAt w g l) (j : Nat) (hj : j < l.length) : w.frozen? ⟨g, j, none⟩ = false := by
  obtain ⟨C, e, lo, hi, hg, hl, _⟩ := h
  simp [World.frozen?, hg]; omega
theorem BytesAt.set {w : World} {g : Nat} {l : List UInt8} (h : BytesAt w g l) (j : Nat) (c : UInt8) : BytesAt (w.setCell ⟨g, j, none⟩ (.int .u8 (c.toNat : Int))) g (l.set j c) := by
  obtain ⟨C, e, lo, hi, hg, hl, hc⟩ := h
  refine ⟨C.setIfInBounds j (.int .u8 (c.toNat : Int)), e, lo, hi, ?_, by simpa using hl, ?_⟩
  · simp only [World.setCell, Array.getElem?_modify, hg, Option.map_some, Option.isSome_none, Bool.false_eq_true, if_false, if_true]
  · intro i hi'
    have hi2 : i < l.length := by simpa using hi'
    rw [List.getElem_set, Array.getElem?_setIfInBounds]
    by_cases e1 : j = i
    · subst e1
      have := hc j hi2
      have hs : j < C.size := (Array.getElem?_eq_some_iff.1 this).1
      simp [hs]
    · simp only [if_neg e1]; exact hc i hi2
theorem BytesAt.mod {S : Nat → Prop} {w w' : World} {g : Nat} {l : List UInt8} (h : BytesAt w g l) (hm : Mod S w w') (hS : ¬ S g) : BytesAt w' g l := by
  obtain ⟨C, e, lo, hi, hg, hl, hc⟩ := h
  exact ⟨C, e, lo, hi, (hm.block g (Array.getElem?_eq_some_iff.1 hg).1 hS).trans hg, hl, hc⟩
theorem BytesAt.new (w : World) (e : TypeId) (s : ByteArray) : BytesAt (Lib.bytesWorld w e s) w.heap.size s.data.toList := by
  refine ⟨_, _, _, _, Lib.bytesWorld_at_new w e s, ?_, fun j hj => ?_⟩
  · simp [Lib.bytesCells]
  · have hj' : j < s.size := hj
    simp [Lib.bytesCells, Array.getElem?_append, hj']
theorem bytesWorld_ext (w : World) (e : TypeId) (s : ByteArray) : Ext w (Lib.bytesWorld w e s) := by
  refine ⟨?_, ?_, ?_, by rw [Lib.bytesWorld_size]; omega, fun k hk _ => Lib.bytesWorld_at_old w e s k hk⟩ <;>
    (simp only [Lib.bytesWorld, World.freeze]; split <;> rfl)
theorem BytesAt.back {P : Program} {w : World} {g : Nat} {l : List UInt8} (h : BytesAt w g l) (src dst e : TypeId) (n cap : Nat) (hn : l.length = n) (hs : P.underlying src = some (.slice e)) (he : P.underlying e = some (.int .u8)) (hd : P.underlying dst = some .string) :
    (convert src dst (.slice (some ⟨g, 0, none⟩) n cap)).run P w = .ok (.string (bs l)) w := by
  subst hn
  refine Go.run_convert_bytes_back w src dst e ⟨g, 0, none⟩ cap l hs he hd (fun j hj => ?_)
  have e1 : (⟨g, 0, none⟩ : Addr).add j = ⟨g, j, none⟩ := by unfold Addr.add; split <;> simp_all
  rw [e1]; exact h.cell j hj

end Go.Gim

/- Stretches of a list, and of a tree's text: plain facts. Conditions: none. -/
namespace Go.Gim

/-- The stretch from f up to t. -/
def cut {α : Type} (l : List α) (f t : Int) : List α := (l.take t.toNat).drop f.toNat

theorem cut_len {α : Type} (l : List α) (f t : Int) : (cut l f t).length = min t.toNat l.length - f.toNat := by simp [cut]
theorem cut_none {α : Type} (l : List α) (f t : Int) (h : t ≤ f) : cut l f t = [] := by
  apply List.eq_nil_of_length_eq_zero; rw [cut_len]; omega
theorem cut_out {α : Type} (l : List α) (f t : Int) (h : (l.length : Int) ≤ f) : cut l f t = [] := by
  apply List.eq_nil_of_length_eq_zero; rw [cut_len]; omega
theorem cut_all {α : Type} (l : List α) : cut l 0 l.length = l := by simp [cut]
theorem cut_append {α : Type} (a b : List α) (f t : Int) (hf : 0 ≤ f) : cut (a ++ b) f t = cut a f t ++ cut b (f - a.length) (t - a.length) := by
  unfold cut
  rw [List.take_append, List.drop_append, List.length_take]
  congr 1
  rw [show (t - (a.length : Int)).toNat = t.toNat - a.length from by omega]
  by_cases h : t.toNat ≤ a.length
  · rw [show t.toNat - a.length = 0 from by omega]; simp
  · congr 1; omega
theorem cut_to {α : Type} (l : List α) (f t u : Int) (h : min t l.length = min u l.length) (h0 : 0 ≤ t) (h1 : 0 ≤ u) : cut l f t = cut l f u := by
  unfold cut
  congr 1
  by_cases h2 : t.toNat ≤ l.length
  · by_cases h3 : u.toNat ≤ l.length
    · congr 1; omega
    · rw [List.take_of_length_le (by omega), List.take_of_length_le (by omega)]
  · rw [List.take_of_length_le (by omega), List.take_of_length_le (by omega)]
theorem cut_from {α : Type} (l : List α) (f g t : Int) (h : f.toNat = g.toNat) : cut l f t = cut l g t := by unfold cut; rw [h]
theorem cut_cut {α : Type} (l : List α) (a b f t : Int) (h0 : 0 ≤ a) (h1 : 0 ≤ f) (h2 : a + t ≤ b) (h3 : 0 ≤ t) : cut (cut l a b) f t = cut l (a + f) (a + t) := by
  unfold cut
  rw [List.take_drop, List.drop_drop, List.take_take]
  rw [show (a + f).toNat = a.toNat + f.toNat from by omega]
  congr 2
  omega

/-- What lay lays in a node: to the left, itself, to the right. -/
theorem cut_node (L O R : List UInt8) (f t : Int) (hf : 0 ≤ f) :
    cut (L ++ (O ++ R)) f t = cut L f t ++ (cut O (f - L.length) (t - L.length) ++ cut R (f - (L.length + O.length)) (t - (L.length + O.length))) := by
  rw [cut_append _ _ _ _ hf]
  congr 1
  by_cases h : (L.length : Int) ≤ f
  · rw [cut_append _ _ _ _ (by omega)]
    congr 2 <;> omega
  · rw [cut_from (O ++ R) _ 0 _ (by omega), cut_append _ _ _ _ (by omega), cut_from O (f - L.length) 0 _ (by omega)]
    congr 1
    rw [cut_from R (0 - (O.length : Int)) (f - (L.length + O.length)) _ (by omega)]
    congr 1; omega

theorem cut_neg {α : Type} (l : List α) (f t : Int) (h : t ≤ 0) : cut l f t = [] := by
  apply List.eq_nil_of_length_eq_zero; rw [cut_len]; omega
theorem take_drop_cut {α : Type} (l : List α) (i j : Nat) (f t : Int) (hf : f.toNat = i) (ht : t.toNat = j) : (l.drop i).take (j - i) = cut l f t := by
  unfold cut
  rw [hf, ht, List.drop_take]
theorem extract_cut (s : ByteArray) (i j : Nat) (f t : Int) (hf : f.toNat = i) (ht : t.toNat = j) : (s.extract i j).data.toList = cut s.data.toList f t := by
  unfold cut
  rw [ByteArray.data_extract, hf, ht]
  simp [List.extract_eq_take_drop, List.drop_take]

end Go.Gim

/- Append to a slice of the call's own, from a slice that is read (nil or not), from a string, of single values: one law each, in this claim's words. Conditions: none. -/
namespace Go.Gim
open Go.RowKit Go.Lib

theorem run_append_own_nothing {P : Program} {w : World} (base : Nat) (t ty e : TypeId) (i : TypeInfo) (size : Nat) (ht : P.underlying t = some (.slice e)) (hi : P.info? e = some i)
    (v : Value) (n : Nat) (xs : List Value) (hown : w.ownsRow base e size v n xs) (c : Nat) :
    (Builtin.append_ #[t, t] ty #[v, .slice none 0 c]).run P w = .ok v w := by
  rcases hown.2 with ⟨rfl, rfl⟩ | ⟨g, cap, cur, rfl, _, _, hnc, _⟩
  · simp [Builtin.append_, run_underlying ht, sizeOf, typeInfo, hi, Builtin.lenOf, Builtin.firstCells]
  · simp [Builtin.append_, run_underlying ht, sizeOf, typeInfo, hi, Builtin.lenOf, Builtin.firstCells, hnc, storeCells]

theorem ownsRow_base {w : World} {b b' : Nat} {e : TypeId} {size : Nat} {v : Value} {n : Nat} {xs : List Value} (h : w.ownsRow b e size v n xs) (hb : b' ≤ b) : w.ownsRow b' e size v n xs := by
  refine ⟨h.1, ?_⟩
  rcases h.2 with hn | ⟨g, cap, cur, hv, hg, rest⟩
  · exact .inl hn
  · exact .inr ⟨g, cap, cur, hv, Nat.le_trans hb hg, rest⟩

/-- An own row is still there, with what it holds, where its block has not changed. -/
theorem ownsRow_mod {S : Nat → Prop} {w w' : World} {base : Nat} {e : TypeId} {size : Nat} {v : Value} {n : Nat} {xs : List Value} (h : w.ownsRow base e size v n xs) (hm : Mod S w w') (hS : ∀ k, v.ownBlock = some k → ¬ S k) : w'.ownsRow base e size v n xs := by
  refine ⟨h.1, ?_⟩
  rcases h.2 with hn | ⟨g, cap, cur, hv, hb, hg, rest⟩
  · exact .inl hn
  · exact .inr ⟨g, cap, cur, hv, hb, (hm.block g (Array.getElem?_eq_some_iff.1 hg).1 (hS g (by rw [hv]; rfl))).trans hg, rest⟩

theorem own_new {w w' : World} {e : TypeId} {size : Nat} {v : Value} {n : Nat} {xs : List Value} (h : w'.ownsRow w.heap.size e size v n xs) : ∀ k, v.ownBlock = some k → w.heap.size ≤ k :=
  fun k hk => (h.lt k hk).1

theorem run_append_reads {P : Program} {w : World} (t ty : TypeId)
    (base : Nat) (e : TypeId) (z : Value) (size bytes : Nat) (hinfo : (P.info? e).map (fun i => (i.zero, i.size, i.bytes)) = some (some z, size, bytes)) (ht : P.underlying t = some (.slice e))
    (hzs : z.cells.size = size) (hsz : 0 < size)
    (v : Value) (n : Nat) (xs : List Value) (hown : w.ownsRow base e size v n xs)
    (ao : Option Addr) (m c : Nat) (news : List Value) (hr : Reads w size ao m news) (h1 : ∀ u ∈ news, u.oneCell' = true)
    (h63 : n + m ≤ maxLen) (hbytes : (n + m) * bytes ≤ 140737488355328) (hbase : base ≤ w.heap.size) :
    ∃ v' w', (Builtin.append_ #[t, t] ty #[v, .slice ao m c]).run P w = .ok v' w' ∧ w'.ownsRow base e size v' (n + m) (xs ++ news) ∧ Mod (fun k => v.ownBlock = some k) w w' ∧ (v'.ownBlock = v.ownBlock ∨ ∀ k, v'.ownBlock = some k → w.heap.size ≤ k) := by
  obtain ⟨i, hi, hz, hsize, hby⟩ := info_parts hinfo
  cases ao with
  | none =>
    obtain ⟨hr1, hr2⟩ := hr
    have hm : m = 0 := by
      rcases Nat.eq_zero_or_pos m with h0 | h0
      · exact h0
      · obtain ⟨b, off, he, _⟩ := hr2 h0; cases he
    subst hm
    have hnews : news = [] := List.eq_nil_of_length_eq_zero (by simpa using hr1)
    subst hnews
    exact ⟨v, w, run_append_own_nothing (P := P) (w := w) base t ty e i size ht hi v n xs hown c, by simpa using hown, Mod.refl _ _, .inl rfl⟩
  | some ad =>
    have hc : ∀ j u, news[j]? = some u → w.cell? (ad.add j) = some u := by
      intro j u hj
      have hl : j < news.length := (List.getElem?_eq_some_iff.1 hj).1
      obtain ⟨b, off, he, hc⟩ := hr.2 (by rcases Nat.eq_zero_or_pos m with h0 | h0; · rw [hr.1, h0] at hl; simp at hl
                                          · exact h0)
      cases he
      exact Reads.adds hc j u hj
    rcases hown.2 with ⟨hv, hn⟩ | ⟨g, cap, cur, hv, _, _, hnc, _⟩
    · by_cases hm : m = 0
      · obtain ⟨v', w', hrun, k1, k2, k3⟩ := run_append_own (P := P) w base t ty e i z size bytes ht hi hz hsize hby hzs hsz v n xs hown ad m c news hr.1 hc h1 h63 hbytes hbase
        exact ⟨v', w', hrun, k1, (Mod.refl _ w).grown k2 (fun k hk _ => hk), .inl (by rw [k3.2 ⟨hv, hm⟩, hv])⟩
      · subst hv
        subst hn
        have hxs : xs = [] := List.eq_nil_of_length_eq_zero (by simpa using hown.1)
        subst hxs
        obtain ⟨v', w', hrun, k1, k2, _⟩ := run_append_own (P := P) w w.heap.size t ty e i z size bytes ht hi hz hsize hby hzs hsz (.slice none 0 0) 0 [] (World.ownsRow_nil w _ e size) ad m c news hr.1 hc h1 h63 hbytes (Nat.le_refl _)
        exact ⟨v', w', hrun, ownsRow_base k1 hbase, (Mod.refl _ w).grown k2 (fun k hk => by cases hk), .inr (own_new k1)⟩
    · subst hv
      by_cases hroom : n + m ≤ cap
      · obtain ⟨w', hrun, k1, k2⟩ := run_append_fits (P := P) w base t ty e i size ht hi hsize g n cap xs hown ad m c news hr.1 hc h1 hroom
        exact ⟨_, w', hrun, k1, (Mod.refl _ w).grown k2 (fun k hk _ => hk), .inl rfl⟩
      · obtain ⟨v', w', hrun, k1, k2⟩ := run_append_arg_grows (P := P) w t ty e i z size bytes ht hi hz hsize hby hzs hsz ⟨g, 0, none⟩ n cap xs hown.1 (hown.cells (g := g) rfl) ad m c news hr.1 hc (by omega) h63 hbytes
        exact ⟨v', w', hrun, ownsRow_base k1 hbase, (Mod.refl _ w).grown k2 (fun k hk => by cases hk), .inr (own_new k1)⟩

/-- 'append(s, x...)': s the call's own, x any slice that is read. -/
theorem wpList_append_reads {P : Program} {w : World} {ops : Array Oper} {rest : List Oper} {o : Oper} {a : Act} {Q : Exit → Act → World → Prop} (hgd : o.guard = none) (s x : Operand) (t : TypeId)
    (ho : o.op = .call { callee := .builtin .append, args := #[s, x], argTypes := #[t, t] })
    (base : Nat) (e : TypeId) (z : Value) (size bytes : Nat) (hinfo : (P.info? e).map (fun i => (i.zero, i.size, i.bytes)) = some (some z, size, bytes)) (ht : P.underlying t = some (.slice e))
    (hzs : z.cells.size = size) (hsz : 0 < size)
    (v : Value) (n : Nat) (xs : List Value) (hs : a.eval s = v) (hown : w.ownsRow base e size v n xs)
    (ao : Option Addr) (m c : Nat) (news : List Value) (hx : a.eval x = .slice ao m c) (hr : Reads w size ao m news) (h1 : ∀ u ∈ news, u.oneCell' = true)
    (h63 : n + m ≤ maxLen) (hbytes : (n + m) * bytes ≤ 140737488355328) (hbase : base ≤ w.heap.size)
    (h : ∀ v' w', w'.ownsRow base e size v' (n + m) (xs ++ news) → Mod (fun k => v.ownBlock = some k) w w' → (v'.ownBlock = v.ownBlock ∨ ∀ k, v'.ownBlock = some k → w.heap.size ≤ k) → wpList P ops Q rest (a.put o.dst v') w') : wpList P ops Q (o :: rest) a w := by
  refine wpList_plain hgd fun K hK => ?_
  obtain ⟨v', w', hrun, k1, k2, k3⟩ := run_append_reads (P := P) (w := w) t o.type base e z size bytes hinfo ht hzs hsz v n xs hown ao m c news hr h1 h63 hbytes hbase
  unfold Oper.wp
  simp [execOp, ho, resolve, invoke, builtin, hs, hx, hrun, Result.andThen]
  exact hK _ _ (h v' w' k1 k2 k3)

/-- The same as one step of a region that draws its order. -/
theorem step_append_reads {P : Program} {w : World} {ops : Array Oper} {o : Oper} {a : Act} {K : Act → World → Prop} {Q : Exit → Act → World → Prop} {E : Prop} (hgd : o.guard = none) (s x : Operand) (t : TypeId)
    (ho : o.op = .call { callee := .builtin .append, args := #[s, x], argTypes := #[t, t] })
    (base : Nat) (e : TypeId) (z : Value) (size bytes : Nat) (hinfo : (P.info? e).map (fun i => (i.zero, i.size, i.bytes)) = some (some z, size, bytes)) (ht : P.underlying t = some (.slice e))
    (hzs : z.cells.size = size) (hsz : 0 < size)
    (v : Value) (n : Nat) (xs : List Value) (hs : a.eval s = v) (hown : w.ownsRow base e size v n xs)
    (ao : Option Addr) (m c : Nat) (news : List Value) (hx : a.eval x = .slice ao m c) (hr : Reads w size ao m news) (h1 : ∀ u ∈ news, u.oneCell' = true)
    (h63 : n + m ≤ maxLen) (hbytes : (n + m) * bytes ≤ 140737488355328) (hbase : base ≤ w.heap.size)
    (h : ∀ v' w', w'.ownsRow base e size v' (n + m) (xs ++ news) → Mod (fun k => v.ownBlock = some k) w w' → (v'.ownBlock = v.ownBlock ∨ ∀ k, v'.ownBlock = some k → w.heap.size ≤ k) → K (a.put o.dst v') w') :
    if Region.wanted o (yielded ops a.tmps) = true then Oper.wp P o a w K Q else E := by
  have hw : Region.wanted o (yielded ops a.tmps) = true := by simp [Region.wanted, hgd]
  rw [if_pos hw]
  obtain ⟨v', w', hrun, k1, k2, k3⟩ := run_append_reads (P := P) (w := w) t o.type base e z size bytes hinfo ht hzs hsz v n xs hown ao m c news hr h1 h63 hbytes hbase
  unfold Oper.wp
  simp [execOp, ho, resolve, invoke, builtin, hs, hx, hrun, Result.andThen]
  exact h v' w' k1 k2 k3

/-- 'append(b, s...)': b the call's own bytes, s a string. -/
theorem wpList_append_str {P : Program} {w : World} {ops : Array Oper} {rest : List Oper} {o : Oper} {a : Act} {Q : Exit → Act → World → Prop} (hgd : o.guard = none) (sl x : Operand) (t u : TypeId)
    (ho : o.op = .call { callee := .builtin .append, args := #[sl, x], argTypes := #[t, u] })
    (base : Nat) (e : TypeId) (hinfo : (P.info? e).map (fun i => (i.zero, i.size, i.bytes)) = some (some (.int .u8 0), 1, 1)) (ht : P.underlying t = some (.slice e)) (hu : P.underlying u = some .string)
    (v : Value) (n : Nat) (xs : List Value) (hs : a.eval sl = v) (hown : w.ownsRow base e 1 v n xs) (s : ByteArray) (hx : a.eval x = .string s)
    (h63 : n + s.size ≤ 1000000000) (hbase : base ≤ w.heap.size)
    (h : ∀ v' w', w'.ownsRow base e 1 v' (n + s.size) (xs ++ strCells s) → Mod (fun k => v.ownBlock = some k) w w' → wpList P ops Q rest (a.put o.dst v') w') : wpList P ops Q (o :: rest) a w := by
  obtain ⟨i, hi, hz, hsize, hby⟩ := info_parts hinfo
  refine wpList_append_own_string w hgd sl x t u ho base e i ht hu hi hz hsize hby v n xs hs hown s hx (by unfold maxLen; omega) (by omega) hbase fun v' w' k1 k2 _ => ?_
  exact h v' w' k1 ((Mod.refl _ w).grown k2 (fun k hk _ => hk))
/-- The same as one step of a region that draws its order. -/
theorem step_append_str {P : Program} {w : World} {ops : Array Oper} {o : Oper} {a : Act} {K : Act → World → Prop} {Q : Exit → Act → World → Prop} {E : Prop} (hgd : o.guard = none) (sl x : Operand) (t u : TypeId)
    (ho : o.op = .call { callee := .builtin .append, args := #[sl, x], argTypes := #[t, u] })
    (base : Nat) (e : TypeId) (hinfo : (P.info? e).map (fun i => (i.zero, i.size, i.bytes)) = some (some (.int .u8 0), 1, 1)) (ht : P.underlying t = some (.slice e)) (hu : P.underlying u = some .string)
    (v : Value) (n : Nat) (xs : List Value) (hs : a.eval sl = v) (hown : w.ownsRow base e 1 v n xs) (s : ByteArray) (hx : a.eval x = .string s)
    (h63 : n + s.size ≤ 1000000000) (hbase : base ≤ w.heap.size)
    (h : ∀ v' w', w'.ownsRow base e 1 v' (n + s.size) (xs ++ strCells s) → Mod (fun k => v.ownBlock = some k) w w' → K (a.put o.dst v') w') :
    if Region.wanted o (yielded ops a.tmps) = true then Oper.wp P o a w K Q else E := by
  have hw : Region.wanted o (yielded ops a.tmps) = true := by simp [Region.wanted, hgd]
  rw [if_pos hw]
  obtain ⟨i, hi, hz, hsize, hby⟩ := info_parts hinfo
  obtain ⟨v', w', hr, h2, h3, h4⟩ := run_append_own_string (P := P) w base t u o.type e i ht hu hi hz hsize hby v n xs hown s (by unfold maxLen; omega) (by omega) hbase
  unfold Oper.wp
  simp [execOp, ho, resolve, invoke, builtin, hs, hx, hr, Result.andThen]
  exact h v' w' h2 ((Mod.refl _ w).grown h3 (fun k hk _ => hk))

end Go.Gim

/- The plain law of weld: which pieces stand beside each other. No program in sight. Conditions: none. -/
namespace Go.Gim

/-- The text between is held against what is ahead: nothing there, or together too long; likewise behind. -/
def Ahead (a : List ByteArray) (m : List UInt8) : Prop := a = [] ∨ 64 < lastLen a + min 64 m.length
def Behind (m : List UInt8) (b : List ByteArray) : Prop := b = [] ∨ 64 < (m.length - 1) % 64 + 1 + firstLen b
def Meet (a b : List ByteArray) : Prop := a = [] ∨ b = [] ∨ 64 < lastLen a + firstLen b
/-- What holds at each round of weld. -/
structure J (a : List ByteArray) (m : List UInt8) (b : List ByteArray) : Prop where
  ga : Pcs a
  gb : Pcs b
  none : m = [] → Meet a b
  ahead : m ≠ [] → Ahead a m
  behind : m ≠ [] → Behind m b

theorem J.done {a b : List ByteArray} (h : J a [] b) : Pcs (a ++ b) := by
  refine good_append.2 ⟨h.ga, h.gb, fun ha hb => ?_⟩
  rcases h.none rfl with e | e | e
  · exact absurd e ha
  · exact absurd e hb
  · exact e

theorem J.step {a b : List ByteArray} {m : List UInt8} (h : J a m b) (hm : m ≠ []) (x : ByteArray) (hx : x.data.toList = m.take 64) : J (a ++ [x]) (m.drop 64) b := by
  have hl : 0 < m.length := List.length_pos_iff.2 hm
  have hs : x.size = min 64 m.length := by
    have : x.data.toList.length = x.size := rfl
    rw [← this, hx, List.length_take]
  have e64 : lastLen (a ++ [x]) = min 64 m.length := by rw [lastLen_single, hs]
  refine ⟨?_, h.gb, ?_, ?_, ?_⟩
  · refine good_append.2 ⟨h.ga, good_one (by omega) (by omega), fun ha _ => ?_⟩
    rcases h.ahead hm with e | e
    · exact absurd e ha
    · simp only [firstLen]; omega
  · intro hd
    have hd' : m.length ≤ 64 := List.drop_eq_nil_iff.1 hd
    rcases h.behind hm with e | e
    · exact .inr (.inl e)
    · refine .inr (.inr ?_)
      rw [e64]; omega
  · intro hd
    have hd' : ¬ m.length ≤ 64 := fun h => hd (List.drop_eq_nil_iff.2 h)
    refine .inr ?_
    rw [e64, List.length_drop]; omega
  · intro hd
    have hd' : ¬ m.length ≤ 64 := fun h => hd (List.drop_eq_nil_iff.2 h)
    rcases h.behind hm with e | e
    · exact .inl e
    · refine .inr ?_
      rw [List.length_drop]; omega

theorem join_pos {l : List ByteArray} (h : Sized l) (hn : l ≠ []) : 1 ≤ (join l).length := by
  cases l with
  | nil => exact absurd rfl hn
  | cons x r =>
    have := (h x (by simp)).1
    have e : x.data.toList.length = x.size := rfl
    rw [join_cons, List.length_append]; omega
theorem sized_cons {x : ByteArray} {l : List ByteArray} : Sized (x :: l) ↔ (1 ≤ x.size ∧ x.size ≤ 64) ∧ Sized l := by simp [Sized]
theorem lastLen_le {l : List ByteArray} (hn : l ≠ []) : lastLen l ≤ (join l).length := by
  obtain ⟨q, x, rfl⟩ : ∃ q x, l = q ++ [x] := ⟨l.dropLast, l.getLast hn, (List.dropLast_concat_getLast hn).symm⟩
  have e : x.data.toList.length = x.size := rfl
  rw [lastLen_single, join_append, join_cons, List.length_append, List.length_append]; omega
theorem lastLen_pos {l : List ByteArray} (h : Sized l) : 1 ≤ lastLen l := by
  by_cases hn : l = []
  · subst hn; simp [lastLen]
  · obtain ⟨q, x, rfl⟩ : ∃ q x, l = q ++ [x] := ⟨l.dropLast, l.getLast hn, (List.dropLast_concat_getLast hn).symm⟩
    rw [lastLen_single]; exact (h x (by simp)).1
theorem firstLen_pos {l : List ByteArray} (h : Sized l) : 1 ≤ firstLen l := by
  cases l with
  | nil => simp [firstLen]
  | cons x r => exact (h x (by simp)).1

/-- ends at the last piece's beginning: the last piece alone stands behind. -/
theorem ends_last {t l r : T} (hp : Parted t l r) (hs : Sized t.owns) (hn : t.owns ≠ []) (h : EndsAt ((t.size : Int) - lastLen t.owns) l r) : ∃ x, r.owns = [x] ∧ x.size = lastLen t.owns := by
  have hsz := hp.size
  have h1 := lastLen_pos hs
  have h2 := lastLen_le hn
  rw [← T.size_join] at h2
  obtain ⟨h3, h4⟩ := h
  rw [hp.owns] at hs
  have hsr := (sized_append.1 hs).2
  cases hr : r.owns with
  | nil =>
    have : r.size = 0 := by rw [T.size_join, hr]; rfl
    omega
  | cons x q =>
    rw [hr] at h4 hsr
    have h5 := h4.resolve_left (by simp)
    have e : x.data.toList.length = x.size := rfl
    have h6 : r.size = x.size + (join q).length := by rw [T.size_join, hr, join_cons, List.length_append, e]
    have h7 : lastLen t.owns = lastLen (x :: q) := by rw [hp.owns, hr, lastLen_append_cons]
    cases q with
    | nil => exact ⟨x, rfl, by rw [h7]; simp [lastLen]⟩
    | cons y q' =>
      have h8 : lastLen t.owns = lastLen (y :: q') := by rw [h7, lastLen_cons_cons]
      have h9 := lastLen_le (l := y :: q') (by simp)
      simp only [firstLen] at h5
      omega

/-- begins at 1: the first piece alone stands ahead. -/
theorem begins_one {t l r : T} (hp : Parted t l r) (hs : Sized t.owns) (hn : t.owns ≠ []) (h : BeginsAt 1 l r) : ∃ x, l.owns = [x] ∧ x.size = firstLen t.owns := by
  have hsz := hp.size
  obtain ⟨h3, h4⟩ := h
  rw [hp.owns] at hs hn
  have hsl := (sized_append.1 hs).1
  cases hl : l.owns with
  | nil =>
    have : l.size = 0 := by rw [T.size_join, hl]; rfl
    rw [hl, List.nil_append] at hn
    have := h3.resolve_left hn
    omega
  | cons x q =>
    rw [hl] at h4 hsl
    have h5 := h4.resolve_left (by simp)
    have e : x.data.toList.length = x.size := rfl
    have h6 : l.size = x.size + (join q).length := by rw [T.size_join, hl, join_cons, List.length_append, e]
    have hx := (sized_cons.1 hsl).1
    cases q with
    | nil => exact ⟨x, rfl, by rw [hp.owns, hl]; rfl⟩
    | cons y q' =>
      have h8 := lastLen_le (l := y :: q') (by simp)
      rw [lastLen_cons_cons] at h5
      omega

theorem T.root_of_one {b : Nat} {own x : ByteArray} {p : Int} {l r : T} (h : (T.node b own p l r).owns = [x]) : own = x := by
  simp only [T.owns] at h
  cases hl : l.owns with
  | nil => rw [hl] at h; simp at h; exact h.1
  | cons y q => rw [hl] at h; simp at h

theorem Ahead.took {l : List ByteArray} {x : ByteArray} {m : List UInt8} (h : Pcs (l ++ [x])) (hle : x.size + m.length ≤ 64) : Ahead l (x.data.toList ++ m) ∧ Pcs l ∧ x.data.toList ++ m ≠ [] := by
  obtain ⟨h1, h2, h3⟩ := good_append.1 h
  have e : x.data.toList.length = x.size := rfl
  have hx := (h2.1 x (by simp)).1
  refine ⟨?_, h1, fun h0 => ?_⟩
  · by_cases hl : l = []
    · exact .inl hl
    · refine .inr ?_
      have := h3 hl (by simp)
      simp only [firstLen] at this
      rw [List.length_append]; omega
  · have := congrArg List.length h0
    rw [List.length_append] at this
    simp only [List.length_nil] at this
    omega
theorem Ahead.not {a : List ByteArray} {m : List UInt8} (ha : Pcs a) (h : a = [] ∨ 64 < lastLen a + m.length) : Ahead a m := by
  rcases h with h | h
  · exact .inl h
  · refine .inr ?_
    have := lastLen_pos ha.1
    omega
theorem Ahead.more {a : List ByteArray} {m k : List UInt8} (h : Ahead a m) : Ahead a (m ++ k) := by
  rcases h with h | h
  · exact .inl h
  · refine .inr ?_
    rw [List.length_append]; omega
theorem Behind.took {r : List ByteArray} {y : ByteArray} {m : List UInt8} (h : Pcs (y :: r)) (hm : m ≠ []) (hle : (m.length - 1) % 64 + 1 + y.size ≤ 64) : Behind (m ++ y.data.toList) r ∧ Pcs r := by
  have e : y.data.toList.length = y.size := rfl
  have hl : 0 < m.length := List.length_pos_iff.2 hm
  obtain ⟨h1, h2, h3⟩ := (good_append (a := [y]) (b := r)).1 h
  have hy := (h1.1 y (by simp)).1
  refine ⟨?_, h2⟩
  by_cases hr : r = []
  · exact .inl hr
  · refine .inr ?_
    have := h3 (by simp) hr
    simp only [lastLen, List.getLast?_singleton] at this
    rw [List.length_append]; omega
theorem J.of {a b : List ByteArray} {m : List UInt8} (ha : Pcs a) (hb : Pcs b) (hm : m ≠ []) (h1 : Ahead a m) (h2 : Behind m b) : J a m b :=
  ⟨ha, hb, fun h => absurd h hm, fun _ => h1, fun _ => h2⟩

end Go.Gim

/- The most bytes of a beginning that have at most n by a way: plain facts. Conditions: none. -/
namespace Go.Gim

/-- How many by a way. -/
def byW (way : Int) (l : List UInt8) : Nat := if way = 0 then byt l else if way = 1 then run l else if way = 2 then unt l else if way = 3 then brk l else 0
theorem byW_append (way : Int) (a b : List UInt8) : byW way (a ++ b) = byW way a + byW way b := by
  unfold byW; repeat' split
  · exact byt_append a b
  · exact run_append a b
  · exact unt_append a b
  · exact brk_append a b
  · rfl
theorem byW_nil (way : Int) : byW way [] = 0 := by
  unfold byW; repeat' split
  all_goals rfl
theorem byW_le (way : Int) (a : List UInt8) : byW way a ≤ 2 * a.length := by
  have h1 := brk_le a
  have h2 := run_le a
  have h3 := unt_le a
  unfold byW byt; repeat' split
  all_goals omega
theorem byW_cons (way : Int) (c : UInt8) (r : List UInt8) : byW way (c :: r) = byW way [c] + byW way r := byW_append way [c] r

/-- The most bytes of the beginning that have at most n by a way. -/
def upto (way : Int) : List UInt8 → Nat → Nat
  | [], _ => 0
  | c :: r, n => if n < byW way [c] then 0 else 1 + upto way r (n - byW way [c])

theorem upto_le (way : Int) (l : List UInt8) : ∀ n, upto way l n ≤ l.length := by
  induction l with
  | nil => intro n; simp [upto]
  | cons c r ih => intro n; simp only [upto]; split; · omega
                   · have := ih (n - byW way [c]); simp only [List.length_cons]; omega
theorem upto_append_lt (way : Int) (a b : List UInt8) : ∀ n, n < byW way a → upto way (a ++ b) n = upto way a n := by
  induction a with
  | nil => intro n h; rw [byW_nil] at h; omega
  | cons c r ih =>
    intro n h
    have e := byW_cons way c r
    rw [e] at h
    simp only [List.cons_append, upto]
    split
    · rfl
    · rw [ih _ (by omega)]
theorem upto_append_ge (way : Int) (a b : List UInt8) : ∀ n, byW way a ≤ n → upto way (a ++ b) n = a.length + upto way b (n - byW way a) := by
  induction a with
  | nil => intro n _; simp [byW_nil]
  | cons c r ih =>
    intro n h
    have e := byW_cons way c r
    rw [e] at h ⊢
    simp only [List.cons_append, upto]
    rw [if_neg (by omega), ih _ (by omega), List.length_cons, Nat.sub_sub]
    omega
theorem upto_all (way : Int) (a : List UInt8) (n : Nat) (h : byW way a ≤ n) : upto way a n = a.length := by
  have := upto_append_ge way a [] n h
  rw [List.append_nil] at this
  simpa [upto] using this
theorem upto_some (way : Int) (l : List UInt8) : ∀ n, byW way (l.take (upto way l n)) ≤ n := by
  induction l with
  | nil => intro n; simp [upto, byW_nil]
  | cons c r ih =>
    intro n
    simp only [upto]
    split
    · simp [byW_nil]
    · have e := byW_cons way c (r.take (upto way r (n - byW way [c])))
      rw [Nat.add_comm 1, List.take_succ_cons, e]
      have := ih (n - byW way [c])
      omega
end Go.Gim

/- A region that draws its order: what comes first only makes new memory, each operation with one value in every such world; what stands at its end waits for all of it and comes in one order. Conditions: none. -/
namespace Go.Gim
open Go.RowKit

instance (w : World) : Nonempty (Exts w) := ⟨⟨w, ⟨rfl, rfl, rfl, Nat.le_refl _, fun _ _ => rfl⟩⟩⟩

section
variable {P : Program} {md : Region.Mode} {C : World → Prop}

theorem wpAny_more {ops : Array Oper} {Q : Exit → Act → World → Prop} : ∀ (f : Nat) (listed : Array Bool) (a : Act) (w : World), wpAny P md ops Q f listed a w → wpAny P md ops Q (f + 1) listed a w
  | 0, _, _, _, h => ⟨fun _ => h.2, fun i hi => by rw [h.1] at hi; cases hi⟩
  | f + 1, _, _, _, h => ⟨h.1, fun i hi => wpOp_mono (fun a w h' => wpAny_more f _ a w h') (h.2 i hi)⟩
theorem wpAny_plus {ops : Array Oper} {Q : Exit → Act → World → Prop} {g : Nat} {listed : Array Bool} {a : Act} {w : World} (h : wpAny P md ops Q g listed a w) : ∀ f, wpAny P md ops Q (f + g) listed a w
  | 0 => by rw [Nat.zero_add]; exact h
  | f + 1 => by rw [show f + 1 + g = f + g + 1 by omega]; exact wpAny_more _ _ _ _ (wpAny_plus h f)

/-- Each operation waits for such alone as stand ahead of it; none of the first n has a guard. -/
def backB (md : Region.Mode) (l : List Oper) (n : Nat) : Bool :=
  (List.range n).all fun i => match l[i]? with
    | some o => o.guard.isNone && o.after.all (fun e => !Region.binds md e || decide (e.on < i))
    | none => false

theorem backB_at {l : List Oper} {n i : Nat} (h : backB md l n = true) (hi : i < n) :
    ∃ o, l[i]? = some o ∧ o.guard = none ∧ ∀ e ∈ o.after, Region.binds md e = true → e.on < i := by
  have h1 := List.all_eq_true.1 h i (List.mem_range.2 hi)
  cases ho : l[i]? with
  | none => rw [ho] at h1; cases h1
  | some o =>
    rw [ho] at h1
    simp only [Bool.and_eq_true, Option.isNone_iff_eq_none, Array.all_eq_true_iff_forall_mem, Bool.or_eq_true, Bool.not_eq_true', decide_eq_true_eq] at h1
    refine ⟨o, rfl, h1.1, fun e he hb => ?_⟩
    rcases h1.2 e he with h2 | h2
    · rw [hb] at h2; cases h2
    · exact h2

theorem pre_at {l : List Oper} {n i : Nat} (hi : i < n) : (l.take n).toArray[i]? = l[i]? := by simp [hi]

theorem all_listed {l : List Oper} {n : Nat} {listed' : Array Bool} (hback : backB md l n = true) (hsz : listed'.size = n) (hr : Region.ready md (l.take n).toArray listed' = []) : ∀ i, i < n → listed'.getD i false = true := by
  intro i
  induction i using Nat.strongRecOn with
  | _ i ih =>
    intro hi
    cases hl : listed'.getD i false with
    | true => rfl
    | false =>
      obtain ⟨o, ho, _, hd⟩ := backB_at hback hi
      have : i ∈ Region.ready md (l.take n).toArray listed' := mem_ready.2 ⟨getD_in (by omega) hl, o, by rw [pre_at hi, ho], fun e he hb => ih e.on (hd e he hb) (by have := hd e he hb; omega)⟩
      rw [hr] at this; cases this

theorem wpAny_of_prefix {l : List Oper} {n g : Nat} {Qp : Act → Prop} {Q' : Exit → Act → World → Prop} (hback : backB md l n = true) (hn : n < l.length)
    (hs : Region.sinkB md l.toArray n = true) (hc : Region.chainB md l.toArray n = true)
    (hdone : ∀ listed a w, C w → HeadInv md l.toArray n listed → (∀ i, i < n → listed.getD i false = true) → Qp a → wpAny P md l.toArray Q' g listed a w) :
    ∀ (f : Nat) (listed listed' : Array Bool) (a : Act) (w : World), C w → HeadInv md l.toArray n listed → listed'.size = n → (∀ i, i < n → listed'.getD i false = listed.getD i false) →
      wpAnyQ P md (l.take n).toArray C Qp f listed' a → wpAny P md l.toArray Q' (f + g) listed a w := by
  have hn' : n < l.toArray.size := by simpa using hn
  have up : ∀ {listed listed' : Array Bool} {i : Nat}, HeadInv md l.toArray n listed → listed'.size = n → (∀ i, i < n → listed'.getD i false = listed.getD i false) → i ∈ Region.ready md (l.take n).toArray listed' → i < n ∧ i ∈ Region.ready md l.toArray listed := by
    intro listed listed' i inv hsz he hi
    obtain ⟨h1, o, h2, h3⟩ := mem_ready.1 hi
    have hin : i < n := by
      have := (Array.getElem?_eq_some_iff.1 h2).1
      simp at this; omega
    obtain ⟨o', ho', _, hd⟩ := backB_at hback hin
    have hoo : l[i]? = some o := by rw [← pre_at hin]; exact h2
    have : o' = o := Option.some.inj (ho'.symm.trans hoo)
    subst this
    refine ⟨hin, mem_ready.2 ⟨getD_in (by rw [inv.size]; omega) (by rw [← he i hin]; exact getD_both h1), o', by simpa using hoo, fun e hee hb => ?_⟩⟩
    have h4 := hd e hee hb
    rw [← he e.on (by omega)]
    exact h3 e hee hb
  have down : ∀ {listed listed' : Array Bool} {i : Nat}, listed'.size = n → (∀ i, i < n → listed'.getD i false = listed.getD i false) → i < n → i ∈ Region.ready md l.toArray listed → i ∈ Region.ready md (l.take n).toArray listed' := by
    intro listed listed' i hsz he hin hi
    obtain ⟨h1, o, h2, h3⟩ := mem_ready.1 hi
    obtain ⟨o', ho', _, hd⟩ := backB_at hback hin
    have hoo : l[i]? = some o := by simpa using h2
    have : o' = o := Option.some.inj (ho'.symm.trans hoo)
    subst this
    refine mem_ready.2 ⟨getD_in (by omega) (by rw [he i hin]; exact getD_both h1), o', by rw [pre_at hin]; exact hoo, fun e hee hb => ?_⟩
    have h4 := hd e hee hb
    rw [he e.on (by omega)]
    exact h3 e hee hb
  intro f
  induction f with
  | zero =>
    intro listed listed' a w hw inv hsz he h
    rw [Nat.zero_add]
    exact hdone listed a w hw inv (fun i hi => by rw [← he i hi]; exact all_listed hback hsz h.1 i hi) h.2
  | succ f ih =>
    intro listed listed' a w hw inv hsz he h
    by_cases hr : Region.ready md (l.take n).toArray listed' = []
    · exact wpAny_plus (hdone listed a w hw inv (fun i hi => by rw [← he i hi]; exact all_listed hback hsz hr i hi) (h.1 hr)) _
    · obtain ⟨i0, hi0⟩ := List.exists_mem_of_ne_nil _ hr
      obtain ⟨hin0, hir0⟩ := up inv hsz he hi0
      rw [show f + 1 + g = (f + g) + 1 by omega]
      refine ⟨fun h0 => (by rw [h0] at hir0; cases hir0), fun i hi => ?_⟩
      have hin : i < n := by
        rcases Nat.lt_or_ge i n with h' | h'
        · exact h'
        · exact absurd hi (tail_waits hs hc hn' inv _ i0 rfl hin0 (mem_ready.1 hir0).1 i h')
      have hq := h.2 i (down hsz he hin hi)
      obtain ⟨o, ho, hg, _⟩ := backB_at hback hin
      have hw0 : ∀ y, Region.wanted o y = true := fun y => by unfold Region.wanted; rw [hg]
      have hq' : qOp P l.toArray C i (wpAnyQ P md (l.take n).toArray C Qp f (listed'.setIfInBounds i true)) a := by
        unfold qOp at hq ⊢
        rw [pre_at hin, ho] at hq
        rw [show l.toArray[i]? = some o by simpa using ho]
        simp only [hw0] at hq ⊢
        exact hq
      refine wpOp_of_qOp hw (fun a' w' hw' h' => ih _ _ a' w' hw' (inv.set hi hin) (by simpa using hsz) (fun j hj => ?_) h') hq'
      by_cases hij : i = j
      · subst hij
        rw [Array.getD_eq_getD_getElem?, Array.getD_eq_getD_getElem?]
        simp [hsz, hin, inv.size, show i < l.length by omega]
      · rw [getD_set_ne false hij, getD_set_ne false hij]; exact he j hj

def tailB (l : List Oper) (n : Nat) : Bool :=
  decide (n < l.length) && backB .any l n && Region.sinkB .any l.toArray n && Region.chainB .any l.toArray n && Region.lexB .any (l.take n).toArray && Region.seqB .any l.toArray (l.length - n) n (Array.replicate n true ++ Array.replicate (l.length - n) false)

/-- The first n operations only make new memory; those behind them come in the text's order. -/
theorem wp_region_ext_tail {id : Nat} {Q : Exit → Act → World → Prop} {a : Act} {w : World} {l : List Oper} (n : Nat) (hm : P.follows .mixedOrders = true) (hB : tailB l n = true)
    (h : wpQuiet P (l.take n).toArray (fun w' => ∃ x : Exts w, w' = ext w x) (fun a' => ∀ w', Ext w w' → wpList P l.toArray Q (l.drop n) a' w') (l.take n) a) : (Code.region id l.toArray true).wp P Q a w := by
  simp only [tailB, Bool.and_eq_true, decide_eq_true_eq] at hB
  obtain ⟨⟨⟨⟨⟨hn, hback⟩, hs⟩, hc⟩, hlex⟩, hseq⟩ := hB
  simp only [Region.lexB, Bool.and_eq_true] at hlex
  have htl : (l.take n).length = n := by simp; omega
  have inv0 : HeadInv .any l.toArray n (Array.replicate l.toArray.size false) :=
    ⟨by simp, fun j oj _ hl => (by rw [getD_replicate_false] at hl; cases hl), fun t _ ht => getD_in (by simpa using ht) (getD_replicate_false _ _)⟩
  have H := wpAnyQ_lex (P := P) (C := fun w' => ∃ x : Exts w, w' = ext w x) (md := .any) hlex.1 (l.take n) 0 (Array.replicate (l.take n).toArray.size false) a (by simp) (by simpa using hlex.2) h
  refine wp_region_any hm ?_
  have := wpAny_of_prefix (P := P) (md := .any) (C := fun w' => ∃ x : Exts w, w' = ext w x) (g := l.length - n) (Q' := Q) hback hn hs hc ?_ _ (Array.replicate l.toArray.size false) _ a { w with drawn := w.drawn + 1 } (Exts.of ⟨rfl, rfl, rfl, Nat.le_refl _, fun _ _ => rfl⟩) inv0 (by simp; omega) (fun i _ => by rw [getD_replicate_false, getD_replicate_false]) H
  · rw [htl, show n + (l.length - n) = l.length by omega] at this
    simpa using this
  · intro listed a' w' hw' inv hall hq
    have hd : (l.drop n).length = l.length - n := by simp
    rw [← hd]
    obtain ⟨x, rfl⟩ := hw'
    refine wpAny_of_seq (md := .any) (Q' := Q) (l.drop n) n listed a' _ (fun j => by simp [List.getElem?_drop]) ?_ (hq _ (Mod.of_below (ext_below w x)))
    rw [hd]
    have hsz : listed.size = l.length := by rw [inv.size]; simp
    have : listed = Array.replicate n true ++ Array.replicate (l.length - n) false := by
      apply Array.ext
      · simp [hsz]; omega
      · intro i h1 h2
        by_cases hin : i < n
        · have := hall i hin
          rw [Array.getD_eq_getD_getElem?, Array.getElem?_eq_getElem h1] at this
          simp only [Option.getD_some] at this
          rw [this, Array.getElem_append_left (by simpa using hin)]; simp
        · have := inv.tail i (by omega) (by simp; omega)
          rw [Array.getD_eq_getD_getElem?, Array.getElem?_eq_getElem h1] at this
          simp only [Option.getD_some] at this
          rw [this, Array.getElem_append_right (by simp; omega)]; simp
    rw [this]; exact hseq
end
end Go.Gim

/- A text with a stretch replaced: plain facts. Conditions: none. -/
namespace Go.Gim

/-- l with s in the place of the stretch from f up to g. -/
def splice {α : Type} (l : List α) (f g : Int) (s : List α) : List α := l.take f.toNat ++ (s ++ l.drop g.toNat)

theorem splice_none {α : Type} (l : List α) (f : Int) : splice l f f [] = l := by simp [splice]
theorem splice_len {α : Type} (l : List α) (f g : Int) (s : List α) (h0 : 0 ≤ f) (h1 : f ≤ g) (h2 : g ≤ l.length) : ((splice l f g s).length : Int) = l.length - (g - f) + s.length := by
  simp only [splice, List.length_append, List.length_take, List.length_drop]; omega
theorem splice_mid {α : Type} (a c b s : List α) (f g : Int) (h0 : (a.length : Int) ≤ f) (h1 : f ≤ g) (h2 : g - a.length ≤ c.length) :
    splice (a ++ (c ++ b)) f g s = a ++ ((cut c 0 (f - a.length) ++ (s ++ cut c (g - a.length) c.length)) ++ b) := by
  unfold splice cut
  rw [List.take_append, List.take_append, List.drop_append, List.drop_append]
  rw [List.take_of_length_le (show a.length ≤ f.toNat from by omega)]
  rw [show f.toNat - a.length - c.length = 0 from by omega, show (f - (a.length : Int)).toNat = f.toNat - a.length from by omega]
  rw [List.drop_of_length_le (show a.length ≤ g.toNat from by omega)]
  rw [show (g - (a.length : Int)).toNat = g.toNat - a.length from by omega, show g.toNat - a.length - c.length = 0 from by omega]
  simp

/-- A tree parted in three by ends and begins, as replace does it. -/
theorem replace_parts {t a r c b : T} {f g : Int} (hp : Parted t a r) (hq : Parted r c b) (he : EndsAt f a r) (hb : BeginsAt (g - a.size) c b) (h1 : f ≤ g) (h2 : g ≤ t.size) :
    t.text = a.text ++ (c.text ++ b.text) ∧ (a.size : Int) ≤ f ∧ g - a.size ≤ c.size := by
  refine ⟨?_, he.1, ?_⟩
  · rw [T.text_owns, hp.owns, hq.owns, join_append, join_append, ← T.text_owns, ← T.text_owns, ← T.text_owns]
  · have s1 := hp.size
    have s2 := hq.size
    rcases hb.1 with h | h
    · have : b.size = 0 := by rw [T.size_join, h]; rfl
      omega
    · exact h
theorem replace_pcs {t a r c b : T} (hp : Parted t a r) (hq : Parted r c b) (h : Pcs t.owns) : Pcs a.owns ∧ Pcs c.owns ∧ Pcs b.owns := by
  rw [hp.owns, hq.owns] at h
  have h1 := good_append.1 h
  have h2 := good_append.1 h1.2.1
  exact ⟨h1.1, h2.1, h2.2.1⟩
theorem replace_blocks {t a r c b : T} (hp : Parted t a r) (hq : Parted r c b) : (a.blocks ++ (c.blocks ++ b.blocks)).Perm t.blocks :=
  (List.Perm.append_left _ hq.blocks).trans hp.blocks

end Go.Gim

/- Where lines begin and end in a list of bytes: plain facts. Conditions: none. -/
namespace Go.Gim

/-- Behind each break, counted from k. -/
def sts (k : Nat) : List UInt8 → List Nat
  | [] => []
  | c :: r => if c == 10 then (k + 1) :: sts (k + 1) r else sts (k + 1) r
/-- Where lines begin. -/
def startsL (l : List UInt8) : List Nat := 0 :: sts 0 l
/-- Where a line begins, where it ends, as the rope finds it. -/
def lineN (l : List UInt8) (line : Nat) : Nat := if line = 0 then 0 else upto 3 l (line - 1) + 1
def lineE (l : List UInt8) (line : Nat) : Nat := upto 3 l line

theorem brk_nil : brk [] = 0 := rfl
theorem brk_cons (c : UInt8) (r : List UInt8) : brk (c :: r) = brk r + if c == 10 then 1 else 0 := by simp [brk, List.countP_cons]
theorem byW3 (l : List UInt8) : byW 3 l = brk l := rfl
theorem byW3_one (c : UInt8) : byW 3 [c] = if c == 10 then 1 else 0 := by rw [byW3, brk_cons]; simp [brk_nil]
theorem sts_snoc (l : List UInt8) (c : UInt8) : ∀ k, sts k (l ++ [c]) = sts k l ++ if c == 10 then [k + l.length + 1] else [] := by
  induction l with
  | nil => intro k; simp [sts]
  | cons x r ih =>
    intro k
    simp only [List.cons_append, sts, ih, List.length_cons]
    split <;> split <;> simp <;> omega
theorem startsL_snoc (l : List UInt8) (c : UInt8) : startsL (l ++ [c]) = startsL l ++ if c == 10 then [l.length + 1] else [] := by
  unfold startsL; rw [sts_snoc]; simp
theorem sts_len (l : List UInt8) : ∀ k, (sts k l).length = brk l := by
  induction l with
  | nil => intro k; rfl
  | cons c r ih => intro k; rw [brk_cons]; simp only [sts]; split <;> simp [ih]
theorem startsL_len (l : List UInt8) : (startsL l).length = brk l + 1 := by simp [startsL, sts_len]
theorem sts_at (l : List UInt8) : ∀ (k j : Nat), j < brk l → (sts k l)[j]? = some (k + upto 3 l j + 1) := by
  induction l with
  | nil => intro k j h; simp [brk_nil] at h
  | cons c r ih =>
    intro k j h
    rw [brk_cons] at h
    simp only [sts, upto, byW3_one]
    by_cases hc : (c == 10) = true
    · simp only [hc, if_true] at h ⊢
      cases j with
      | zero => simp
      | succ j =>
        rw [List.getElem?_cons_succ, ih _ _ (by omega), if_neg (by omega)]
        simp; omega
    · simp only [hc, Bool.false_eq_true, if_false, Nat.add_zero] at h ⊢
      rw [ih _ _ h, if_neg (by omega)]
      simp; omega
theorem startsL_at (l : List UInt8) (j : Nat) (h : j ≤ brk l) : (startsL l)[j]? = some (lineN l j) := by
  cases j with
  | zero => rfl
  | succ j =>
    unfold startsL lineN
    rw [List.getElem?_cons_succ, sts_at _ _ _ (by omega)]
    simp
theorem lineE_last (l : List UInt8) : lineE l (brk l) = l.length := upto_all 3 l (brk l) (Nat.le_refl _)
theorem lineE_succ (l : List UInt8) (j : Nat) : lineE l j = lineN l (j + 1) - 1 := by simp [lineE, lineN]
theorem lineE_le (l : List UInt8) (j : Nat) : lineE l j ≤ l.length := upto_le 3 l j
theorem lineN_pos (l : List UInt8) (j : Nat) (h : j < brk l) : 0 < lineN l (j + 1) ∧ lineN l (j + 1) ≤ l.length := by
  have h1 := sts_at l 0 j h
  refine ⟨by simp [lineN], ?_⟩
  simp only [lineN]
  rw [if_neg (by omega)]
  have : ∀ (l : List UInt8) (j : Nat), j < brk l → upto 3 l j < l.length := by
    intro l
    induction l with
    | nil => intro j h; simp [brk_nil] at h
    | cons c r ih =>
      intro j h
      rw [brk_cons] at h
      simp only [upto, byW3_one, List.length_cons]
      by_cases hc : (c == 10) = true
      · simp only [hc, if_true] at h ⊢
        split
        · omega
        · have := ih (j - 1) (by omega); omega
      · simp only [hc, Bool.false_eq_true, if_false, Nat.add_zero, Nat.sub_zero] at h ⊢
        rw [if_neg (by omega)]
        have := ih j h; omega
  have := this l j h
  rw [Nat.add_sub_cancel]
  omega
/-- The line of an offset begins no later. -/
theorem lineN_le (l : List UInt8) (f : Nat) : lineN l (brk (l.take f)) ≤ f := by
  cases hb : brk (l.take f) with
  | zero => simp [lineN]
  | succ j =>
    have e : l = l.take f ++ l.drop f := (List.take_append_drop f l).symm
    have h1 := lineN_pos (l.take f) j (by omega)
    have h2 : lineN l (j + 1) = lineN (l.take f) (j + 1) := by
      simp only [lineN]
      rw [if_neg (by omega), if_neg (by omega)]
      congr 1
      conv => lhs; rw [e]
      exact upto_append_lt 3 _ _ _ (by rw [byW3]; simp; omega)
    rw [h2]
    have := List.length_take_le f l
    omega
end Go.Gim

/- A region that draws its order, whose first operation hands on a slot that its last store alone looks at: that one is taken first; then as in GimTailQ. Conditions: none. -/
namespace Go.Gim
open Go.RowKit

section
variable {P : Program} {md : Region.Mode} {C : World → Prop}

/-- As sinkB, but the first operation is left out. -/
def sinkFrom (md : Region.Mode) (ops : Array Oper) (n : Nat) : Bool :=
  (List.range n).all fun i => decide (i = 0) || (List.range (n + 1)).any fun j => decide (i < j) && Region.waitsFor md ops j i

theorem tail_waits1 {ops : Array Oper} {n : Nat} {listed : Array Bool} (hs : sinkFrom md ops n = true) (hc : Region.chainB md ops n = true) (hn : n < ops.size) (inv : HeadInv md ops n listed) :
    ∀ (d i : Nat), n - i = d → 0 < i → i < n → listed.getD i true = false → ∀ t, n ≤ t → t ∉ Region.ready md ops listed := by
  intro d
  induction d using Nat.strongRecOn with
  | _ d ih =>
    intro i hd hi0 hi hun t ht hr
    obtain ⟨_, ot, hot, hall⟩ := mem_ready.1 hr
    have htlt : t < ops.size := (Array.getElem?_eq_some_iff.1 hot).1
    by_cases htn : t = n
    · subst htn
      have h1 := List.all_eq_true.1 hs i (List.mem_range.2 hi)
      simp only [Bool.or_eq_true, decide_eq_true_eq] at h1
      have h1 := h1.resolve_left (by omega)
      obtain ⟨j, hj, hj2⟩ := List.any_eq_true.1 h1
      simp only [Bool.and_eq_true, decide_eq_true_eq] at hj2
      obtain ⟨oj, hoj, e, he, hb, hon⟩ := Region.waitsFor_spec hj2.2
      have hjle : j ≤ t := by have := List.mem_range.1 hj; omega
      by_cases hjt : j = t
      · subst hjt
        have : oj = ot := Option.some.inj (hoj.symm.trans hot)
        subst this
        have h2 := hall e he hb
        rw [hon, getD_both hun] at h2
        cases h2
      · cases hl : listed.getD j false with
        | true =>
          have h2 := inv.closed j oj hoj hl e he hb
          rw [hon, getD_both hun] at h2
          cases h2
        | false =>
          have hjs : j < listed.size := by rw [inv.size]; omega
          exact ih (t - j) (by omega) j rfl (by omega) (by omega) (getD_in hjs hl) t (Nat.le_refl _) hr
    · have h1 := List.all_eq_true.1 hc t (List.mem_range.2 htlt)
      simp only [Bool.or_eq_true, decide_eq_true_eq] at h1
      rcases h1 with h1 | h1
      · omega
      · obtain ⟨o', ho', e, he, hb, hon⟩ := Region.waitsFor_spec h1
        have : o' = ot := Option.some.inj (ho'.symm.trans hot)
        subst this
        have h2 := hall e he hb
        rw [hon, getD_both (inv.tail (t - 1) (by omega) (by omega))] at h2
        cases h2

theorem wpAny_of_prefix1 {l : List Oper} {n g : Nat} {Qp : Act → Prop} {Q' : Exit → Act → World → Prop} (hback : backB md l n = true) (hn : n < l.length)
    (hs : sinkFrom md l.toArray n = true) (hc : Region.chainB md l.toArray n = true)
    (hdone : ∀ listed a w, C w → HeadInv md l.toArray n listed → (∀ i, i < n → listed.getD i false = true) → Qp a → wpAny P md l.toArray Q' g listed a w) :
    ∀ (f : Nat) (listed listed' : Array Bool) (a : Act) (w : World), C w → HeadInv md l.toArray n listed → listed.getD 0 false = true → listed'.size = n → (∀ i, i < n → listed'.getD i false = listed.getD i false) →
      wpAnyQ P md (l.take n).toArray C Qp f listed' a → wpAny P md l.toArray Q' (f + g) listed a w := by
  have hn' : n < l.toArray.size := by simpa using hn
  have up : ∀ {listed listed' : Array Bool} {i : Nat}, HeadInv md l.toArray n listed → listed'.size = n → (∀ i, i < n → listed'.getD i false = listed.getD i false) → i ∈ Region.ready md (l.take n).toArray listed' → i < n ∧ i ∈ Region.ready md l.toArray listed := by
    intro listed listed' i inv hsz he hi
    obtain ⟨h1, o, h2, h3⟩ := mem_ready.1 hi
    have hin : i < n := by
      have := (Array.getElem?_eq_some_iff.1 h2).1
      simp at this; omega
    obtain ⟨o', ho', _, hd⟩ := backB_at hback hin
    have hoo : l[i]? = some o := by rw [← pre_at hin]; exact h2
    have : o' = o := Option.some.inj (ho'.symm.trans hoo)
    subst this
    refine ⟨hin, mem_ready.2 ⟨getD_in (by rw [inv.size]; omega) (by rw [← he i hin]; exact getD_both h1), o', by simpa using hoo, fun e hee hb => ?_⟩⟩
    have h4 := hd e hee hb
    rw [← he e.on (by omega)]
    exact h3 e hee hb
  have down : ∀ {listed listed' : Array Bool} {i : Nat}, listed'.size = n → (∀ i, i < n → listed'.getD i false = listed.getD i false) → i < n → i ∈ Region.ready md l.toArray listed → i ∈ Region.ready md (l.take n).toArray listed' := by
    intro listed listed' i hsz he hin hi
    obtain ⟨h1, o, h2, h3⟩ := mem_ready.1 hi
    obtain ⟨o', ho', _, hd⟩ := backB_at hback hin
    have hoo : l[i]? = some o := by simpa using h2
    have : o' = o := Option.some.inj (ho'.symm.trans hoo)
    subst this
    refine mem_ready.2 ⟨getD_in (by omega) (by rw [he i hin]; exact getD_both h1), o', by rw [pre_at hin]; exact hoo, fun e hee hb => ?_⟩
    have h4 := hd e hee hb
    rw [he e.on (by omega)]
    exact h3 e hee hb
  intro f
  induction f with
  | zero =>
    intro listed listed' a w hw inv h00 hsz he h
    rw [Nat.zero_add]
    exact hdone listed a w hw inv (fun i hi => by rw [← he i hi]; exact all_listed hback hsz h.1 i hi) h.2
  | succ f ih =>
    intro listed listed' a w hw inv h00 hsz he h
    by_cases hr : Region.ready md (l.take n).toArray listed' = []
    · exact wpAny_plus (hdone listed a w hw inv (fun i hi => by rw [← he i hi]; exact all_listed hback hsz hr i hi) (h.1 hr)) _
    · obtain ⟨i0, hi0⟩ := List.exists_mem_of_ne_nil _ hr
      obtain ⟨hin0, hir0⟩ := up inv hsz he hi0
      have hpos : 0 < i0 := by
        rcases Nat.eq_zero_or_pos i0 with h0 | h0
        · subst h0
          have h1 := getD_both (mem_ready.1 hir0).1
          rw [h00] at h1; cases h1
        · exact h0
      rw [show f + 1 + g = (f + g) + 1 by omega]
      refine ⟨fun h0 => (by rw [h0] at hir0; cases hir0), fun i hi => ?_⟩
      have hin : i < n := by
        rcases Nat.lt_or_ge i n with h' | h'
        · exact h'
        · exact absurd hi (tail_waits1 hs hc hn' inv _ i0 rfl hpos hin0 (mem_ready.1 hir0).1 i h')
      have hq := h.2 i (down hsz he hin hi)
      obtain ⟨o, ho, hg, _⟩ := backB_at hback hin
      have hw0 : ∀ y, Region.wanted o y = true := fun y => by unfold Region.wanted; rw [hg]
      have hq' : qOp P l.toArray C i (wpAnyQ P md (l.take n).toArray C Qp f (listed'.setIfInBounds i true)) a := by
        unfold qOp at hq ⊢
        rw [pre_at hin, ho] at hq
        rw [show l.toArray[i]? = some o by simpa using ho]
        simp only [hw0] at hq ⊢
        exact hq
      refine wpOp_of_qOp hw (fun a' w' hw' h' => ih _ _ a' w' hw' (inv.set hi hin) (getD_set_true h00) (by simpa using hsz) (fun j hj => ?_) h') hq'
      by_cases hij : i = j
      · subst hij
        rw [Array.getD_eq_getD_getElem?, Array.getD_eq_getD_getElem?]
        simp [hsz, hin, inv.size, show i < l.length by omega]
      · rw [getD_set_ne false hij, getD_set_ne false hij]; exact he j hj

def tailB1 (l : List Oper) (n : Nat) : Bool :=
  decide (n < l.length) && backB .any l n && sinkFrom .any l.toArray n && Region.chainB .any l.toArray n && Region.noSelect (l.take n).toArray && Region.lexFrom .any (l.take n).toArray (n - 1) 1 (#[true] ++ Array.replicate (n - 1) false) && Region.seqB .any l.toArray (l.length - n) n (Array.replicate n true ++ Array.replicate (l.length - n) false) && (decide (0 < n) && Region.noSelect l.toArray && Region.free .any l.toArray (Array.replicate l.length false) 0 && (Region.ready .any l.toArray (Array.replicate l.length false)).contains 0)

/-- The first operation hands on a slot; those up to n only make new memory; those behind them come in the text's order. -/
theorem wp_region_ext_tail1 {id : Nat} {Q : Exit → Act → World → Prop} {a : Act} {w : World} {o : Oper} {l : List Oper} (n : Nat) (v : Value) (x : Operand) (ho : o.op = .move x) (hv : a.eval x = v) (hg : o.guard = none) (hm : P.follows .mixedOrders = true) (hB : tailB1 (o :: l) n = true)
    (hQ' : ∀ v c a w, Q (.panic c) (a.put o.dst v) w → Q (.panic c) a w)
    (h : wpQuiet P ((o :: l).take n).toArray (fun w' => ∃ x : Exts w, w' = ext w x) (fun a' => ∀ w', Ext w w' → wpList P (o :: l).toArray Q ((o :: l).drop n) a' w') (l.take (n - 1)) (a.put o.dst v)) : (Code.region id (o :: l).toArray true).wp P Q a w := by
  subst hv
  simp only [tailB1, Bool.and_eq_true, decide_eq_true_eq] at hB
  obtain ⟨⟨⟨⟨⟨⟨⟨hn, hback⟩, hs⟩, hc⟩, hns⟩, hlex⟩, hseq⟩, ⟨⟨hn0, hns0⟩, hfree⟩, hready⟩ := hB
  have htl : ((o :: l).take n).length = n := by simp at hn ⊢; omega
  have inv0 : HeadInv .any (o :: l).toArray n (Array.replicate (o :: l).toArray.size false) :=
    ⟨by simp, fun j oj _ hl => (by rw [getD_replicate_false] at hl; cases hl), fun t _ ht => getD_in (by simpa using ht) (getD_replicate_false _ _)⟩
  have hr0 : 0 ∈ Region.ready .any (o :: l).toArray (Array.replicate (o :: l).toArray.size false) := by simpa using hready
  have inv1 := inv0.set hr0 hn0
  have htail : (o :: l).take n = o :: l.take (n - 1) := by
    obtain ⟨m, rfl⟩ : ∃ m, n = m + 1 := ⟨n - 1, by omega⟩
    rfl
  have H := wpAnyQ_lex (P := P) (C := fun w' => ∃ x : Exts w, w' = ext w x) (md := .any) hns (l.take (n - 1)) 1 (#[true] ++ Array.replicate (n - 1) false) (a.put o.dst (a.eval x))
    (fun j => by rw [htail, Nat.add_comm 1 j]; simp)
    (by rw [show (l.take (n - 1)).length = n - 1 by simp at hn ⊢; omega]; exact hlex) h
  refine wp_region_any hm ?_
  have hy : Yields P (o :: l).toArray o (a.eval x) a := .inl ⟨by simp [Region.wanted, hg], fun w => BigFrame.run_move x ho w⟩
  have hsz : (o :: l).toArray.size = (o :: l).length := by simp
  have hlen : (o :: l).length = (l.length) + 1 := rfl
  rw [hsz, hlen]
  refine wpAny_take (i := 0) (oi := o) (v := a.eval x) (by simp) hns0 (by rw [← hlen]; exact hfree) (by rw [← hlen]; exact hready) (hQ' _) hy ?_
  have := wpAny_of_prefix1 (P := P) (md := .any) (C := fun w' => ∃ x : Exts w, w' = ext w x) (g := (o :: l).length - n) (Q' := Q) hback hn hs hc ?_ _ ((Array.replicate (o :: l).toArray.size false).setIfInBounds 0 true) _ _ { w with drawn := w.drawn + 1 } (Exts.of ⟨rfl, rfl, rfl, Nat.le_refl _, fun _ _ => rfl⟩) inv1 (by simp) (by simp; omega) (fun i hi => ?_) H
  · rw [show (l.take (n - 1)).length + ((o :: l).length - n) = l.length by simp at hn ⊢; omega] at this
    simpa using this
  · intro listed a' w' hw' inv hall hq
    have hd : ((o :: l).drop n).length = (o :: l).length - n := by simp
    rw [← hd]
    obtain ⟨x, rfl⟩ := hw'
    refine wpAny_of_seq (md := .any) (Q' := Q) ((o :: l).drop n) n listed a' _ (fun j => by simp [List.getElem?_drop]) ?_ (hq _ (Mod.of_below (ext_below w x)))
    rw [hd]
    have hsz : listed.size = (o :: l).length := by rw [inv.size]; simp
    have : listed = Array.replicate n true ++ Array.replicate ((o :: l).length - n) false := by
      apply Array.ext
      · simp at hsz hn ⊢; omega
      · intro i h1 h2
        by_cases hin : i < n
        · have := hall i hin
          rw [Array.getD_eq_getD_getElem?, Array.getElem?_eq_getElem h1] at this
          simp only [Option.getD_some] at this
          rw [this, Array.getElem_append_left (by simpa using hin)]; simp
        · have := inv.tail i (by omega) (by simp at hsz ⊢; omega)
          rw [Array.getD_eq_getD_getElem?, Array.getElem?_eq_getElem h1] at this
          simp only [Option.getD_some] at this
          rw [this, Array.getElem_append_right (by simp; omega)]; simp
    rw [this]; exact hseq
  · rcases Nat.eq_zero_or_pos i with h0 | h0
    · subst h0
      rw [Array.getD_eq_getD_getElem?, Array.getElem?_append_left (by simp)]
      simp
    · rw [getD_set_ne false (by omega), getD_replicate_false, Array.getD_eq_getD_getElem?, Array.getElem?_append_right (by simp; omega), Array.getElem?_replicate]
      split <;> rfl
end
end Go.Gim

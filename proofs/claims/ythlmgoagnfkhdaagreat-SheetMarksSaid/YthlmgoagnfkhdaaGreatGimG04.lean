/- A row of bytes that a conversion of a string has made, written in place and turned back into a string. Conditions: none. -/
import Derived.Test.YthlmgoagnfkhdaaGreatGimG02
import Derived.Test.YthlmgoagnfkhdaaGreatGimG01
import Derived.Lib.ConvBytes
import Derived.Laws.IdiomStrings
set_option maxHeartbeats 6400000
set_option maxRecDepth 1000000
set_option linter.unusedVariables false
set_option linter.unusedSimpArgs false
namespace Go.Gim
open Go.RowKit
def BytesAt (w : World) (g : Nat) (l : List UInt8) : Prop :=
 ∃ (C : Array Value) (e : TypeId) (lo hi : Nat), w.heap[g]? = some (.cells C e (lo, hi)) ∧ l.length ≤ lo ∧ ∀ j (h : j < l.length), C[j]? = some (.int .u8 (l[j].toNat : Int))
theorem BytesAt.cell {w : World} {g : Nat} {l : List UInt8} (h : BytesAt w g l) (j : Nat) (hj : j < l.length) : w.cell? ⟨g, j, none⟩ = some (.int .u8 (l[j].toNat : Int)) := by
 obtain ⟨C, e, lo, hi, hg, _, hc⟩ := h
 simp [World.cell?, hg, hc j hj]
theorem BytesAt.free {w : World} {g : Nat} {l : List UInt8} (h : BytesAt w g l) (j : Nat) (hj : j < l.length) : w.frozen? ⟨g, j, none⟩ = false := by
 obtain ⟨C, e, lo, hi, hg, hl, _⟩ := h
 simp [World.frozen?, hg]; omega
theorem BytesAt.set {w : World} {g : Nat} {l : List UInt8} (h : BytesAt w g l) (j : Nat) (c : UInt8) : BytesAt (w.setCell ⟨g, j, none⟩ (.int .u8 (c.toNat : Int))) g (l.set j c) := by
 obtain ⟨C, e, lo, hi, hg, hl, hc⟩ := h
 refine ⟨C.setIfInBounds j (.int .u8 (c.toNat : Int)), e, lo, hi, ?_, by simpa using hl, ?_⟩
 ·simp only [World.setCell, Array.getElem?_modify, hg, Option.map_some, Option.isSome_none, Bool.false_eq_true, if_false, if_true]
 ·intro i hi'
  have hi2 : i < l.length := by simpa using hi'
  rw [List.getElem_set, Array.getElem?_setIfInBounds]
  by_cases e1 : j = i
  ·subst e1
   have := hc j hi2
   have hs : j < C.size := (Array.getElem?_eq_some_iff.1 this).1
   simp [hs]
  ·simp only [if_neg e1]; exact hc i hi2
theorem BytesAt.mod {S : Nat → Prop} {w w' : World} {g : Nat} {l : List UInt8} (h : BytesAt w g l) (hm : Mod S w w') (hS : ¬ S g) : BytesAt w' g l := by
 obtain ⟨C, e, lo, hi, hg, hl, hc⟩ := h
 exact ⟨C, e, lo, hi, (hm.block g (Array.getElem?_eq_some_iff.1 hg).1 hS).trans hg, hl, hc⟩
theorem BytesAt.new (w : World) (e : TypeId) (s : ByteArray) : BytesAt (Lib.bytesWorld w e s) w.heap.size s.data.toList := by
 refine ⟨_, _, _, _, Lib.bytesWorld_at_new w e s, ?_, fun j hj => ?_⟩
 ·simp [Lib.bytesCells]
 ·have hj' : j < s.size := hj
  simp [Lib.bytesCells, Array.getElem?_append, hj']
theorem BytesAt.back {P : Program} {w : World} {g : Nat} {l : List UInt8} (h : BytesAt w g l) (src dst e : TypeId) (n cap : Nat) (hn : l.length = n) (hs : P.underlying src = some (.slice e)) (he : P.underlying e = some (.int .u8)) (hd : P.underlying dst = some .string) :
  (convert src dst (.slice (some ⟨g, 0, none⟩) n cap)).run P w = .ok (.string (bs l)) w := by
 subst hn
 refine Go.run_convert_bytes_back w src dst e ⟨g, 0, none⟩ cap l hs he hd (fun j hj => ?_)
 have e1 : (⟨g, 0, none⟩ : Addr).add j = ⟨g, j, none⟩ := by unfold Addr.add; split <;> simp_all
 rw [e1]; exact h.cell j hj
end Go.Gim

/- What package rope's fresh, first and last compute. Conditions: a piece of at most 1000000 bytes. -/
import Derived.Test.YtbcjlbapgidhiaaGimParts
import Derived.Test.YtbcjlbapgidhiaaGimDice
import Derived.Deep.RegionHeld3
namespace Go.Proofs.Ytbcjlbapgidhiaa
open Go.RowKit Go.Gim

def FreshPost (D : Dice) (s : ByteArray) (w : World) (e : Ending) (w' : World) : Prop :=
  ∃ b, e = .returned (.pointer (some ⟨b, 0, none⟩)) ∧ w.heap.size ≤ b ∧ TreeAt w' (.node b s D.tells .nil .nil) ∧ DiceAt w' D.then ∧ Mod (· = D.d) w w'

set_option maxHeartbeats 1600000 in
set_option maxRecDepth 1000000 in
theorem fresh_any (D : Dice) (s : ByteArray) (w : World) (hD : DiceAt w D) (hs : s.size ≤ 1000000) :
    Calls Try.prog 84 #[.pointer (some ⟨D.d, 0, none⟩), .string s] w (FreshPost D s w) := by
  go_enter Try.func84, Try.ntmps84
  go_wp2_with fail
  refine (of_any s _ hs).mono ?_
  rintro e w1 ⟨rfl, hx1⟩
  go_wp2_with fail
  generalize hw2 : w1.alloc _ = w2
  have hb : Blk w2 w1.heap.size 52 (#[Value.int IntKind.i64 ((byt (s.data.toList) : Nat) : Int), Value.int IntKind.i64 ((brk (s.data.toList) : Nat) : Int), Value.int IntKind.i64 ((run (s.data.toList) : Nat) : Int), Value.int IntKind.i64 ((unt (s.data.toList) : Nat) : Int)] : Array Value) := by rw [← hw2]; exact Blk.new _ _ _
  have hx2 : Ext w w2 := by rw [← hw2]; exact hx1.alloc _
  have hD2 := (hD.ext hx2).drewN 1
  have hsz := hx1.size
  have hDl := hD.blk.lt
  clear hw2
  have hne : ¬ w1.heap.size = D.d := by omega
  have hS : ∀ w3 : World, Mod (· = D.d) (w2.drewN 1) w3 → w3.cell? ⟨w1.heap.size, 0, none⟩ = some (.int .i64 (byt s.data.toList : Nat)) ∧ w3.cell? ⟨w1.heap.size, 1, none⟩ = some (.int .i64 (brk s.data.toList : Nat)) ∧ w3.cell? ⟨w1.heap.size, 2, none⟩ = some (.int .i64 (run s.data.toList : Nat)) ∧ w3.cell? ⟨w1.heap.size, 3, none⟩ = some (.int .i64 (unt s.data.toList : Nat)) := fun w3 h =>
    have h' := (Blk.tal (hb.mod (h.of_drewN) hne))
    ⟨h'.1, h'.2.1, h'.2.2.1, h'.2.2.2.1⟩
  obtain ⟨c0, c1, c2, c3, _⟩ := hb.tal
  go_region_held3 (fun w3 => w3.cell? ⟨w1.heap.size, 0, none⟩ = some (.int .i64 (byt s.data.toList : Nat)) ∧ w3.cell? ⟨w1.heap.size, 1, none⟩ = some (.int .i64 (brk s.data.toList : Nat)) ∧ w3.cell? ⟨w1.heap.size, 2, none⟩ = some (.int .i64 (run s.data.toList : Nat)) ∧ w3.cell? ⟨w1.heap.size, 3, none⟩ = some (.int .i64 (unt s.data.toList : Nat))) (first | exact hS _ (by assumption) | go_keep)
    (first | (go_at_call 89; refine (next_at _ _ hD2).mono ?_; rintro e w3 ⟨rfl, hD3, hm3⟩))
  go_wp2_with fail
  go_ret
  have hB := Blk.new w3 nodeT (#[Value.int IntKind.i64 ((byt (s.data.toList) : Nat) : Int), Value.int IntKind.i64 ((brk (s.data.toList) : Nat) : Int), Value.int IntKind.i64 ((run (s.data.toList) : Nat) : Int), Value.int IntKind.i64 ((unt (s.data.toList) : Nat) : Int), Value.string s, Value.int IntKind.i64 ((byt ((Array.toList (ByteArray.data s))) : Nat) : Int), Value.int IntKind.i64 ((brk ((Array.toList (ByteArray.data s))) : Nat) : Int), Value.int IntKind.i64 ((run ((Array.toList (ByteArray.data s))) : Nat) : Int), Value.int IntKind.i64 ((unt ((Array.toList (ByteArray.data s))) : Nat) : Int), Value.int IntKind.u32 D.tells, .pointer none, .pointer none] : Array Value)
  have hm : Mod (· = D.d) w w3 := Mod.trans (hx2.any) hm3.of_drewN (fun _ _ h => h)
  refine ⟨w3.heap.size, rfl, hm.size, ⟨?_, trivial, trivial⟩, hD3.ext ((Mod.refl _ w3).alloc _), hm.alloc _⟩
  simpa [T.text, NodeAt, T.addr] using hB

end Go.Proofs.Ytbcjlbapgidhiaa

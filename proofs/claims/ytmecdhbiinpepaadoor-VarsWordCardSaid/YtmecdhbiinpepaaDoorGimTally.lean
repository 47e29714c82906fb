/- What package tally's functions compute: of a byte, together, of a text, by a way. Conditions: texts of at most 1000000 bytes. -/
import Derived.Test.YtmecdhbiinpepaaDoorGimPackA
import Derived.Test.YtmecdhbiinpepaaDoorRows
import Derived.Handy
namespace Go.Proofs.YtmecdhbiinpepaaDoor
open Go.RowKit Go.Gim

theorem tally_one (c : UInt8) : tally [c] = #[.int .i64 1, .int .i64 (if c.toNat = 10 then 1 else 0), .int .i64 (if c.toNat < 128 ∨ 191 < c.toNat then 1 else 0), .int .i64 (if c.toNat < 128 then 1 else if 240 ≤ c.toNat then 2 else if 191 < c.toNat then 1 else 0)] := by
  have e10 : (c = 10) ↔ c.toNat = 10 := by rw [← UInt8.toNat_inj]; rfl
  have e128 : (c < 128) ↔ c.toNat < 128 := by rw [UInt8.lt_iff_toNat_lt]; rfl
  have e191 : (191 < c) ↔ 191 < c.toNat := by rw [UInt8.lt_iff_toNat_lt]; rfl
  have e240 : (240 ≤ c) ↔ 240 ≤ c.toNat := by rw [UInt8.le_iff_toNat_le]; rfl
  have h1 : brk [c] = if c.toNat = 10 then 1 else 0 := by simp [brk, List.countP_cons, e10]
  have h2 : run [c] = if c.toNat < 128 ∨ 191 < c.toNat then 1 else 0 := by simp [run, List.countP_cons, e128, e191]
  have h3 : big [c] = if 240 ≤ c.toNat then 1 else 0 := by simp [big, List.countP_cons, e240]
  have h4 : unt [c] = if c.toNat < 128 then 1 else if 240 ≤ c.toNat then 2 else if 191 < c.toNat then 1 else 0 := by
    rw [unt, h2, h3]; repeat' split
    all_goals omega
  unfold tally
  rw [h1, h2, h4]
  rw [show byt [c] = 1 from rfl]
  repeat' split
  all_goals rfl

set_option maxHeartbeats 800000 in
set_option maxRecDepth 1000000 in
theorem byteTally_nl (k : Nat) (w : World) (h : k = 10) : Calls Tryd.prog 81 #[.int .u8 k] w fun e w' => e = .returned (.agg #[.int .i64 1, .int .i64 1, .int .i64 1, .int .i64 1]) ∧ Ext w w' := by
  subst h
  go_enter Tryd.func81, Tryd.ntmps81
  go_wp2_with fail
  go_returns
  exact ⟨rfl, ((Mod.refl _ w).alloc _).alloc _⟩

set_option maxHeartbeats 800000 in
set_option maxRecDepth 1000000 in
theorem byteTally_low (k : Nat) (w : World) (h : k < 128) (hn : k ≠ 10) : Calls Tryd.prog 81 #[.int .u8 k] w fun e w' => e = .returned (.agg #[.int .i64 1, .int .i64 0, .int .i64 1, .int .i64 1]) ∧ Ext w w' := by
  have h1 : (k : Int) < 128 := by omega
  have h2 : ¬ ((240 : Int) ≤ k) := by omega
  have h3 : ((k : Int) == 10) = false := by simp; omega
  have h4 : ¬ ((191 : Int) < k) := by omega
  clear h hn
  go_enter Tryd.func81, Tryd.ntmps81
  go_wp2_with fail
  go_returns
  exact ⟨rfl, ((Mod.refl _ w).alloc _).alloc _⟩

set_option maxHeartbeats 800000 in
set_option maxRecDepth 1000000 in
theorem byteTally_mid (k : Nat) (w : World) (h : ¬ k < 128) (hn : ¬ 191 < k) : Calls Tryd.prog 81 #[.int .u8 k] w fun e w' => e = .returned (.agg #[.int .i64 1, .int .i64 0, .int .i64 0, .int .i64 0]) ∧ Ext w w' := by
  have h1 : ¬ ((k : Int) < 128) := by omega
  have h2 : ¬ ((240 : Int) ≤ k) := by omega
  have h3 : ((k : Int) == 10) = false := by simp; omega
  have h4 : ¬ ((191 : Int) < k) := by omega
  clear h hn
  go_enter Tryd.func81, Tryd.ntmps81
  go_wp2_with fail
  go_returns
  exact ⟨rfl, ((Mod.refl _ w).alloc _).alloc _⟩

set_option maxHeartbeats 800000 in
set_option maxRecDepth 1000000 in
theorem byteTally_upp (k : Nat) (w : World) (h : 191 < k) (hn : ¬ 240 ≤ k) : Calls Tryd.prog 81 #[.int .u8 k] w fun e w' => e = .returned (.agg #[.int .i64 1, .int .i64 0, .int .i64 1, .int .i64 1]) ∧ Ext w w' := by
  have h1 : ¬ ((k : Int) < 128) := by omega
  have h2 : ¬ ((240 : Int) ≤ k) := by omega
  have h3 : ((k : Int) == 10) = false := by simp; omega
  have h4 : (191 : Int) < k := by omega
  clear h hn
  go_enter Tryd.func81, Tryd.ntmps81
  go_wp2_with fail
  go_returns
  exact ⟨rfl, ((Mod.refl _ w).alloc _).alloc _⟩

set_option maxHeartbeats 800000 in
set_option maxRecDepth 1000000 in
theorem byteTally_top (k : Nat) (w : World) (h : 240 ≤ k) : Calls Tryd.prog 81 #[.int .u8 k] w fun e w' => e = .returned (.agg #[.int .i64 1, .int .i64 0, .int .i64 1, .int .i64 2]) ∧ Ext w w' := by
  have h1 : ¬ ((k : Int) < 128) := by omega
  have h2 : (240 : Int) ≤ k := by omega
  have h3 : ((k : Int) == 10) = false := by simp; omega
  have h4 : (191 : Int) < k := by omega
  clear h
  go_enter Tryd.func81, Tryd.ntmps81
  go_wp2_with fail
  go_returns
  exact ⟨rfl, ((Mod.refl _ w).alloc _).alloc _⟩

theorem byteTally_any (c : UInt8) (w : World) : Calls Tryd.prog 81 #[.int .u8 c.toNat] w fun e w' => e = .returned (.agg (#[Value.int IntKind.i64 ((byt ([c]) : Nat) : Int), Value.int IntKind.i64 ((brk ([c]) : Nat) : Int), Value.int IntKind.i64 ((run ([c]) : Nat) : Int), Value.int IntKind.i64 ((unt ([c]) : Nat) : Int)] : Array Value)) ∧ Ext w w' := by
  have ht := tally_one c
  unfold tally at ht
  rw [ht]
  clear ht
  generalize c.toNat = k
  by_cases h10 : k = 10
  · subst h10; exact byteTally_nl _ w rfl
  by_cases h1 : k < 128
  · rw [if_neg h10, if_pos (.inl h1), if_pos h1]; exact byteTally_low k w h1 h10
  by_cases h2 : 191 < k
  · rw [if_neg h10, if_pos (.inr h2), if_neg h1]
    by_cases h3 : 240 ≤ k
    · rw [if_pos h3]; exact byteTally_top k w h3
    · rw [if_neg h3, if_pos h2]; exact byteTally_upp k w h2 h3
  · rw [if_neg h10, if_neg (fun h => h.elim h1 h2), if_neg h1, if_neg (show ¬ 240 ≤ k by omega), if_neg h2]; exact byteTally_mid k w h1 h2

set_option maxHeartbeats 800000 in
set_option maxRecDepth 1000000 in
theorem plus_any (a b : List UInt8) (w : World) (h : a.length + b.length ≤ 100000000) : Calls Tryd.prog 79 #[.agg (#[Value.int IntKind.i64 ((byt (a) : Nat) : Int), Value.int IntKind.i64 ((brk (a) : Nat) : Int), Value.int IntKind.i64 ((run (a) : Nat) : Int), Value.int IntKind.i64 ((unt (a) : Nat) : Int)] : Array Value), .agg (#[Value.int IntKind.i64 ((byt (b) : Nat) : Int), Value.int IntKind.i64 ((brk (b) : Nat) : Int), Value.int IntKind.i64 ((run (b) : Nat) : Int), Value.int IntKind.i64 ((unt (b) : Nat) : Int)] : Array Value)] w fun e w' => e = .returned (.agg (#[Value.int IntKind.i64 ((byt (a ++ b) : Nat) : Int), Value.int IntKind.i64 ((brk (a ++ b) : Nat) : Int), Value.int IntKind.i64 ((run (a ++ b) : Nat) : Int), Value.int IntKind.i64 ((unt (a ++ b) : Nat) : Int)] : Array Value)) ∧ Ext w w' := by
  have h1 : ∀ x y : Nat, x + y ≤ 1000000000 → ((x + y : Nat) : Int) = wrap64 ((x : Int) + (y : Int)) := fun x y h => by rw [IntWalk.wrap64_in _ ⟨by omega, by omega⟩]; omega
  simp only [byt_append, brk_append, run_append, unt_append]
  have hb1 : byt a = a.length := rfl
  have hb2 : byt b = b.length := rfl
  rw [h1 (byt a) (byt b) (by omega), h1 (brk a) (brk b) (by have := brk_le a; have := brk_le b; omega), h1 (run a) (run b) (by have := run_le a; have := run_le b; omega), h1 (unt a) (unt b) (by have := unt_le a; have := unt_le b; omega)]
  clear h1 h hb1 hb2
  generalize byt a = a1 
  generalize byt b = b1 
  generalize brk a = a2
  generalize brk b = b2
  generalize run a = a3
  generalize run b = b3
  generalize unt a = a4
  generalize unt b = b4
  go_enter Tryd.func79, Tryd.ntmps79
  go_wp2_with fail
  go_returns
  exact ⟨rfl, (((Mod.refl _ w).alloc _).alloc _).alloc _⟩

end Go.Proofs.YtmecdhbiinpepaaDoor
namespace Go.Gim
open Go.RowKit
theorem Blk.tal {w : World} {b : Nat} {T : TypeId} {l : List UInt8} (h : Blk w b T (#[Value.int IntKind.i64 ((byt (l) : Nat) : Int), Value.int IntKind.i64 ((brk (l) : Nat) : Int), Value.int IntKind.i64 ((run (l) : Nat) : Int), Value.int IntKind.i64 ((unt (l) : Nat) : Int)] : Array Value)) :
    w.cell? ⟨b, 0, none⟩ = some (.int .i64 (byt l : Nat)) ∧ w.cell? ⟨b, 1, none⟩ = some (.int .i64 (brk l : Nat)) ∧ w.cell? ⟨b, 2, none⟩ = some (.int .i64 (run l : Nat)) ∧ w.cell? ⟨b, 3, none⟩ = some (.int .i64 (unt l : Nat)) ∧
    w.frozen? ⟨b, 0, none⟩ = false ∧ w.frozen? ⟨b, 1, none⟩ = false ∧ w.frozen? ⟨b, 2, none⟩ = false ∧ w.frozen? ⟨b, 3, none⟩ = false :=
  ⟨h.cell 0, h.cell 1, h.cell 2, h.cell 3, h.free 0, h.free 1, h.free 2, h.free 3⟩
end Go.Gim
namespace Go.Proofs.YtmecdhbiinpepaaDoor
open Go.RowKit Go.Gim
end Go.Proofs.YtmecdhbiinpepaaDoor

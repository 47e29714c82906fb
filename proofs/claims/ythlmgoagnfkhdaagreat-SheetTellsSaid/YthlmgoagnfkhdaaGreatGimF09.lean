/- What package tally's functions compute: of a byte, together, of a text, by a way. Conditions: texts of at most 1000000 bytes. -/
import Derived.Test.YthlmgoagnfkhdaaGreatGimF02
import Derived.Test.YthlmgoagnfkhdaaGreatGimF05
import Derived.Test.YthlmgoagnfkhdaaGreatGimF01
import Derived.Test.YthlmgoagnfkhdaaGreatRows
import Derived.Handy
import Derived.Laws.Rows
set_option maxHeartbeats 6400000
set_option maxRecDepth 1000000
set_option linter.unusedVariables false
set_option linter.unusedSimpArgs false
namespace Go.Proofs.YthlmgoagnfkhdaaGreat
open Go.RowKit Go.Gim
theorem tally_one (c : UInt8) : tally [c] = #[.int .i64 1, .int .i64 (if c.toNat = 10 then 1 else 0), .int .i64 (if c.toNat < 128 ∨ 191 < c.toNat then 1 else 0), .int .i64 (if c.toNat < 128 then 1 else if 240 ≤ c.toNat then 2 else if 191 < c.toNat then 1 else 0)] := by
 have e10 : (c = 10) ↔ c.toNat = 10 := by rw [← UInt8.toNat_inj]; rfl
 have e128 : (c < 128) ↔ c.toNat < 128 := by rw [UInt8.lt_iff_toNat_lt]; rfl
 have e191 : (191 < c) ↔ 191 < c.toNat := by rw [UInt8.lt_iff_toNat_lt]; rfl
 have e240 : (240 ≤ c) ↔ 240 ≤ c.toNat := by rw [UInt8.le_iff_toNat_le]; rfl
 have h1 : brk [c] = if c.toNat = 10 then 1 else 0 := by simp [brk, List.countP_cons, e10]
 have h2 : run [c] = if c.toNat < 128 ∨ 191 < c.toNat then 1 else 0 := by simp [run, List.countP_cons, e128, e191]
 have h3 : big [c] = if 240 ≤ c.toNat then 1 else 0 := by simp [big, List.countP_cons, e240]
 have h4 : unt [c] = if c.toNat < 128 then 1 else if 240 ≤ c.toNat then 2 else if 191 < c.toNat then 1 else 0 := by
  rw [unt, h2, h3]; repeat' split
  all_goals omega
 unfold tally
 rw [h1, h2, h4]
 rw [show byt [c] = 1 from rfl]
 repeat' split
 all_goals rfl
theorem byteTally_nl (k : Nat) (w : World) (h : k = 10) : Calls Tryz.prog 181 #[.int .u8 k] w fun e w' => e = .returned (.agg #[.int .i64 1, .int .i64 1, .int .i64 1, .int .i64 1]) ∧ Ext w w' := by
 subst h
 go_enter Tryz.func181, Tryz.ntmps181
 go_wp2_with fail
 go_returns
 exact ⟨rfl, ((Mod.refl _ w).alloc _).alloc _⟩
theorem byteTally_low (k : Nat) (w : World) (h : k < 128) (hn : k ≠ 10) : Calls Tryz.prog 181 #[.int .u8 k] w fun e w' => e = .returned (.agg #[.int .i64 1, .int .i64 0, .int .i64 1, .int .i64 1]) ∧ Ext w w' := by
 have h1 : (k : Int) < 128 := by omega
 have h2 : ¬ ((240 : Int) ≤ k) := by omega
 have h3 : ((k : Int) == 10) = false := by simp; omega
 have h4 : ¬ ((191 : Int) < k) := by omega
 clear h hn
 go_enter Tryz.func181, Tryz.ntmps181
 go_wp2_with fail
 go_returns
 exact ⟨rfl, ((Mod.refl _ w).alloc _).alloc _⟩
theorem byteTally_mid (k : Nat) (w : World) (h : ¬ k < 128) (hn : ¬ 191 < k) : Calls Tryz.prog 181 #[.int .u8 k] w fun e w' => e = .returned (.agg #[.int .i64 1, .int .i64 0, .int .i64 0, .int .i64 0]) ∧ Ext w w' := by
 have h1 : ¬ ((k : Int) < 128) := by omega
 have h2 : ¬ ((240 : Int) ≤ k) := by omega
 have h3 : ((k : Int) == 10) = false := by simp; omega
 have h4 : ¬ ((191 : Int) < k) := by omega
 clear h hn
 go_enter Tryz.func181, Tryz.ntmps181
 go_wp2_with fail
 go_returns
 exact ⟨rfl, ((Mod.refl _ w).alloc _).alloc _⟩
theorem byteTally_upp (k : Nat) (w : World) (h : 191 < k) (hn : ¬ 240 ≤ k) : Calls Tryz.prog 181 #[.int .u8 k] w fun e w' => e = .returned (.agg #[.int .i64 1, .int .i64 0, .int .i64 1, .int .i64 1]) ∧ Ext w w' := by
 have h1 : ¬ ((k : Int) < 128) := by omega
 have h2 : ¬ ((240 : Int) ≤ k) := by omega
 have h3 : ((k : Int) == 10) = false := by simp; omega
 have h4 : (191 : Int) < k := by omega
 clear h hn
 go_enter Tryz.func181, Tryz.ntmps181
 go_wp2_with fail
 go_returns
 exact ⟨rfl, ((Mod.refl _ w).alloc _).alloc _⟩
theorem byteTally_top (k : Nat) (w : World) (h : 240 ≤ k) : Calls Tryz.prog 181 #[.int .u8 k] w fun e w' => e = .returned (.agg #[.int .i64 1, .int .i64 0, .int .i64 1, .int .i64 2]) ∧ Ext w w' := by
 have h1 : ¬ ((k : Int) < 128) := by omega
 have h2 : (240 : Int) ≤ k := by omega
 have h3 : ((k : Int) == 10) = false := by simp; omega
 have h4 : (191 : Int) < k := by omega
 clear h
 go_enter Tryz.func181, Tryz.ntmps181
 go_wp2_with fail
 go_returns
 exact ⟨rfl, ((Mod.refl _ w).alloc _).alloc _⟩
theorem byteTally_any (c : UInt8) (w : World) : Calls Tryz.prog 181 #[.int .u8 c.toNat] w fun e w' => e = .returned (.agg (#[Value.int IntKind.i64 ((byt ([c]) : Nat) : Int), Value.int IntKind.i64 ((brk ([c]) : Nat) : Int), Value.int IntKind.i64 ((run ([c]) : Nat) : Int), Value.int IntKind.i64 ((unt ([c]) : Nat) : Int)] : Array Value)) ∧ Ext w w' := by
 have ht := tally_one c
 unfold tally at ht
 rw [ht]
 clear ht
 generalize c.toNat = k
 by_cases h10 : k = 10
 ·subst h10; exact byteTally_nl _ w rfl
 by_cases h1 : k < 128
 ·rw [if_neg h10, if_pos (.inl h1), if_pos h1]; exact byteTally_low k w h1 h10
 by_cases h2 : 191 < k
 ·rw [if_neg h10, if_pos (.inr h2), if_neg h1]
  by_cases h3 : 240 ≤ k
  ·rw [if_pos h3]; exact byteTally_top k w h3
  ·rw [if_neg h3, if_pos h2]; exact byteTally_upp k w h2 h3
 ·rw [if_neg h10, if_neg (fun h => h.elim h1 h2), if_neg h1, if_neg (show ¬ 240 ≤ k by omega), if_neg h2]; exact byteTally_mid k w h1 h2
theorem plus_any (a b : List UInt8) (w : World) (h : a.length + b.length ≤ 100000000) : Calls Tryz.prog 180 #[.agg (#[Value.int IntKind.i64 ((byt (a) : Nat) : Int), Value.int IntKind.i64 ((brk (a) : Nat) : Int), Value.int IntKind.i64 ((run (a) : Nat) : Int), Value.int IntKind.i64 ((unt (a) : Nat) : Int)] : Array Value), .agg (#[Value.int IntKind.i64 ((byt (b) : Nat) : Int), Value.int IntKind.i64 ((brk (b) : Nat) : Int), Value.int IntKind.i64 ((run (b) : Nat) : Int), Value.int IntKind.i64 ((unt (b) : Nat) : Int)] : Array Value)] w fun e w' => e = .returned (.agg (#[Value.int IntKind.i64 ((byt (a ++ b) : Nat) : Int), Value.int IntKind.i64 ((brk (a ++ b) : Nat) : Int), Value.int IntKind.i64 ((run (a ++ b) : Nat) : Int), Value.int IntKind.i64 ((unt (a ++ b) : Nat) : Int)] : Array Value)) ∧ Ext w w' := by
 have h1 : ∀ x y : Nat, x + y ≤ 1000000000 → ((x + y : Nat) : Int) = wrap64 ((x : Int) + (y : Int)) := fun x y h => by rw [IntWalk.wrap64_in _ ⟨by omega, by omega⟩]; omega
 simp only [byt_append, brk_append, run_append, unt_append]
 have hb1 : byt a = a.length := rfl
 have hb2 : byt b = b.length := rfl
 rw [h1 (byt a) (byt b) (by omega), h1 (brk a) (brk b) (by have := brk_le a; have := brk_le b; omega), h1 (run a) (run b) (by have := run_le a; have := run_le b; omega), h1 (unt a) (unt b) (by have := unt_le a; have := unt_le b; omega)]
 clear h1 h hb1 hb2
 generalize byt a = a1 
 generalize byt b = b1 
 generalize brk a = a2
 generalize brk b = b2
 generalize run a = a3
 generalize run b = b3
 generalize unt a = a4
 generalize unt b = b4
 go_enter Tryz.func180, Tryz.ntmps180
 go_wp2_with fail
 go_returns
 exact ⟨rfl, (((Mod.refl _ w).alloc _).alloc _).alloc _⟩
end Go.Proofs.YthlmgoagnfkhdaaGreat
namespace Go.Gim
open Go.RowKit
theorem Blk.tal {w : World} {b : Nat} {T : TypeId} {l : List UInt8} (h : Blk w b T (#[Value.int IntKind.i64 ((byt (l) : Nat) : Int), Value.int IntKind.i64 ((brk (l) : Nat) : Int), Value.int IntKind.i64 ((run (l) : Nat) : Int), Value.int IntKind.i64 ((unt (l) : Nat) : Int)] : Array Value)) :
  w.cell? ⟨b, 0, none⟩ = some (.int .i64 (byt l : Nat)) ∧ w.cell? ⟨b, 1, none⟩ = some (.int .i64 (brk l : Nat)) ∧ w.cell? ⟨b, 2, none⟩ = some (.int .i64 (run l : Nat)) ∧ w.cell? ⟨b, 3, none⟩ = some (.int .i64 (unt l : Nat)) ∧
  w.frozen? ⟨b, 0, none⟩ = false ∧ w.frozen? ⟨b, 1, none⟩ = false ∧ w.frozen? ⟨b, 2, none⟩ = false ∧ w.frozen? ⟨b, 3, none⟩ = false :=
 ⟨h.cell 0, h.cell 1, h.cell 2, h.cell 3, h.free 0, h.free 1, h.free 2, h.free 3⟩
end Go.Gim
namespace Go.Proofs.YthlmgoagnfkhdaaGreat
open Go.RowKit Go.Gim
end Go.Proofs.YthlmgoagnfkhdaaGreat
namespace Go.Gim
open Go.RowKit
theorem Blk.new1 (w : World) (o : Obj) (T : TypeId) (cs : Array Value) : Blk ((w.alloc o).alloc (.cells cs T)) (w.heap.size + 1) T cs := by
 have := Blk.new (w.alloc o) T cs
 simpa using this
end Go.Gim
namespace Go.Proofs.YthlmgoagnfkhdaaGreat
open Go.RowKit Go.Gim
theorem tallySize : (Tryz.prog.info? 147).map (·.size) = some 4 := by kernel_rfl
theorem of_any (s : ByteArray) (w : World) (hs : s.size ≤ 1000000) : Calls Tryz.prog 142 #[.string s] w fun e w' => e = .returned (.agg (#[Value.int IntKind.i64 ((byt (s.data.toList) : Nat) : Int), Value.int IntKind.i64 ((brk (s.data.toList) : Nat) : Int), Value.int IntKind.i64 ((run (s.data.toList) : Nat) : Int), Value.int IntKind.i64 ((unt (s.data.toList) : Nat) : Int)] : Array Value)) ∧ Ext w w' := by
 go_enter Tryz.func142, Tryz.ntmps142
 go_wp2_with fail
 go_loopw [4] (fun i wr => ∃ k : Nat, k ≤ s.size ∧ i = .int .i64 k ∧ Blk wr (w.heap.size + 1) 147 (#[Value.int IntKind.i64 ((byt (s.data.toList.take k) : Nat) : Int), Value.int IntKind.i64 ((brk (s.data.toList.take k) : Nat) : Int), Value.int IntKind.i64 ((run (s.data.toList.take k) : Nat) : Int), Value.int IntKind.i64 ((unt (s.data.toList.take k) : Nat) : Int)] : Array Value) ∧ Blk wr w.heap.size 147 (#[Value.int IntKind.i64 ((byt ([]) : Nat) : Int), Value.int IntKind.i64 ((brk ([]) : Nat) : Int), Value.int IntKind.i64 ((run ([]) : Nat) : Int), Value.int IntKind.i64 ((unt ([]) : Nat) : Int)] : Array Value) ∧ Ext w wr) (fun i _ => s.size - (intOf i).toNat)
 case atStart => exact ⟨0, by omega, rfl, Blk.new1 _ _ _ _, (Blk.new _ _ _).alloc _, ((Mod.refl _ w).alloc _).alloc _⟩
 case round =>
  obtain ⟨k, hk, rfl, hb, hr, hx⟩ := hrel
  by_cases hlt : k < s.size
  ·have hlt' : (k : Int) < (s.size : Int) := by omega
   obtain ⟨c0, c1, c2, c3, f0, f1, f2, f3⟩ := hb.tal
   have hlt2 := hb.lt
   go_wp2_with fail
   refine wp_region_ext_tail 6 (by kernel_rfl) (by kernel_rfl) ?_
   simp only [List.take_succ_cons, List.take_zero, List.drop_succ_cons, List.drop_zero]
   repeat (go_big_quiet_step (first | exact Calls.ext_of (byteTally_any _ _) | exact Calls.ext_of (plus_any (s.data.toList.take k) [s[k]] _ (by simp; omega))))
   refine wpQuiet_nil ?_
   intro we hxe
   clear c0 c1 c2 c3 f0 f1 f2 f3
   obtain ⟨c0, c1, c2, c3, f0, f1, f2, f3⟩ := (hb.mod hxe (fun f => f)).tal
   go_wp2_with fail
   go_roundw
   case rel =>
    refine ⟨k + 1, by omega, by go_num, ?_, ?_, ?_⟩
    ·rw [show s.data.toList.take (k + 1) = s.data.toList.take k ++ [s[k]] from by rw [← toList_get s k hlt, List.take_append_getElem]]
     exact ((((hb.mod hxe (fun f => f)).set 0 _).set 1 _).set 2 _).set 3 _
    ·exact ((((hr.mod hxe (fun f => f)).set_other (by simp) _).set_other (by simp) _).set_other (by simp) _).set_other (by simp) _
    ·exact ((((hx.ext_trans hxe).setCell (by simp) _).setCell (by simp) _).setCell (by simp) _).setCell (by simp) _
   case measure => simp [intOf]; omega
  ·have hlt' : ¬ ((k : Int) < (s.size : Int)) := by omega
   obtain ⟨c0, c1, c2, c3, f0, f1, f2, f3⟩ := hb.tal
   obtain ⟨d0, d1, d2, d3, g0, g1, g2, g3⟩ := hr.tal
   go_wp2_with fail
   have hres := ((((hr.set 0 (.int .i64 (byt (s.data.toList.take k) : Nat))).set 1 (.int .i64 (brk (s.data.toList.take k) : Nat))).set 2 (.int .i64 (run (s.data.toList.take k) : Nat))).set 3 (.int .i64 (unt (s.data.toList.take k) : Nat)))
   refine bodyPost_ret (results_cell_row rfl _ _ w.heap.size _ (#[Value.int IntKind.i64 ((byt (s.data.toList.take k) : Nat) : Int), Value.int IntKind.i64 ((brk (s.data.toList.take k) : Nat) : Int), Value.int IntKind.i64 ((run (s.data.toList.take k) : Nat) : Int), Value.int IntKind.i64 ((unt (s.data.toList.take k) : Nat) : Int)] : Array Value) (0, 0) _ rfl hres Tryz.underlying147 rfl tallySize) rfl ?_
   have e : s.data.toList.take k = s.data.toList := List.take_of_length_le (by rw [toList_length]; omega)
   rw [e]
   refine ⟨rfl, ?_⟩
   exact (((hx.setCell (by simp) _).setCell (by simp) _).setCell (by simp) _).setCell (by simp) _
abbrev nodeT : TypeId := 149
def NodeAt (w : World) (b : Nat) (tx : List UInt8) (own : ByteArray) (p : Int) (lp rp : Value) : Prop := Blk w b nodeT (#[Value.int IntKind.i64 ((byt (tx) : Nat) : Int), Value.int IntKind.i64 ((brk (tx) : Nat) : Int), Value.int IntKind.i64 ((run (tx) : Nat) : Int), Value.int IntKind.i64 ((unt (tx) : Nat) : Int), Value.string own, Value.int IntKind.i64 ((byt ((Array.toList (ByteArray.data own))) : Nat) : Int), Value.int IntKind.i64 ((brk ((Array.toList (ByteArray.data own))) : Nat) : Int), Value.int IntKind.i64 ((run ((Array.toList (ByteArray.data own))) : Nat) : Int), Value.int IntKind.i64 ((unt ((Array.toList (ByteArray.data own))) : Nat) : Int), Value.int IntKind.u32 p, lp, rp] : Array Value)
def TreeAt (w : World) : T → Prop
 | .nil => True
 | .node b own p l r => NodeAt w b (l.text ++ (own.data.toList ++ r.text)) own p (.pointer l.addr) (.pointer r.addr) ∧ TreeAt w l ∧ TreeAt w r
theorem TreeAt.lt {w : World} : ∀ {t : T}, TreeAt w t → ∀ k ∈ t.blocks, k < w.heap.size
 | .nil, _, k, hk => by cases hk
 | .node b own p l r, ⟨hn, hl, hr⟩, k, hk => by
  simp only [T.blocks, List.mem_cons, List.mem_append] at hk
  rcases hk with rfl | hk | hk
  ·exact Blk.lt hn
  ·exact hl.lt k hk
  ·exact hr.lt k hk
theorem TreeAt.mod {S : Nat → Prop} {w w' : World} : ∀ {t : T}, TreeAt w t → Mod S w w' → (∀ k ∈ t.blocks, ¬ S k) → TreeAt w' t
 | .nil, _, _, _ => trivial
 | .node b own p l r, ⟨hn, hl, hr⟩, hm, hS =>
  ⟨Blk.mod hn hm (hS b (by simp [T.blocks])), hl.mod hm (fun k hk => hS k (by simp [T.blocks, hk])), hr.mod hm (fun k hk => hS k (by simp [T.blocks, hk]))⟩
theorem TreeAt.drewN {w : World} {t : T} (h : TreeAt w t) (n : Nat) : TreeAt (w.drewN n) t := h.mod ((Mod.refl (fun _ => False) w).drewN n) (fun _ _ f => f)
theorem TreeAt.ext {w w' : World} {t : T} (h : TreeAt w t) (hm : Ext w w') : TreeAt w' t := h.mod hm (fun _ _ f => f)
theorem Blk.node {w : World} {b : Nat} {T : TypeId} {tx : List UInt8} {own : ByteArray} {p : Int} {lp rp : Value} (h : Blk w b T (#[Value.int IntKind.i64 ((byt (tx) : Nat) : Int), Value.int IntKind.i64 ((brk (tx) : Nat) : Int), Value.int IntKind.i64 ((run (tx) : Nat) : Int), Value.int IntKind.i64 ((unt (tx) : Nat) : Int), Value.string own, Value.int IntKind.i64 ((byt ((Array.toList (ByteArray.data own))) : Nat) : Int), Value.int IntKind.i64 ((brk ((Array.toList (ByteArray.data own))) : Nat) : Int), Value.int IntKind.i64 ((run ((Array.toList (ByteArray.data own))) : Nat) : Int), Value.int IntKind.i64 ((unt ((Array.toList (ByteArray.data own))) : Nat) : Int), Value.int IntKind.u32 p, lp, rp] : Array Value)) :
  (w.cell? ⟨b, 0, none⟩ = some (.int .i64 (byt tx : Nat)) ∧ w.cell? ⟨b, 1, none⟩ = some (.int .i64 (brk tx : Nat)) ∧ w.cell? ⟨b, 2, none⟩ = some (.int .i64 (run tx : Nat)) ∧ w.cell? ⟨b, 3, none⟩ = some (.int .i64 (unt tx : Nat))) ∧
  w.cell? ⟨b, 4, none⟩ = some (.string own) ∧
  (w.cell? ⟨b, 5, none⟩ = some (.int .i64 (byt own.data.toList : Nat)) ∧ w.cell? ⟨b, 6, none⟩ = some (.int .i64 (brk own.data.toList : Nat)) ∧ w.cell? ⟨b, 7, none⟩ = some (.int .i64 (run own.data.toList : Nat)) ∧ w.cell? ⟨b, 8, none⟩ = some (.int .i64 (unt own.data.toList : Nat))) ∧
  w.cell? ⟨b, 9, none⟩ = some (.int .u32 p) ∧ w.cell? ⟨b, 10, none⟩ = some lp ∧ w.cell? ⟨b, 11, none⟩ = some rp :=
 ⟨⟨h.cell 0, h.cell 1, h.cell 2, h.cell 3⟩, h.cell 4, ⟨h.cell 5, h.cell 6, h.cell 7, h.cell 8⟩, h.cell 9, h.cell 10, h.cell 11⟩
theorem Blk.free4 {w : World} {b : Nat} {T : TypeId} {cs : Array Value} (h : Blk w b T cs) : w.frozen? ⟨b, 0, none⟩ = false ∧ w.frozen? ⟨b, 1, none⟩ = false ∧ w.frozen? ⟨b, 2, none⟩ = false ∧ w.frozen? ⟨b, 3, none⟩ = false :=
 ⟨h.free 0, h.free 1, h.free 2, h.free 3⟩
theorem size_nil (w : World) : Calls Tryz.prog 52 #[.pointer none] w fun e w' => e = .returned (.int .i64 0) ∧ w' = w := by
 go_enter Tryz.func52, Tryz.ntmps52
 go_wp2
 go_ret
 exact ⟨rfl, rfl⟩
theorem size_node (b : Nat) (k : Int) (w : World) (h0 : w.cell? ⟨b, 0, none⟩ = some (.int .i64 k)) : Calls Tryz.prog 52 #[.pointer (some ⟨b, 0, none⟩)] w fun e w' => e = .returned (.int .i64 k) ∧ w' = w := by
 go_enter Tryz.func52, Tryz.ntmps52
 go_wp2
 go_ret
 exact ⟨rfl, rfl⟩
theorem size_any (t : T) (w : World) (h : TreeAt w t) : Calls Tryz.prog 52 #[(.pointer t.addr)] w fun e w' => e = .returned (.int .i64 (t.size : Nat)) ∧ w' = w := by
 cases t with
 | nil => exact size_nil w
 | node b own p l r => exact size_node b _ w (Blk.node h.1).1.1
theorem pull_nn (b bl br : Nat) (tx lt rt : List UInt8) (own lo ro : ByteArray) (p lpr rpr : Int) (l1 l2 r1 r2 : Value) (w : World)
  (hb : Blk w b nodeT (#[Value.int IntKind.i64 ((byt (tx) : Nat) : Int), Value.int IntKind.i64 ((brk (tx) : Nat) : Int), Value.int IntKind.i64 ((run (tx) : Nat) : Int), Value.int IntKind.i64 ((unt (tx) : Nat) : Int), Value.string own, Value.int IntKind.i64 ((byt ((Array.toList (ByteArray.data own))) : Nat) : Int), Value.int IntKind.i64 ((brk ((Array.toList (ByteArray.data own))) : Nat) : Int), Value.int IntKind.i64 ((run ((Array.toList (ByteArray.data own))) : Nat) : Int), Value.int IntKind.i64 ((unt ((Array.toList (ByteArray.data own))) : Nat) : Int), Value.int IntKind.u32 p, .pointer (some ⟨bl, 0, none⟩), .pointer (some ⟨br, 0, none⟩)] : Array Value))
  (hl : Blk w bl nodeT (#[Value.int IntKind.i64 ((byt (lt) : Nat) : Int), Value.int IntKind.i64 ((brk (lt) : Nat) : Int), Value.int IntKind.i64 ((run (lt) : Nat) : Int), Value.int IntKind.i64 ((unt (lt) : Nat) : Int), Value.string lo, Value.int IntKind.i64 ((byt ((Array.toList (ByteArray.data lo))) : Nat) : Int), Value.int IntKind.i64 ((brk ((Array.toList (ByteArray.data lo))) : Nat) : Int), Value.int IntKind.i64 ((run ((Array.toList (ByteArray.data lo))) : Nat) : Int), Value.int IntKind.i64 ((unt ((Array.toList (ByteArray.data lo))) : Nat) : Int), Value.int IntKind.u32 lpr, l1, l2] : Array Value)) (hr : Blk w br nodeT (#[Value.int IntKind.i64 ((byt (rt) : Nat) : Int), Value.int IntKind.i64 ((brk (rt) : Nat) : Int), Value.int IntKind.i64 ((run (rt) : Nat) : Int), Value.int IntKind.i64 ((unt (rt) : Nat) : Int), Value.string ro, Value.int IntKind.i64 ((byt ((Array.toList (ByteArray.data ro))) : Nat) : Int), Value.int IntKind.i64 ((brk ((Array.toList (ByteArray.data ro))) : Nat) : Int), Value.int IntKind.i64 ((run ((Array.toList (ByteArray.data ro))) : Nat) : Int), Value.int IntKind.i64 ((unt ((Array.toList (ByteArray.data ro))) : Nat) : Int), Value.int IntKind.u32 rpr, r1, r2] : Array Value)) (n1 : b ≠ bl) (n2 : b ≠ br) (hs : lt.length + own.size + rt.length ≤ 10000000) :
  Calls Tryz.prog 141 #[.pointer (some ⟨b, 0, none⟩)] w fun e w' => e = .returned (.tuple #[]) ∧ Mod (· = b) w w' ∧
   Blk w' b nodeT (#[Value.int IntKind.i64 ((byt (own.data.toList ++ (lt ++ rt)) : Nat) : Int), Value.int IntKind.i64 ((brk (own.data.toList ++ (lt ++ rt)) : Nat) : Int), Value.int IntKind.i64 ((run (own.data.toList ++ (lt ++ rt)) : Nat) : Int), Value.int IntKind.i64 ((unt (own.data.toList ++ (lt ++ rt)) : Nat) : Int), Value.string own, Value.int IntKind.i64 ((byt ((Array.toList (ByteArray.data own))) : Nat) : Int), Value.int IntKind.i64 ((brk ((Array.toList (ByteArray.data own))) : Nat) : Int), Value.int IntKind.i64 ((run ((Array.toList (ByteArray.data own))) : Nat) : Int), Value.int IntKind.i64 ((unt ((Array.toList (ByteArray.data own))) : Nat) : Int), Value.int IntKind.u32 p, .pointer (some ⟨bl, 0, none⟩), .pointer (some ⟨br, 0, none⟩)] : Array Value) := by
 obtain ⟨⟨c0, c1, c2, c3⟩, c4, ⟨c5, c6, c7, c8⟩, c9, c10, c11⟩ := Blk.node hb
 obtain ⟨f0, f1, f2, f3⟩ := Blk.free4 hb
 obtain ⟨⟨l0, l1', l2', l3⟩, _⟩ := Blk.node hl
 obtain ⟨⟨r0, r1', r2', r3⟩, _⟩ := Blk.node hr
 have g1 := hl.lt
 have g2 := hr.lt
 have g3 := hb.lt
 have m1 := n1.symm
 have m2 := n2.symm
 have hos : own.data.toList.length = own.size := rfl
 go_enter Tryz.func141, Tryz.ntmps141
 go_wp2_with fail
 refine wp_region_ext_tail 15 (by kernel_rfl) (by kernel_rfl) ?_
 simp only [List.take_succ_cons, List.take_zero, List.drop_succ_cons, List.drop_zero]
 repeat (go_big_quiet_step (exact Calls.ext_of (plus_any own.data.toList lt _ (by omega))))
 refine wpQuiet_nil ?_
 intro we hxe
 have hb2 : Blk we b nodeT (#[Value.int IntKind.i64 ((byt (own.data.toList) : Nat) : Int), Value.int IntKind.i64 ((brk (own.data.toList) : Nat) : Int), Value.int IntKind.i64 ((run (own.data.toList) : Nat) : Int), Value.int IntKind.i64 ((unt (own.data.toList) : Nat) : Int), Value.string own, Value.int IntKind.i64 ((byt ((Array.toList (ByteArray.data own))) : Nat) : Int), Value.int IntKind.i64 ((brk ((Array.toList (ByteArray.data own))) : Nat) : Int), Value.int IntKind.i64 ((run ((Array.toList (ByteArray.data own))) : Nat) : Int), Value.int IntKind.i64 ((unt ((Array.toList (ByteArray.data own))) : Nat) : Int), Value.int IntKind.u32 p, .pointer (some ⟨bl, 0, none⟩), .pointer (some ⟨br, 0, none⟩)] : Array Value) := ((((hb.set 0 _).set 1 _).set 2 _).set 3 _).mod hxe (fun f => f)
 have hr2 := ((((hr.set_other n2.symm _).set_other n2.symm _).set_other n2.symm _).set_other n2.symm _).mod hxe (fun f => f)
 have hm2 : Mod (· = b) w we := Mod.trans (((((Mod.refl (· = b) w).setCell (fun _ => rfl) _).setCell (fun _ => rfl) _).setCell (fun _ => rfl) _).setCell (fun _ => rfl) _) hxe (fun _ _ f => f.elim)
 clear c0 c1 c2 c3 c4 c5 c6 c7 c8 c9 c10 c11 f0 f1 f2 f3 l0 l1' l2' l3 r0 r1' r2' r3 g1 g2 g3
 obtain ⟨⟨c0, c1, c2, c3⟩, c4, ⟨c5, c6, c7, c8⟩, c9, c10, c11⟩ := Blk.node hb2
 obtain ⟨f0, f1, f2, f3⟩ := Blk.free4 hb2
 obtain ⟨⟨r0, r1', r2', r3⟩, _⟩ := Blk.node hr2
 have g2 := hr2.lt
 have g3 := hb2.lt
 go_wp2_with fail
 refine wp_region_ext_tail 15 (by kernel_rfl) (by kernel_rfl) ?_
 simp only [List.take_succ_cons, List.take_zero, List.drop_succ_cons, List.drop_zero]
 repeat (go_big_quiet_step (exact Calls.ext_of (plus_any (own.data.toList ++ lt) rt _ (by simp; omega))))
 refine wpQuiet_nil ?_
 intro we hxe
 have hb3 : Blk we b nodeT (#[Value.int IntKind.i64 ((byt (own.data.toList ++ lt) : Nat) : Int), Value.int IntKind.i64 ((brk (own.data.toList ++ lt) : Nat) : Int), Value.int IntKind.i64 ((run (own.data.toList ++ lt) : Nat) : Int), Value.int IntKind.i64 ((unt (own.data.toList ++ lt) : Nat) : Int), Value.string own, Value.int IntKind.i64 ((byt ((Array.toList (ByteArray.data own))) : Nat) : Int), Value.int IntKind.i64 ((brk ((Array.toList (ByteArray.data own))) : Nat) : Int), Value.int IntKind.i64 ((run ((Array.toList (ByteArray.data own))) : Nat) : Int), Value.int IntKind.i64 ((unt ((Array.toList (ByteArray.data own))) : Nat) : Int), Value.int IntKind.u32 p, .pointer (some ⟨bl, 0, none⟩), .pointer (some ⟨br, 0, none⟩)] : Array Value) := ((((hb2.set 0 _).set 1 _).set 2 _).set 3 _).mod hxe (fun f => f)
 have hm3 : Mod (· = b) w we := Mod.trans ((((hm2.setCell (fun _ => rfl) _).setCell (fun _ => rfl) _).setCell (fun _ => rfl) _).setCell (fun _ => rfl) _) hxe (fun _ _ f => f.elim)
 clear c0 c1 c2 c3 c4 c5 c6 c7 c8 c9 c10 c11 f0 f1 f2 f3 r0 r1' r2' r3 g2 g3
 obtain ⟨⟨c0, c1, c2, c3⟩, c4, ⟨c5, c6, c7, c8⟩, c9, c10, c11⟩ := Blk.node hb3
 obtain ⟨f0, f1, f2, f3⟩ := Blk.free4 hb3
 go_wp2_with fail
 go_returns
 exact ⟨rfl, (((hm3.setCell (fun _ => rfl) _).setCell (fun _ => rfl) _).setCell (fun _ => rfl) _).setCell (fun _ => rfl) _, (((hb3.set 0 _).set 1 _).set 2 _).set 3 _⟩
theorem pull_rl (b bl : Nat) (tx lt : List UInt8) (own lo : ByteArray) (p lpr : Int) (l1 l2 : Value) (w : World)
  (hb : Blk w b nodeT (#[Value.int IntKind.i64 ((byt (tx) : Nat) : Int), Value.int IntKind.i64 ((brk (tx) : Nat) : Int), Value.int IntKind.i64 ((run (tx) : Nat) : Int), Value.int IntKind.i64 ((unt (tx) : Nat) : Int), Value.string own, Value.int IntKind.i64 ((byt ((Array.toList (ByteArray.data own))) : Nat) : Int), Value.int IntKind.i64 ((brk ((Array.toList (ByteArray.data own))) : Nat) : Int), Value.int IntKind.i64 ((run ((Array.toList (ByteArray.data own))) : Nat) : Int), Value.int IntKind.i64 ((unt ((Array.toList (ByteArray.data own))) : Nat) : Int), Value.int IntKind.u32 p, .pointer (some ⟨bl, 0, none⟩), .pointer none] : Array Value))
  (hl : Blk w bl nodeT (#[Value.int IntKind.i64 ((byt (lt) : Nat) : Int), Value.int IntKind.i64 ((brk (lt) : Nat) : Int), Value.int IntKind.i64 ((run (lt) : Nat) : Int), Value.int IntKind.i64 ((unt (lt) : Nat) : Int), Value.string lo, Value.int IntKind.i64 ((byt ((Array.toList (ByteArray.data lo))) : Nat) : Int), Value.int IntKind.i64 ((brk ((Array.toList (ByteArray.data lo))) : Nat) : Int), Value.int IntKind.i64 ((run ((Array.toList (ByteArray.data lo))) : Nat) : Int), Value.int IntKind.i64 ((unt ((Array.toList (ByteArray.data lo))) : Nat) : Int), Value.int IntKind.u32 lpr, l1, l2] : Array Value)) (n1 : b ≠ bl) (hs : lt.length + own.size ≤ 10000000) :
  Calls Tryz.prog 141 #[.pointer (some ⟨b, 0, none⟩)] w fun e w' => e = .returned (.tuple #[]) ∧ Mod (· = b) w w' ∧
   Blk w' b nodeT (#[Value.int IntKind.i64 ((byt (own.data.toList ++ lt) : Nat) : Int), Value.int IntKind.i64 ((brk (own.data.toList ++ lt) : Nat) : Int), Value.int IntKind.i64 ((run (own.data.toList ++ lt) : Nat) : Int), Value.int IntKind.i64 ((unt (own.data.toList ++ lt) : Nat) : Int), Value.string own, Value.int IntKind.i64 ((byt ((Array.toList (ByteArray.data own))) : Nat) : Int), Value.int IntKind.i64 ((brk ((Array.toList (ByteArray.data own))) : Nat) : Int), Value.int IntKind.i64 ((run ((Array.toList (ByteArray.data own))) : Nat) : Int), Value.int IntKind.i64 ((unt ((Array.toList (ByteArray.data own))) : Nat) : Int), Value.int IntKind.u32 p, .pointer (some ⟨bl, 0, none⟩), .pointer none] : Array Value) := by
 obtain ⟨⟨c0, c1, c2, c3⟩, c4, ⟨c5, c6, c7, c8⟩, c9, c10, c11⟩ := Blk.node hb
 obtain ⟨f0, f1, f2, f3⟩ := Blk.free4 hb
 obtain ⟨⟨l0, l1', l2', l3⟩, _⟩ := Blk.node hl
 have g1 := hl.lt
 have m1 := n1.symm
 have g3 := hb.lt
 have hos : own.data.toList.length = own.size := rfl
 go_enter Tryz.func141, Tryz.ntmps141
 go_wp2_with fail
 refine wp_region_ext_tail 15 (by kernel_rfl) (by kernel_rfl) ?_
 simp only [List.take_succ_cons, List.take_zero, List.drop_succ_cons, List.drop_zero]
 repeat (go_big_quiet_step (exact Calls.ext_of (plus_any own.data.toList lt _ (by omega))))
 refine wpQuiet_nil ?_
 intro we hxe
 have hb2 : Blk we b nodeT (#[Value.int IntKind.i64 ((byt (own.data.toList) : Nat) : Int), Value.int IntKind.i64 ((brk (own.data.toList) : Nat) : Int), Value.int IntKind.i64 ((run (own.data.toList) : Nat) : Int), Value.int IntKind.i64 ((unt (own.data.toList) : Nat) : Int), Value.string own, Value.int IntKind.i64 ((byt ((Array.toList (ByteArray.data own))) : Nat) : Int), Value.int IntKind.i64 ((brk ((Array.toList (ByteArray.data own))) : Nat) : Int), Value.int IntKind.i64 ((run ((Array.toList (ByteArray.data own))) : Nat) : Int), Value.int IntKind.i64 ((unt ((Array.toList (ByteArray.data own))) : Nat) : Int), Value.int IntKind.u32 p, .pointer (some ⟨bl, 0, none⟩), .pointer none] : Array Value) := ((((hb.set 0 _).set 1 _).set 2 _).set 3 _).mod hxe (fun f => f)
 have hm2 : Mod (· = b) w we := Mod.trans (((((Mod.refl (· = b) w).setCell (fun _ => rfl) _).setCell (fun _ => rfl) _).setCell (fun _ => rfl) _).setCell (fun _ => rfl) _) hxe (fun _ _ f => f.elim)
 clear c0 c1 c2 c3 c4 c5 c6 c7 c8 c9 c10 c11 f0 f1 f2 f3 l0 l1' l2' l3 g1 g3
 obtain ⟨⟨c0, c1, c2, c3⟩, c4, ⟨c5, c6, c7, c8⟩, c9, c10, c11⟩ := Blk.node hb2
 obtain ⟨f0, f1, f2, f3⟩ := Blk.free4 hb2
 go_wp2_with fail
 go_returns
 exact ⟨rfl, (((hm2.setCell (fun _ => rfl) _).setCell (fun _ => rfl) _).setCell (fun _ => rfl) _).setCell (fun _ => rfl) _, (((hb2.set 0 _).set 1 _).set 2 _).set 3 _⟩
theorem pull_lr (b br : Nat) (tx lt : List UInt8) (own lo : ByteArray) (p lpr : Int) (l1 l2 : Value) (w : World)
  (hb : Blk w b nodeT (#[Value.int IntKind.i64 ((byt (tx) : Nat) : Int), Value.int IntKind.i64 ((brk (tx) : Nat) : Int), Value.int IntKind.i64 ((run (tx) : Nat) : Int), Value.int IntKind.i64 ((unt (tx) : Nat) : Int), Value.string own, Value.int IntKind.i64 ((byt ((Array.toList (ByteArray.data own))) : Nat) : Int), Value.int IntKind.i64 ((brk ((Array.toList (ByteArray.data own))) : Nat) : Int), Value.int IntKind.i64 ((run ((Array.toList (ByteArray.data own))) : Nat) : Int), Value.int IntKind.i64 ((unt ((Array.toList (ByteArray.data own))) : Nat) : Int), Value.int IntKind.u32 p, .pointer none, .pointer (some ⟨br, 0, none⟩)] : Array Value))
  (hl : Blk w br nodeT (#[Value.int IntKind.i64 ((byt (lt) : Nat) : Int), Value.int IntKind.i64 ((brk (lt) : Nat) : Int), Value.int IntKind.i64 ((run (lt) : Nat) : Int), Value.int IntKind.i64 ((unt (lt) : Nat) : Int), Value.string lo, Value.int IntKind.i64 ((byt ((Array.toList (ByteArray.data lo))) : Nat) : Int), Value.int IntKind.i64 ((brk ((Array.toList (ByteArray.data lo))) : Nat) : Int), Value.int IntKind.i64 ((run ((Array.toList (ByteArray.data lo))) : Nat) : Int), Value.int IntKind.i64 ((unt ((Array.toList (ByteArray.data lo))) : Nat) : Int), Value.int IntKind.u32 lpr, l1, l2] : Array Value)) (n1 : b ≠ br) (hs : lt.length + own.size ≤ 10000000) :
  Calls Tryz.prog 141 #[.pointer (some ⟨b, 0, none⟩)] w fun e w' => e = .returned (.tuple #[]) ∧ Mod (· = b) w w' ∧
   Blk w' b nodeT (#[Value.int IntKind.i64 ((byt (own.data.toList ++ lt) : Nat) : Int), Value.int IntKind.i64 ((brk (own.data.toList ++ lt) : Nat) : Int), Value.int IntKind.i64 ((run (own.data.toList ++ lt) : Nat) : Int), Value.int IntKind.i64 ((unt (own.data.toList ++ lt) : Nat) : Int), Value.string own, Value.int IntKind.i64 ((byt ((Array.toList (ByteArray.data own))) : Nat) : Int), Value.int IntKind.i64 ((brk ((Array.toList (ByteArray.data own))) : Nat) : Int), Value.int IntKind.i64 ((run ((Array.toList (ByteArray.data own))) : Nat) : Int), Value.int IntKind.i64 ((unt ((Array.toList (ByteArray.data own))) : Nat) : Int), Value.int IntKind.u32 p, .pointer none, .pointer (some ⟨br, 0, none⟩)] : Array Value) := by
 obtain ⟨⟨c0, c1, c2, c3⟩, c4, ⟨c5, c6, c7, c8⟩, c9, c10, c11⟩ := Blk.node hb
 obtain ⟨f0, f1, f2, f3⟩ := Blk.free4 hb
 obtain ⟨⟨l0, l1', l2', l3⟩, _⟩ := Blk.node hl
 have g1 := hl.lt
 have m1 := n1.symm
 have g3 := hb.lt
 have hos : own.data.toList.length = own.size := rfl
 go_enter Tryz.func141, Tryz.ntmps141
 go_wp2_with fail
 refine wp_region_ext_tail 15 (by kernel_rfl) (by kernel_rfl) ?_
 simp only [List.take_succ_cons, List.take_zero, List.drop_succ_cons, List.drop_zero]
 repeat (go_big_quiet_step (exact Calls.ext_of (plus_any own.data.toList lt _ (by omega))))
 refine wpQuiet_nil ?_
 intro we hxe
 have hb2 : Blk we b nodeT (#[Value.int IntKind.i64 ((byt (own.data.toList) : Nat) : Int), Value.int IntKind.i64 ((brk (own.data.toList) : Nat) : Int), Value.int IntKind.i64 ((run (own.data.toList) : Nat) : Int), Value.int IntKind.i64 ((unt (own.data.toList) : Nat) : Int), Value.string own, Value.int IntKind.i64 ((byt ((Array.toList (ByteArray.data own))) : Nat) : Int), Value.int IntKind.i64 ((brk ((Array.toList (ByteArray.data own))) : Nat) : Int), Value.int IntKind.i64 ((run ((Array.toList (ByteArray.data own))) : Nat) : Int), Value.int IntKind.i64 ((unt ((Array.toList (ByteArray.data own))) : Nat) : Int), Value.int IntKind.u32 p, .pointer none, .pointer (some ⟨br, 0, none⟩)] : Array Value) := ((((hb.set 0 _).set 1 _).set 2 _).set 3 _).mod hxe (fun f => f)
 have hm2 : Mod (· = b) w we := Mod.trans (((((Mod.refl (· = b) w).setCell (fun _ => rfl) _).setCell (fun _ => rfl) _).setCell (fun _ => rfl) _).setCell (fun _ => rfl) _) hxe (fun _ _ f => f.elim)
 clear c0 c1 c2 c3 c4 c5 c6 c7 c8 c9 c10 c11 f0 f1 f2 f3 l0 l1' l2' l3 g1 g3
 obtain ⟨⟨c0, c1, c2, c3⟩, c4, ⟨c5, c6, c7, c8⟩, c9, c10, c11⟩ := Blk.node hb2
 obtain ⟨f0, f1, f2, f3⟩ := Blk.free4 hb2
 go_wp2_with fail
 go_returns
 exact ⟨rfl, (((hm2.setCell (fun _ => rfl) _).setCell (fun _ => rfl) _).setCell (fun _ => rfl) _).setCell (fun _ => rfl) _, (((hb2.set 0 _).set 1 _).set 2 _).set 3 _⟩
theorem pull_ll (b : Nat) (tx : List UInt8) (own : ByteArray) (p : Int) (w : World)
  (hb : Blk w b nodeT (#[Value.int IntKind.i64 ((byt (tx) : Nat) : Int), Value.int IntKind.i64 ((brk (tx) : Nat) : Int), Value.int IntKind.i64 ((run (tx) : Nat) : Int), Value.int IntKind.i64 ((unt (tx) : Nat) : Int), Value.string own, Value.int IntKind.i64 ((byt ((Array.toList (ByteArray.data own))) : Nat) : Int), Value.int IntKind.i64 ((brk ((Array.toList (ByteArray.data own))) : Nat) : Int), Value.int IntKind.i64 ((run ((Array.toList (ByteArray.data own))) : Nat) : Int), Value.int IntKind.i64 ((unt ((Array.toList (ByteArray.data own))) : Nat) : Int), Value.int IntKind.u32 p, .pointer none, .pointer none] : Array Value)) :
  Calls Tryz.prog 141 #[.pointer (some ⟨b, 0, none⟩)] w fun e w' => e = .returned (.tuple #[]) ∧ Mod (· = b) w w' ∧
   Blk w' b nodeT (#[Value.int IntKind.i64 ((byt (own.data.toList) : Nat) : Int), Value.int IntKind.i64 ((brk (own.data.toList) : Nat) : Int), Value.int IntKind.i64 ((run (own.data.toList) : Nat) : Int), Value.int IntKind.i64 ((unt (own.data.toList) : Nat) : Int), Value.string own, Value.int IntKind.i64 ((byt ((Array.toList (ByteArray.data own))) : Nat) : Int), Value.int IntKind.i64 ((brk ((Array.toList (ByteArray.data own))) : Nat) : Int), Value.int IntKind.i64 ((run ((Array.toList (ByteArray.data own))) : Nat) : Int), Value.int IntKind.i64 ((unt ((Array.toList (ByteArray.data own))) : Nat) : Int), Value.int IntKind.u32 p, .pointer none, .pointer none] : Array Value) := by
 obtain ⟨⟨c0, c1, c2, c3⟩, c4, ⟨c5, c6, c7, c8⟩, c9, c10, c11⟩ := Blk.node hb
 obtain ⟨f0, f1, f2, f3⟩ := Blk.free4 hb
 have g3 := hb.lt
 have hos : own.data.toList.length = own.size := rfl
 go_enter Tryz.func141, Tryz.ntmps141
 go_wp2_with fail
 go_returns
 exact ⟨rfl, ((((Mod.refl (· = b) w).setCell (fun _ => rfl) _).setCell (fun _ => rfl) _).setCell (fun _ => rfl) _).setCell (fun _ => rfl) _, (((hb.set 0 _).set 1 _).set 2 _).set 3 _⟩
theorem tal_turn (a b c : List UInt8) : byt (b ++ (a ++ c)) = byt (a ++ (b ++ c)) ∧ brk (b ++ (a ++ c)) = brk (a ++ (b ++ c)) ∧ run (b ++ (a ++ c)) = run (a ++ (b ++ c)) ∧ unt (b ++ (a ++ c)) = unt (a ++ (b ++ c)) := by
 simp only [byt_append, brk_append, run_append, unt_append]; omega
theorem pull_any (b : Nat) (own : ByteArray) (p : Int) (l r : T) (tx : List UInt8) (w : World) (hb : Blk w b nodeT (#[Value.int IntKind.i64 ((byt (tx) : Nat) : Int), Value.int IntKind.i64 ((brk (tx) : Nat) : Int), Value.int IntKind.i64 ((run (tx) : Nat) : Int), Value.int IntKind.i64 ((unt (tx) : Nat) : Int), Value.string own, Value.int IntKind.i64 ((byt ((Array.toList (ByteArray.data own))) : Nat) : Int), Value.int IntKind.i64 ((brk ((Array.toList (ByteArray.data own))) : Nat) : Int), Value.int IntKind.i64 ((run ((Array.toList (ByteArray.data own))) : Nat) : Int), Value.int IntKind.i64 ((unt ((Array.toList (ByteArray.data own))) : Nat) : Int), Value.int IntKind.u32 p, (.pointer l.addr), (.pointer r.addr)] : Array Value)) (hl : TreeAt w l) (hr : TreeAt w r)
  (nl : b ∉ l.blocks) (nr : b ∉ r.blocks) (hs : l.size + own.size + r.size ≤ 10000000) :
  Calls Tryz.prog 141 #[.pointer (some ⟨b, 0, none⟩)] w fun e w' => e = .returned (.tuple #[]) ∧ Mod (· = b) w w' ∧ TreeAt w' (.node b own p l r) := by
 obtain ⟨e1, e2, e3, e4⟩ := tal_turn l.text own.data.toList r.text
 suffices h : Calls Tryz.prog 141 #[.pointer (some ⟨b, 0, none⟩)] w fun e w' => e = .returned (.tuple #[]) ∧ Mod (· = b) w w' ∧ Blk w' b nodeT (#[Value.int IntKind.i64 ((byt (own.data.toList ++ (l.text ++ r.text)) : Nat) : Int), Value.int IntKind.i64 ((brk (own.data.toList ++ (l.text ++ r.text)) : Nat) : Int), Value.int IntKind.i64 ((run (own.data.toList ++ (l.text ++ r.text)) : Nat) : Int), Value.int IntKind.i64 ((unt (own.data.toList ++ (l.text ++ r.text)) : Nat) : Int), Value.string own, Value.int IntKind.i64 ((byt ((Array.toList (ByteArray.data own))) : Nat) : Int), Value.int IntKind.i64 ((brk ((Array.toList (ByteArray.data own))) : Nat) : Int), Value.int IntKind.i64 ((run ((Array.toList (ByteArray.data own))) : Nat) : Int), Value.int IntKind.i64 ((unt ((Array.toList (ByteArray.data own))) : Nat) : Int), Value.int IntKind.u32 p, (.pointer l.addr), (.pointer r.addr)] : Array Value) by
  refine h.mono ?_
  rintro e w' ⟨rfl, hm, hb'⟩
  rw [e1, e2, e3, e4] at hb'
  exact ⟨rfl, hm, hb', hl.mod hm (fun k hk e => nl (e ▸ hk)), hr.mod hm (fun k hk e => nr (e ▸ hk))⟩
 clear e1 e2 e3 e4
 cases l with
 | nil =>
  cases r with
  | nil =>
   have := pull_ll b tx own p w hb
   simpa [T.text, T.addr] using this
  | node br ro rp rl rr =>
   have := pull_lr b br tx _ own ro p rp _ _ w hb hr.1 (fun e => nr (by simp [T.blocks, e])) (by simp only [T.size, T.text] at hs ⊢; omega)
   simpa [T.text, T.addr] using this
 | node bl lo lp ll lr =>
  cases r with
  | nil =>
   have := pull_rl b bl tx _ own lo p lp _ _ w hb hl.1 (fun e => nl (by simp [T.blocks, e])) (by simp only [T.size, T.text] at hs ⊢; omega)
   simpa [T.text, T.addr] using this
  | node br ro rp rl rr =>
   have := pull_nn b bl br tx _ _ own lo ro p lp rp _ _ _ _ w hb hl.1 hr.1 (fun e => nl (by simp [T.blocks, e])) (fun e => nr (by simp [T.blocks, e])) (by simp only [T.size, T.text] at hs ⊢; omega)
   simpa [T.text, T.addr] using this
theorem relink_r {w w1 : World} {S : Nat → Prop} {b : Nat} {own : ByteArray} {p : Int} {l r t : T} (h : TreeAt w (.node b own p l r)) (hm : Mod S w w1) (hb : ¬ S b) (hl : ∀ k, k ∈ l.blocks → ¬ S k) (ht : TreeAt w1 t) (nl : b ∉ l.blocks) (nt : b ∉ t.blocks) :
  Blk (w1.setCell ⟨b, 11, none⟩ (.pointer t.addr)) b nodeT (#[Value.int IntKind.i64 ((byt (l.text ++ (own.data.toList ++ r.text)) : Nat) : Int), Value.int IntKind.i64 ((brk (l.text ++ (own.data.toList ++ r.text)) : Nat) : Int), Value.int IntKind.i64 ((run (l.text ++ (own.data.toList ++ r.text)) : Nat) : Int), Value.int IntKind.i64 ((unt (l.text ++ (own.data.toList ++ r.text)) : Nat) : Int), Value.string own, Value.int IntKind.i64 ((byt ((Array.toList (ByteArray.data own))) : Nat) : Int), Value.int IntKind.i64 ((brk ((Array.toList (ByteArray.data own))) : Nat) : Int), Value.int IntKind.i64 ((run ((Array.toList (ByteArray.data own))) : Nat) : Int), Value.int IntKind.i64 ((unt ((Array.toList (ByteArray.data own))) : Nat) : Int), Value.int IntKind.u32 p, .pointer l.addr, .pointer t.addr] : Array Value) ∧ TreeAt (w1.setCell ⟨b, 11, none⟩ (.pointer t.addr)) l ∧ TreeAt (w1.setCell ⟨b, 11, none⟩ (.pointer t.addr)) t :=
 have hs := (Mod.refl (· = b) w1).setCell (p := ⟨b, 11, none⟩) (fun _ => rfl) (.pointer t.addr)
 ⟨Blk.set (Blk.mod h.1 hm hb) 11 _, (h.2.1.mod hm hl).mod hs (fun _ hk e => nl (e ▸ hk)), ht.mod hs (fun _ hk e => nt (e ▸ hk))⟩
theorem relink_l {w w1 : World} {S : Nat → Prop} {b : Nat} {own : ByteArray} {p : Int} {l r t : T} (h : TreeAt w (.node b own p l r)) (hm : Mod S w w1) (hb : ¬ S b) (hr : ∀ k, k ∈ r.blocks → ¬ S k) (ht : TreeAt w1 t) (nr : b ∉ r.blocks) (nt : b ∉ t.blocks) :
  Blk (w1.setCell ⟨b, 10, none⟩ (.pointer t.addr)) b nodeT (#[Value.int IntKind.i64 ((byt (l.text ++ (own.data.toList ++ r.text)) : Nat) : Int), Value.int IntKind.i64 ((brk (l.text ++ (own.data.toList ++ r.text)) : Nat) : Int), Value.int IntKind.i64 ((run (l.text ++ (own.data.toList ++ r.text)) : Nat) : Int), Value.int IntKind.i64 ((unt (l.text ++ (own.data.toList ++ r.text)) : Nat) : Int), Value.string own, Value.int IntKind.i64 ((byt ((Array.toList (ByteArray.data own))) : Nat) : Int), Value.int IntKind.i64 ((brk ((Array.toList (ByteArray.data own))) : Nat) : Int), Value.int IntKind.i64 ((run ((Array.toList (ByteArray.data own))) : Nat) : Int), Value.int IntKind.i64 ((unt ((Array.toList (ByteArray.data own))) : Nat) : Int), Value.int IntKind.u32 p, .pointer t.addr, .pointer r.addr] : Array Value) ∧ TreeAt (w1.setCell ⟨b, 10, none⟩ (.pointer t.addr)) t ∧ TreeAt (w1.setCell ⟨b, 10, none⟩ (.pointer t.addr)) r :=
 have hs := (Mod.refl (· = b) w1).setCell (p := ⟨b, 10, none⟩) (fun _ => rfl) (.pointer t.addr)
 ⟨Blk.set (Blk.mod h.1 hm hb) 10 _, ht.mod hs (fun _ hk e => nt (e ▸ hk)), (h.2.2.mod hm hr).mod hs (fun _ hk e => nr (e ▸ hk))⟩
def MergePost (a b : T) (w : World) (e : Ending) (w' : World) : Prop :=
 ∃ t, e = .returned (.pointer t.addr) ∧ Merged a b t ∧ TreeAt w' t ∧ Mod (· ∈ a.blocks ++ b.blocks) w w'
theorem merge_nil_left (b : T) (w : World) (hb : TreeAt w b) : Calls Tryz.prog 106 #[.pointer none, .pointer b.addr] w (MergePost .nil b w) := by
 go_enter Tryz.func106, Tryz.ntmps106
 go_wp2_with fail
 go_ret
 exact ⟨b, rfl, .nil_left b, hb, Mod.refl _ _⟩
theorem merge_nil_right (ad : Addr) (a : T) (w : World) (ha : TreeAt w a) (he : a.addr = some ad) : Calls Tryz.prog 106 #[.pointer (some ad), .pointer none] w (MergePost a .nil w) := by
 have Ha := Lib.hid he
 clear he
 go_enter Tryz.func106, Tryz.ntmps106
 go_wp2_with fail
 go_ret
 exact ⟨a, by rw [Ha.out]; rfl, .nil_right a, ha, Mod.refl _ _⟩
theorem merge_any : ∀ (n : Nat) (a b : T), a.count + b.count ≤ n → ∀ w, TreeAt w a → TreeAt w b → (a.blocks ++ b.blocks).Nodup → a.size + b.size ≤ 10000000 →
  Calls Tryz.prog 106 #[.pointer a.addr, .pointer b.addr] w (MergePost a b w) := by
 intro n
 induction n with
 | zero =>
  intro a b hn w ha hb _ _
  cases a with
  | nil => exact merge_nil_left b w hb
  | node => simp [T.count] at hn
 | succ n ih =>
  intro a b hn w ha hb hnd hs
  cases a with
  | nil => exact merge_nil_left b w hb
  | node ba oa pa la ra =>
   cases b with
   | nil => exact merge_nil_right _ _ w ha rfl
   | node bb ob pb lb rb =>
    show Calls _ _ #[.pointer (some ⟨ba, 0, none⟩), .pointer (some ⟨bb, 0, none⟩)] _ _
    obtain ⟨⟨c0, c1, c2, c3⟩, c4, ⟨c5, c6, c7, c8⟩, c9, c10, c11⟩ := Blk.node ha.1
    obtain ⟨_, _, _, d9, d10, d11⟩ := Blk.node hb.1
    have f11 := Blk.free ha.1 11
    have f10 := Blk.free hb.1 10
    obtain ⟨n1, nS, nSl, hndr⟩ : ba ∉ la.blocks ∧ ba ∉ ra.blocks ++ (T.node bb ob pb lb rb).blocks ∧ (∀ k ∈ la.blocks, k ∉ ra.blocks ++ (T.node bb ob pb lb rb).blocks) ∧ (ra.blocks ++ (T.node bb ob pb lb rb).blocks).Nodup := by
     have h := hnd
     rw [show (T.node ba oa pa la ra).blocks = ba :: (la.blocks ++ ra.blocks) from rfl, List.cons_append, List.nodup_cons, List.append_assoc, List.nodup_append] at h
     obtain ⟨h1, h2, h3, h4⟩ := h
     refine ⟨fun hk => h1 (List.mem_append_left _ hk), fun hk => h1 (List.mem_append_right _ hk), fun k hk hk2 => h4 k hk k hk2 rfl, h3⟩
    by_cases hp : pb ≤ pa
    ·go_enter Tryz.func106, Tryz.ntmps106
     go_wp2_with fail
     go_quiet (fail)
     go_wp2_with fail
     have hsz : ra.size + (T.node bb ob pb lb rb).size ≤ 10000000 := by rw [T.size_node] at hs; omega
     refine (ih ra (.node bb ob pb lb rb) (by simp [T.count] at hn ⊢; omega) _ (ha.2.2.drewN nq) (hb.drewN nq) hndr hsz).mono ?_
     rintro e w1 ⟨t, rfl, hM, ht, hm⟩
     have hmw := hm.of_drewN
     have nt : ba ∉ t.blocks := fun hk => nS (hM.blocks.mem_iff.1 hk)
     have hB := Blk.mod ha.1 hmw nS
     have e11 := hB.cell 11
     have g11 := hB.free 11
     have g3 := hB.lt
     obtain ⟨hB2, hl2, ht2⟩ := relink_r ha hmw nS nSl ht n1 nt
     have hsz2 : la.size + oa.size + t.size ≤ 10000000 := by
      have h1 := T.size_two hM.owns
      have h2 := T.size_node ba oa pa la ra
      omega
     go_wp2_with fail
     refine (pull_any ba oa pa la t _ _ hB2 hl2 ht2 n1 nt hsz2).mono ?_
     rintro e w3 ⟨rfl, hm3, hT⟩
     go_wp2_with fail
     go_ret
     refine ⟨.node ba oa pa la t, rfl, hM.right hp, hT, ?_⟩
     refine Mod.trans ((hmw.mono (T := (· ∈ (T.node ba oa pa la ra).blocks ++ (T.node bb ob pb lb rb).blocks)) (fun k _ hk => ?_)).setCell (p := ⟨ba, 11, none⟩) (fun _ => ?_) _) hm3 (fun k _ hk => ?_)
     ·simp only [T.blocks, List.mem_append, List.mem_cons] at hk ⊢
      rcases hk with h | h
      ·exact .inl (.inr (.inr h))
      ·exact .inr h
     ·simp [T.blocks]
     ·subst hk; simp [T.blocks]
    ·have hp' : pa ≤ pb := by omega
     obtain ⟨n1, nS, nSr, hndl⟩ : bb ∉ rb.blocks ∧ bb ∉ (T.node ba oa pa la ra).blocks ++ lb.blocks ∧ (∀ k ∈ rb.blocks, k ∉ (T.node ba oa pa la ra).blocks ++ lb.blocks) ∧ ((T.node ba oa pa la ra).blocks ++ lb.blocks).Nodup := by
      have h := hnd
      rw [show (T.node bb ob pb lb rb).blocks = bb :: (lb.blocks ++ rb.blocks) from rfl] at h
      have h0 := (List.perm_middle (a := bb) (l₁ := (T.node ba oa pa la ra).blocks) (l₂ := lb.blocks ++ rb.blocks)).nodup_iff.1 h
      rw [List.nodup_cons, ← List.append_assoc, List.nodup_append] at h0
      obtain ⟨h1, h2, h3, h4⟩ := h0
      exact ⟨fun hk => h1 (List.mem_append_right _ hk), fun hk => h1 (List.mem_append_left _ hk), fun k hk hk2 => h4 k hk2 k hk rfl, h2⟩
     go_enter Tryz.func106, Tryz.ntmps106
     go_wp2_with fail
     go_quiet (fail)
     go_wp2_with fail
     have hsz : (T.node ba oa pa la ra).size + lb.size ≤ 10000000 := by have := T.size_node bb ob pb lb rb; omega
     refine (ih (.node ba oa pa la ra) lb (by simp [T.count] at hn ⊢; omega) _ (ha.drewN nq) (hb.2.1.drewN nq) hndl hsz).mono ?_
     rintro e w1 ⟨t, rfl, hM, ht, hm⟩
     have hmw := hm.of_drewN
     have nt : bb ∉ t.blocks := fun hk => nS (hM.blocks.mem_iff.1 hk)
     have hB := Blk.mod hb.1 hmw nS
     have e10 := hB.cell 10
     have g10 := hB.free 10
     have g3 := hB.lt
     obtain ⟨hB2, ht2, hr2⟩ := relink_l hb hmw nS nSr ht n1 nt
     have hsz2 : t.size + ob.size + rb.size ≤ 10000000 := by
      have h1 := T.size_two hM.owns
      have h2 := T.size_node bb ob pb lb rb
      omega
     go_wp2_with fail
     refine (pull_any bb ob pb t rb _ _ hB2 ht2 hr2 nt n1 hsz2).mono ?_
     rintro e w3 ⟨rfl, hm3, hT⟩
     go_wp2_with fail
     go_ret
     refine ⟨.node bb ob pb t rb, rfl, hM.left hp', hT, ?_⟩
     refine Mod.trans ((hmw.mono (T := (· ∈ (T.node ba oa pa la ra).blocks ++ (T.node bb ob pb lb rb).blocks)) (fun k _ hk => ?_)).setCell (p := ⟨bb, 10, none⟩) (fun _ => ?_) _) hm3 (fun k _ hk => ?_)
     ·simp only [T.blocks, List.mem_append, List.mem_cons] at hk ⊢
      rcases hk with h | h
      ·exact .inl h
      ·exact .inr (.inr (.inl h))
     ·simp [T.blocks]
     ·subst hk; simp [T.blocks]
theorem by_0 (a b c d : Int) (w : World) : Calls Tryz.prog 184 #[.agg #[.int .i64 a, .int .i64 b, .int .i64 c, .int .i64 d], .int .i64 0] w fun e w' => e = .returned (.int .i64 a) ∧ Ext w w' := by
 go_enter Tryz.func184, Tryz.ntmps184
 go_wp2_with fail
 go_ret
 exact ⟨rfl, (Mod.refl _ w).alloc _⟩
theorem by_1 (a b c d : Int) (w : World) : Calls Tryz.prog 184 #[.agg #[.int .i64 a, .int .i64 b, .int .i64 c, .int .i64 d], .int .i64 1] w fun e w' => e = .returned (.int .i64 c) ∧ Ext w w' := by
 go_enter Tryz.func184, Tryz.ntmps184
 go_wp2_with fail
 go_ret
 exact ⟨rfl, (Mod.refl _ w).alloc _⟩
theorem by_2 (a b c d : Int) (w : World) : Calls Tryz.prog 184 #[.agg #[.int .i64 a, .int .i64 b, .int .i64 c, .int .i64 d], .int .i64 2] w fun e w' => e = .returned (.int .i64 d) ∧ Ext w w' := by
 go_enter Tryz.func184, Tryz.ntmps184
 go_wp2_with fail
 go_ret
 exact ⟨rfl, (Mod.refl _ w).alloc _⟩
theorem by_3 (a b c d : Int) (w : World) : Calls Tryz.prog 184 #[.agg #[.int .i64 a, .int .i64 b, .int .i64 c, .int .i64 d], .int .i64 3] w fun e w' => e = .returned (.int .i64 b) ∧ Ext w w' := by
 go_enter Tryz.func184, Tryz.ntmps184
 go_wp2_with fail
 go_ret
 exact ⟨rfl, (Mod.refl _ w).alloc _⟩
theorem by_no (a b c d way : Int) (w : World) (h0 : (way == 0) = false) (h1 : (way == 1) = false) (h2 : (way == 2) = false) (h3 : (way == 3) = false) : Calls Tryz.prog 184 #[.agg #[.int .i64 a, .int .i64 b, .int .i64 c, .int .i64 d], .int .i64 way] w fun e w' => e = .returned (.int .i64 0) ∧ Ext w w' := by
 go_enter Tryz.func184, Tryz.ntmps184
 go_wp2_with fail
 go_ret
 exact ⟨rfl, (Mod.refl _ w).alloc _⟩
theorem by_any (l : List UInt8) (way : Int) (w : World) : Calls Tryz.prog 184 #[.agg (#[Value.int IntKind.i64 ((byt (l) : Nat) : Int), Value.int IntKind.i64 ((brk (l) : Nat) : Int), Value.int IntKind.i64 ((run (l) : Nat) : Int), Value.int IntKind.i64 ((unt (l) : Nat) : Int)] : Array Value), .int .i64 way] w fun e w' => e = .returned (.int .i64 (byW way l : Nat)) ∧ Ext w w' := by
 unfold byW
 by_cases h0 : way = 0
 ·subst h0; exact by_0 _ _ _ _ w
 by_cases h1 : way = 1
 ·subst h1; exact by_1 _ _ _ _ w
 by_cases h2 : way = 2
 ·subst h2; exact by_2 _ _ _ _ w
 by_cases h3 : way = 3
 ·subst h3; exact by_3 _ _ _ _ w
 rw [if_neg h0, if_neg h1, if_neg h2, if_neg h3]
 exact by_no _ _ _ _ way w (by simpa using h0) (by simpa using h1) (by simpa using h2) (by simpa using h3)
def IsInt (n : Int) : Prop := -9223372036854775808 ≤ n ∧ n ≤ 9223372036854775807
theorem IsInt.sub {n : Int} (h : IsInt n) {b : Nat} (h0 : 0 ≤ n) (hb : b ≤ 1000000000) : wrap64 (n - (b : Int)) = n - (b : Int) := by
 unfold IsInt at h
 exact IntWalk.wrap64_in _ ⟨by omega, by omega⟩
theorem IsInt.sub' {n : Int} (h : IsInt n) {b : Nat} (h0 : 0 ≤ n) (hb : b ≤ 1000000000) : IsInt (n - (b : Int)) := by
 unfold IsInt at h ⊢; omega
theorem IsInt.small {n : Int} (h0 : -1000000000 ≤ n) (h1 : n ≤ 1000000000) : IsInt n := by unfold IsInt; omega
theorem tallyUpto_any (s : ByteArray) (way : Int) (n : Nat) (w : World) (h0 : 0 ≤ way) (h3 : way ≤ 3) (hs : s.size ≤ 1000000) (hni : IsInt n) : Calls Tryz.prog 185 #[.string s, .int .i64 way, .int .i64 n] w fun e w' => e = .returned (.int .i64 (upto way s.data.toList n : Nat)) ∧ Ext w w' := by
 have hn0 : (0 : Int) ≤ (n : Int) := Int.natCast_nonneg _
 generalize hL : s.data.toList = L
 have HL := Lib.hid hL
 clear hL
 generalize hU : upto way L n = U
 have HU := Lib.hid hU
 clear hU
 go_enter Tryz.func185, Tryz.ntmps185
 go_wp2_with fail
 go_loopw [7, 8] (fun p q wr => ∃ k m : Nat, k ≤ s.size ∧ q = .int .i64 k ∧ p = .int .i64 m ∧ Hid (U = k + upto way (L.drop k) m ∧ Ext w wr ∧ IsInt m)) (fun _ q _ => s.size - (intOf q).toNat)
 case atStart => exact ⟨0, n, by omega, rfl, rfl, Lib.hid ⟨by rw [← HU.out]; simp, Mod.refl _ _, hni⟩⟩
 case round =>
  obtain ⟨k, m, hk, rfl, rfl, HR⟩ := hrel
  by_cases hlt : k < s.size
  ·have hlt' : (k : Int) < (s.size : Int) := by omega
   have hdr : L.drop k = s[k] :: L.drop (k + 1) := by
    rw [← HL.out, List.drop_eq_getElem_cons (by simpa using hlt)]; rfl
   have Hdr := Lib.hid hdr
   clear hdr
   have hb2 : byW way [s[k]] ≤ 2 := by have := byW_le way [s[k]]; simpa using this
   go_wp2_with fail
   refine (byteTally_any s[k] _).mono ?_
   rintro e w1 ⟨rfl, hx1⟩
   go_wp2_with fail
   refine (by_any [s[k]] way _).mono ?_
   rintro e w2 ⟨rfl, hx2⟩
   generalize hB : byW way [s[k]] = B at *
   have HB := Lib.hid hB
   clear hB
   by_cases hm : (m : Int) < (B : Int)
   ·go_wp2_with fail
    go_ret
    refine ⟨ret_int ?_, (HR.out.2.1.ext_trans hx1).ext_trans hx2⟩
    rw [HR.out.1, Hdr.out, upto, HB.out, if_pos (by omega)]; simp
   ·go_wp2_with fail
    go_roundw
    case rel =>
     have hi := HR.out.2.2
     have e : ((m - B : Nat) : Int) = (m : Int) - (B : Int) := by omega
     refine ⟨k + 1, m - B, by omega, by go_num, ?_, Lib.hid ⟨?_, (HR.out.2.1.ext_trans hx1).ext_trans hx2, ?_⟩⟩
     ·rw [hi.sub (by omega) (by omega), e]
     ·rw [HR.out.1, Hdr.out, upto, HB.out, if_neg (by omega)]; omega
     ·rw [e]; exact hi.sub' (by omega) (by omega)
    case measure => simp [intOf]; omega
  ·have hlt' : ¬ (k : Int) < (s.size : Int) := by omega
   go_wp2_with fail
   go_ret
   refine ⟨ret_int ?_, HR.out.2.1⟩
   rw [HR.out.1, List.drop_of_length_le (by rw [← HL.out, toList_length]; omega)]
   simp only [upto]; omega
end Go.Proofs.YthlmgoagnfkhdaaGreat

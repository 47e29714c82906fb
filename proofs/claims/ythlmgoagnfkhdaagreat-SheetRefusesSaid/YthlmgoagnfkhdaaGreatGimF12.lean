/- The treap of package rope in memory; what size, first, last and pull compute. Conditions: at most 10000000 bytes. -/
import Derived.Test.YthlmgoagnfkhdaaGreatGimF11
set_option maxHeartbeats 6400000
set_option maxRecDepth 1000000
set_option linter.unusedVariables false
set_option linter.unusedSimpArgs false
namespace Go.Proofs.YthlmgoagnfkhdaaGreat
open Go.RowKit Go.Gim
abbrev nodeT : TypeId := 149
def NodeAt (w : World) (b : Nat) (tx : List UInt8) (own : ByteArray) (p : Int) (lp rp : Value) : Prop := Blk w b nodeT (#[Value.int IntKind.i64 ((byt (tx) : Nat) : Int), Value.int IntKind.i64 ((brk (tx) : Nat) : Int), Value.int IntKind.i64 ((run (tx) : Nat) : Int), Value.int IntKind.i64 ((unt (tx) : Nat) : Int), Value.string own, Value.int IntKind.i64 ((byt ((Array.toList (ByteArray.data own))) : Nat) : Int), Value.int IntKind.i64 ((brk ((Array.toList (ByteArray.data own))) : Nat) : Int), Value.int IntKind.i64 ((run ((Array.toList (ByteArray.data own))) : Nat) : Int), Value.int IntKind.i64 ((unt ((Array.toList (ByteArray.data own))) : Nat) : Int), Value.int IntKind.u32 p, lp, rp] : Array Value)
def TreeAt (w : World) : T → Prop
 | .nil => True
 | .node b own p l r => NodeAt w b (l.text ++ (own.data.toList ++ r.text)) own p (.pointer l.addr) (.pointer r.addr) ∧ TreeAt w l ∧ TreeAt w r
theorem TreeAt.lt {w : World} : ∀ {t : T}, TreeAt w t → ∀ k ∈ t.blocks, k < w.heap.size
 | .nil, _, k, hk => by cases hk
 | .node b own p l r, ⟨hn, hl, hr⟩, k, hk => by
  simp only [T.blocks, List.mem_cons, List.mem_append] at hk
  rcases hk with rfl | hk | hk
  ·exact Blk.lt hn
  ·exact hl.lt k hk
  ·exact hr.lt k hk
theorem TreeAt.mod {S : Nat → Prop} {w w' : World} : ∀ {t : T}, TreeAt w t → Mod S w w' → (∀ k ∈ t.blocks, ¬ S k) → TreeAt w' t
 | .nil, _, _, _ => trivial
 | .node b own p l r, ⟨hn, hl, hr⟩, hm, hS =>
  ⟨Blk.mod hn hm (hS b (by simp [T.blocks])), hl.mod hm (fun k hk => hS k (by simp [T.blocks, hk])), hr.mod hm (fun k hk => hS k (by simp [T.blocks, hk]))⟩
theorem TreeAt.drewN {w : World} {t : T} (h : TreeAt w t) (n : Nat) : TreeAt (w.drewN n) t := h.mod ((Mod.refl (fun _ => False) w).drewN n) (fun _ _ f => f)
theorem TreeAt.ext {w w' : World} {t : T} (h : TreeAt w t) (hm : Ext w w') : TreeAt w' t := h.mod hm (fun _ _ f => f)
theorem Blk.node {w : World} {b : Nat} {T : TypeId} {tx : List UInt8} {own : ByteArray} {p : Int} {lp rp : Value} (h : Blk w b T (#[Value.int IntKind.i64 ((byt (tx) : Nat) : Int), Value.int IntKind.i64 ((brk (tx) : Nat) : Int), Value.int IntKind.i64 ((run (tx) : Nat) : Int), Value.int IntKind.i64 ((unt (tx) : Nat) : Int), Value.string own, Value.int IntKind.i64 ((byt ((Array.toList (ByteArray.data own))) : Nat) : Int), Value.int IntKind.i64 ((brk ((Array.toList (ByteArray.data own))) : Nat) : Int), Value.int IntKind.i64 ((run ((Array.toList (ByteArray.data own))) : Nat) : Int), Value.int IntKind.i64 ((unt ((Array.toList (ByteArray.data own))) : Nat) : Int), Value.int IntKind.u32 p, lp, rp] : Array Value)) :
  (w.cell? ⟨b, 0, none⟩ = some (.int .i64 (byt tx : Nat)) ∧ w.cell? ⟨b, 1, none⟩ = some (.int .i64 (brk tx : Nat)) ∧ w.cell? ⟨b, 2, none⟩ = some (.int .i64 (run tx : Nat)) ∧ w.cell? ⟨b, 3, none⟩ = some (.int .i64 (unt tx : Nat))) ∧
  w.cell? ⟨b, 4, none⟩ = some (.string own) ∧
  (w.cell? ⟨b, 5, none⟩ = some (.int .i64 (byt own.data.toList : Nat)) ∧ w.cell? ⟨b, 6, none⟩ = some (.int .i64 (brk own.data.toList : Nat)) ∧ w.cell? ⟨b, 7, none⟩ = some (.int .i64 (run own.data.toList : Nat)) ∧ w.cell? ⟨b, 8, none⟩ = some (.int .i64 (unt own.data.toList : Nat))) ∧
  w.cell? ⟨b, 9, none⟩ = some (.int .u32 p) ∧ w.cell? ⟨b, 10, none⟩ = some lp ∧ w.cell? ⟨b, 11, none⟩ = some rp :=
 ⟨⟨h.cell 0, h.cell 1, h.cell 2, h.cell 3⟩, h.cell 4, ⟨h.cell 5, h.cell 6, h.cell 7, h.cell 8⟩, h.cell 9, h.cell 10, h.cell 11⟩
theorem Blk.free4 {w : World} {b : Nat} {T : TypeId} {cs : Array Value} (h : Blk w b T cs) : w.frozen? ⟨b, 0, none⟩ = false ∧ w.frozen? ⟨b, 1, none⟩ = false ∧ w.frozen? ⟨b, 2, none⟩ = false ∧ w.frozen? ⟨b, 3, none⟩ = false :=
 ⟨h.free 0, h.free 1, h.free 2, h.free 3⟩
theorem size_nil (w : World) : Calls Tryz.prog 52 #[.pointer none] w fun e w' => e = .returned (.int .i64 0) ∧ w' = w := by
 go_enter Tryz.func52, Tryz.ntmps52
 go_wp2
 go_ret
 exact ⟨rfl, rfl⟩
theorem size_node (b : Nat) (k : Int) (w : World) (h0 : w.cell? ⟨b, 0, none⟩ = some (.int .i64 k)) : Calls Tryz.prog 52 #[.pointer (some ⟨b, 0, none⟩)] w fun e w' => e = .returned (.int .i64 k) ∧ w' = w := by
 go_enter Tryz.func52, Tryz.ntmps52
 go_wp2
 go_ret
 exact ⟨rfl, rfl⟩
theorem size_any (t : T) (w : World) (h : TreeAt w t) : Calls Tryz.prog 52 #[(.pointer t.addr)] w fun e w' => e = .returned (.int .i64 (t.size : Nat)) ∧ w' = w := by
 cases t with
 | nil => exact size_nil w
 | node b own p l r => exact size_node b _ w (Blk.node h.1).1.1
theorem pull_nn (b bl br : Nat) (tx lt rt : List UInt8) (own lo ro : ByteArray) (p lpr rpr : Int) (l1 l2 r1 r2 : Value) (w : World)
  (hb : Blk w b nodeT (#[Value.int IntKind.i64 ((byt (tx) : Nat) : Int), Value.int IntKind.i64 ((brk (tx) : Nat) : Int), Value.int IntKind.i64 ((run (tx) : Nat) : Int), Value.int IntKind.i64 ((unt (tx) : Nat) : Int), Value.string own, Value.int IntKind.i64 ((byt ((Array.toList (ByteArray.data own))) : Nat) : Int), Value.int IntKind.i64 ((brk ((Array.toList (ByteArray.data own))) : Nat) : Int), Value.int IntKind.i64 ((run ((Array.toList (ByteArray.data own))) : Nat) : Int), Value.int IntKind.i64 ((unt ((Array.toList (ByteArray.data own))) : Nat) : Int), Value.int IntKind.u32 p, .pointer (some ⟨bl, 0, none⟩), .pointer (some ⟨br, 0, none⟩)] : Array Value))
  (hl : Blk w bl nodeT (#[Value.int IntKind.i64 ((byt (lt) : Nat) : Int), Value.int IntKind.i64 ((brk (lt) : Nat) : Int), Value.int IntKind.i64 ((run (lt) : Nat) : Int), Value.int IntKind.i64 ((unt (lt) : Nat) : Int), Value.string lo, Value.int IntKind.i64 ((byt ((Array.toList (ByteArray.data lo))) : Nat) : Int), Value.int IntKind.i64 ((brk ((Array.toList (ByteArray.data lo))) : Nat) : Int), Value.int IntKind.i64 ((run ((Array.toList (ByteArray.data lo))) : Nat) : Int), Value.int IntKind.i64 ((unt ((Array.toList (ByteArray.data lo))) : Nat) : Int), Value.int IntKind.u32 lpr, l1, l2] : Array Value)) (hr : Blk w br nodeT (#[Value.int IntKind.i64 ((byt (rt) : Nat) : Int), Value.int IntKind.i64 ((brk (rt) : Nat) : Int), Value.int IntKind.i64 ((run (rt) : Nat) : Int), Value.int IntKind.i64 ((unt (rt) : Nat) : Int), Value.string ro, Value.int IntKind.i64 ((byt ((Array.toList (ByteArray.data ro))) : Nat) : Int), Value.int IntKind.i64 ((brk ((Array.toList (ByteArray.data ro))) : Nat) : Int), Value.int IntKind.i64 ((run ((Array.toList (ByteArray.data ro))) : Nat) : Int), Value.int IntKind.i64 ((unt ((Array.toList (ByteArray.data ro))) : Nat) : Int), Value.int IntKind.u32 rpr, r1, r2] : Array Value)) (n1 : b ≠ bl) (n2 : b ≠ br) (hs : lt.length + own.size + rt.length ≤ 10000000) :
  Calls Tryz.prog 141 #[.pointer (some ⟨b, 0, none⟩)] w fun e w' => e = .returned (.tuple #[]) ∧ Mod (· = b) w w' ∧
   Blk w' b nodeT (#[Value.int IntKind.i64 ((byt (own.data.toList ++ (lt ++ rt)) : Nat) : Int), Value.int IntKind.i64 ((brk (own.data.toList ++ (lt ++ rt)) : Nat) : Int), Value.int IntKind.i64 ((run (own.data.toList ++ (lt ++ rt)) : Nat) : Int), Value.int IntKind.i64 ((unt (own.data.toList ++ (lt ++ rt)) : Nat) : Int), Value.string own, Value.int IntKind.i64 ((byt ((Array.toList (ByteArray.data own))) : Nat) : Int), Value.int IntKind.i64 ((brk ((Array.toList (ByteArray.data own))) : Nat) : Int), Value.int IntKind.i64 ((run ((Array.toList (ByteArray.data own))) : Nat) : Int), Value.int IntKind.i64 ((unt ((Array.toList (ByteArray.data own))) : Nat) : Int), Value.int IntKind.u32 p, .pointer (some ⟨bl, 0, none⟩), .pointer (some ⟨br, 0, none⟩)] : Array Value) := by
 obtain ⟨⟨c0, c1, c2, c3⟩, c4, ⟨c5, c6, c7, c8⟩, c9, c10, c11⟩ := Blk.node hb
 obtain ⟨f0, f1, f2, f3⟩ := Blk.free4 hb
 obtain ⟨⟨l0, l1', l2', l3⟩, _⟩ := Blk.node hl
 obtain ⟨⟨r0, r1', r2', r3⟩, _⟩ := Blk.node hr
 have g1 := hl.lt
 have g2 := hr.lt
 have g3 := hb.lt
 have m1 := n1.symm
 have m2 := n2.symm
 have hos : own.data.toList.length = own.size := rfl
 go_enter Tryz.func141, Tryz.ntmps141
 go_wp2_with fail
 refine wp_region_ext_tail 15 (by kernel_rfl) (by kernel_rfl) ?_
 simp only [List.take_succ_cons, List.take_zero, List.drop_succ_cons, List.drop_zero]
 repeat (go_big_quiet_step (exact Calls.ext_of (plus_any own.data.toList lt _ (by omega))))
 refine wpQuiet_nil ?_
 intro we hxe
 have hb2 : Blk we b nodeT (#[Value.int IntKind.i64 ((byt (own.data.toList) : Nat) : Int), Value.int IntKind.i64 ((brk (own.data.toList) : Nat) : Int), Value.int IntKind.i64 ((run (own.data.toList) : Nat) : Int), Value.int IntKind.i64 ((unt (own.data.toList) : Nat) : Int), Value.string own, Value.int IntKind.i64 ((byt ((Array.toList (ByteArray.data own))) : Nat) : Int), Value.int IntKind.i64 ((brk ((Array.toList (ByteArray.data own))) : Nat) : Int), Value.int IntKind.i64 ((run ((Array.toList (ByteArray.data own))) : Nat) : Int), Value.int IntKind.i64 ((unt ((Array.toList (ByteArray.data own))) : Nat) : Int), Value.int IntKind.u32 p, .pointer (some ⟨bl, 0, none⟩), .pointer (some ⟨br, 0, none⟩)] : Array Value) := ((((hb.set 0 _).set 1 _).set 2 _).set 3 _).mod hxe (fun f => f)
 have hr2 := ((((hr.set_other n2.symm _).set_other n2.symm _).set_other n2.symm _).set_other n2.symm _).mod hxe (fun f => f)
 have hm2 : Mod (· = b) w we := Mod.trans (((((Mod.refl (· = b) w).setCell (fun _ => rfl) _).setCell (fun _ => rfl) _).setCell (fun _ => rfl) _).setCell (fun _ => rfl) _) hxe (fun _ _ f => f.elim)
 clear c0 c1 c2 c3 c4 c5 c6 c7 c8 c9 c10 c11 f0 f1 f2 f3 l0 l1' l2' l3 r0 r1' r2' r3 g1 g2 g3
 obtain ⟨⟨c0, c1, c2, c3⟩, c4, ⟨c5, c6, c7, c8⟩, c9, c10, c11⟩ := Blk.node hb2
 obtain ⟨f0, f1, f2, f3⟩ := Blk.free4 hb2
 obtain ⟨⟨r0, r1', r2', r3⟩, _⟩ := Blk.node hr2
 have g2 := hr2.lt
 have g3 := hb2.lt
 go_wp2_with fail
 refine wp_region_ext_tail 15 (by kernel_rfl) (by kernel_rfl) ?_
 simp only [List.take_succ_cons, List.take_zero, List.drop_succ_cons, List.drop_zero]
 repeat (go_big_quiet_step (exact Calls.ext_of (plus_any (own.data.toList ++ lt) rt _ (by simp; omega))))
 refine wpQuiet_nil ?_
 intro we hxe
 have hb3 : Blk we b nodeT (#[Value.int IntKind.i64 ((byt (own.data.toList ++ lt) : Nat) : Int), Value.int IntKind.i64 ((brk (own.data.toList ++ lt) : Nat) : Int), Value.int IntKind.i64 ((run (own.data.toList ++ lt) : Nat) : Int), Value.int IntKind.i64 ((unt (own.data.toList ++ lt) : Nat) : Int), Value.string own, Value.int IntKind.i64 ((byt ((Array.toList (ByteArray.data own))) : Nat) : Int), Value.int IntKind.i64 ((brk ((Array.toList (ByteArray.data own))) : Nat) : Int), Value.int IntKind.i64 ((run ((Array.toList (ByteArray.data own))) : Nat) : Int), Value.int IntKind.i64 ((unt ((Array.toList (ByteArray.data own))) : Nat) : Int), Value.int IntKind.u32 p, .pointer (some ⟨bl, 0, none⟩), .pointer (some ⟨br, 0, none⟩)] : Array Value) := ((((hb2.set 0 _).set 1 _).set 2 _).set 3 _).mod hxe (fun f => f)
 have hm3 : Mod (· = b) w we := Mod.trans ((((hm2.setCell (fun _ => rfl) _).setCell (fun _ => rfl) _).setCell (fun _ => rfl) _).setCell (fun _ => rfl) _) hxe (fun _ _ f => f.elim)
 clear c0 c1 c2 c3 c4 c5 c6 c7 c8 c9 c10 c11 f0 f1 f2 f3 r0 r1' r2' r3 g2 g3
 obtain ⟨⟨c0, c1, c2, c3⟩, c4, ⟨c5, c6, c7, c8⟩, c9, c10, c11⟩ := Blk.node hb3
 obtain ⟨f0, f1, f2, f3⟩ := Blk.free4 hb3
 go_wp2_with fail
 go_returns
 exact ⟨rfl, (((hm3.setCell (fun _ => rfl) _).setCell (fun _ => rfl) _).setCell (fun _ => rfl) _).setCell (fun _ => rfl) _, (((hb3.set 0 _).set 1 _).set 2 _).set 3 _⟩
theorem pull_rl (b bl : Nat) (tx lt : List UInt8) (own lo : ByteArray) (p lpr : Int) (l1 l2 : Value) (w : World)
  (hb : Blk w b nodeT (#[Value.int IntKind.i64 ((byt (tx) : Nat) : Int), Value.int IntKind.i64 ((brk (tx) : Nat) : Int), Value.int IntKind.i64 ((run (tx) : Nat) : Int), Value.int IntKind.i64 ((unt (tx) : Nat) : Int), Value.string own, Value.int IntKind.i64 ((byt ((Array.toList (ByteArray.data own))) : Nat) : Int), Value.int IntKind.i64 ((brk ((Array.toList (ByteArray.data own))) : Nat) : Int), Value.int IntKind.i64 ((run ((Array.toList (ByteArray.data own))) : Nat) : Int), Value.int IntKind.i64 ((unt ((Array.toList (ByteArray.data own))) : Nat) : Int), Value.int IntKind.u32 p, .pointer (some ⟨bl, 0, none⟩), .pointer none] : Array Value))
  (hl : Blk w bl nodeT (#[Value.int IntKind.i64 ((byt (lt) : Nat) : Int), Value.int IntKind.i64 ((brk (lt) : Nat) : Int), Value.int IntKind.i64 ((run (lt) : Nat) : Int), Value.int IntKind.i64 ((unt (lt) : Nat) : Int), Value.string lo, Value.int IntKind.i64 ((byt ((Array.toList (ByteArray.data lo))) : Nat) : Int), Value.int IntKind.i64 ((brk ((Array.toList (ByteArray.data lo))) : Nat) : Int), Value.int IntKind.i64 ((run ((Array.toList (ByteArray.data lo))) : Nat) : Int), Value.int IntKind.i64 ((unt ((Array.toList (ByteArray.data lo))) : Nat) : Int), Value.int IntKind.u32 lpr, l1, l2] : Array Value)) (n1 : b ≠ bl) (hs : lt.length + own.size ≤ 10000000) :
  Calls Tryz.prog 141 #[.pointer (some ⟨b, 0, none⟩)] w fun e w' => e = .returned (.tuple #[]) ∧ Mod (· = b) w w' ∧
   Blk w' b nodeT (#[Value.int IntKind.i64 ((byt (own.data.toList ++ lt) : Nat) : Int), Value.int IntKind.i64 ((brk (own.data.toList ++ lt) : Nat) : Int), Value.int IntKind.i64 ((run (own.data.toList ++ lt) : Nat) : Int), Value.int IntKind.i64 ((unt (own.data.toList ++ lt) : Nat) : Int), Value.string own, Value.int IntKind.i64 ((byt ((Array.toList (ByteArray.data own))) : Nat) : Int), Value.int IntKind.i64 ((brk ((Array.toList (ByteArray.data own))) : Nat) : Int), Value.int IntKind.i64 ((run ((Array.toList (ByteArray.data own))) : Nat) : Int), Value.int IntKind.i64 ((unt ((Array.toList (ByteArray.data own))) : Nat) : Int), Value.int IntKind.u32 p, .pointer (some ⟨bl, 0, none⟩), .pointer none] : Array Value) := by
 obtain ⟨⟨c0, c1, c2, c3⟩, c4, ⟨c5, c6, c7, c8⟩, c9, c10, c11⟩ := Blk.node hb
 obtain ⟨f0, f1, f2, f3⟩ := Blk.free4 hb
 obtain ⟨⟨l0, l1', l2', l3⟩, _⟩ := Blk.node hl
 have g1 := hl.lt
 have m1 := n1.symm
 have g3 := hb.lt
 have hos : own.data.toList.length = own.size := rfl
 go_enter Tryz.func141, Tryz.ntmps141
 go_wp2_with fail
 refine wp_region_ext_tail 15 (by kernel_rfl) (by kernel_rfl) ?_
 simp only [List.take_succ_cons, List.take_zero, List.drop_succ_cons, List.drop_zero]
 repeat (go_big_quiet_step (exact Calls.ext_of (plus_any own.data.toList lt _ (by omega))))
 refine wpQuiet_nil ?_
 intro we hxe
 have hb2 : Blk we b nodeT (#[Value.int IntKind.i64 ((byt (own.data.toList) : Nat) : Int), Value.int IntKind.i64 ((brk (own.data.toList) : Nat) : Int), Value.int IntKind.i64 ((run (own.data.toList) : Nat) : Int), Value.int IntKind.i64 ((unt (own.data.toList) : Nat) : Int), Value.string own, Value.int IntKind.i64 ((byt ((Array.toList (ByteArray.data own))) : Nat) : Int), Value.int IntKind.i64 ((brk ((Array.toList (ByteArray.data own))) : Nat) : Int), Value.int IntKind.i64 ((run ((Array.toList (ByteArray.data own))) : Nat) : Int), Value.int IntKind.i64 ((unt ((Array.toList (ByteArray.data own))) : Nat) : Int), Value.int IntKind.u32 p, .pointer (some ⟨bl, 0, none⟩), .pointer none] : Array Value) := ((((hb.set 0 _).set 1 _).set 2 _).set 3 _).mod hxe (fun f => f)
 have hm2 : Mod (· = b) w we := Mod.trans (((((Mod.refl (· = b) w).setCell (fun _ => rfl) _).setCell (fun _ => rfl) _).setCell (fun _ => rfl) _).setCell (fun _ => rfl) _) hxe (fun _ _ f => f.elim)
 clear c0 c1 c2 c3 c4 c5 c6 c7 c8 c9 c10 c11 f0 f1 f2 f3 l0 l1' l2' l3 g1 g3
 obtain ⟨⟨c0, c1, c2, c3⟩, c4, ⟨c5, c6, c7, c8⟩, c9, c10, c11⟩ := Blk.node hb2
 obtain ⟨f0, f1, f2, f3⟩ := Blk.free4 hb2
 go_wp2_with fail
 go_returns
 exact ⟨rfl, (((hm2.setCell (fun _ => rfl) _).setCell (fun _ => rfl) _).setCell (fun _ => rfl) _).setCell (fun _ => rfl) _, (((hb2.set 0 _).set 1 _).set 2 _).set 3 _⟩
theorem pull_lr (b br : Nat) (tx lt : List UInt8) (own lo : ByteArray) (p lpr : Int) (l1 l2 : Value) (w : World)
  (hb : Blk w b nodeT (#[Value.int IntKind.i64 ((byt (tx) : Nat) : Int), Value.int IntKind.i64 ((brk (tx) : Nat) : Int), Value.int IntKind.i64 ((run (tx) : Nat) : Int), Value.int IntKind.i64 ((unt (tx) : Nat) : Int), Value.string own, Value.int IntKind.i64 ((byt ((Array.toList (ByteArray.data own))) : Nat) : Int), Value.int IntKind.i64 ((brk ((Array.toList (ByteArray.data own))) : Nat) : Int), Value.int IntKind.i64 ((run ((Array.toList (ByteArray.data own))) : Nat) : Int), Value.int IntKind.i64 ((unt ((Array.toList (ByteArray.data own))) : Nat) : Int), Value.int IntKind.u32 p, .pointer none, .pointer (some ⟨br, 0, none⟩)] : Array Value))
  (hl : Blk w br nodeT (#[Value.int IntKind.i64 ((byt (lt) : Nat) : Int), Value.int IntKind.i64 ((brk (lt) : Nat) : Int), Value.int IntKind.i64 ((run (lt) : Nat) : Int), Value.int IntKind.i64 ((unt (lt) : Nat) : Int), Value.string lo, Value.int IntKind.i64 ((byt ((Array.toList (ByteArray.data lo))) : Nat) : Int), Value.int IntKind.i64 ((brk ((Array.toList (ByteArray.data lo))) : Nat) : Int), Value.int IntKind.i64 ((run ((Array.toList (ByteArray.data lo))) : Nat) : Int), Value.int IntKind.i64 ((unt ((Array.toList (ByteArray.data lo))) : Nat) : Int), Value.int IntKind.u32 lpr, l1, l2] : Array Value)) (n1 : b ≠ br) (hs : lt.length + own.size ≤ 10000000) :
  Calls Tryz.prog 141 #[.pointer (some ⟨b, 0, none⟩)] w fun e w' => e = .returned (.tuple #[]) ∧ Mod (· = b) w w' ∧
   Blk w' b nodeT (#[Value.int IntKind.i64 ((byt (own.data.toList ++ lt) : Nat) : Int), Value.int IntKind.i64 ((brk (own.data.toList ++ lt) : Nat) : Int), Value.int IntKind.i64 ((run (own.data.toList ++ lt) : Nat) : Int), Value.int IntKind.i64 ((unt (own.data.toList ++ lt) : Nat) : Int), Value.string own, Value.int IntKind.i64 ((byt ((Array.toList (ByteArray.data own))) : Nat) : Int), Value.int IntKind.i64 ((brk ((Array.toList (ByteArray.data own))) : Nat) : Int), Value.int IntKind.i64 ((run ((Array.toList (ByteArray.data own))) : Nat) : Int), Value.int IntKind.i64 ((unt ((Array.toList (ByteArray.data own))) : Nat) : Int), Value.int IntKind.u32 p, .pointer none, .pointer (some ⟨br, 0, none⟩)] : Array Value) := by
 obtain ⟨⟨c0, c1, c2, c3⟩, c4, ⟨c5, c6, c7, c8⟩, c9, c10, c11⟩ := Blk.node hb
 obtain ⟨f0, f1, f2, f3⟩ := Blk.free4 hb
 obtain ⟨⟨l0, l1', l2', l3⟩, _⟩ := Blk.node hl
 have g1 := hl.lt
 have m1 := n1.symm
 have g3 := hb.lt
 have hos : own.data.toList.length = own.size := rfl
 go_enter Tryz.func141, Tryz.ntmps141
 go_wp2_with fail
 refine wp_region_ext_tail 15 (by kernel_rfl) (by kernel_rfl) ?_
 simp only [List.take_succ_cons, List.take_zero, List.drop_succ_cons, List.drop_zero]
 repeat (go_big_quiet_step (exact Calls.ext_of (plus_any own.data.toList lt _ (by omega))))
 refine wpQuiet_nil ?_
 intro we hxe
 have hb2 : Blk we b nodeT (#[Value.int IntKind.i64 ((byt (own.data.toList) : Nat) : Int), Value.int IntKind.i64 ((brk (own.data.toList) : Nat) : Int), Value.int IntKind.i64 ((run (own.data.toList) : Nat) : Int), Value.int IntKind.i64 ((unt (own.data.toList) : Nat) : Int), Value.string own, Value.int IntKind.i64 ((byt ((Array.toList (ByteArray.data own))) : Nat) : Int), Value.int IntKind.i64 ((brk ((Array.toList (ByteArray.data own))) : Nat) : Int), Value.int IntKind.i64 ((run ((Array.toList (ByteArray.data own))) : Nat) : Int), Value.int IntKind.i64 ((unt ((Array.toList (ByteArray.data own))) : Nat) : Int), Value.int IntKind.u32 p, .pointer none, .pointer (some ⟨br, 0, none⟩)] : Array Value) := ((((hb.set 0 _).set 1 _).set 2 _).set 3 _).mod hxe (fun f => f)
 have hm2 : Mod (· = b) w we := Mod.trans (((((Mod.refl (· = b) w).setCell (fun _ => rfl) _).setCell (fun _ => rfl) _).setCell (fun _ => rfl) _).setCell (fun _ => rfl) _) hxe (fun _ _ f => f.elim)
 clear c0 c1 c2 c3 c4 c5 c6 c7 c8 c9 c10 c11 f0 f1 f2 f3 l0 l1' l2' l3 g1 g3
 obtain ⟨⟨c0, c1, c2, c3⟩, c4, ⟨c5, c6, c7, c8⟩, c9, c10, c11⟩ := Blk.node hb2
 obtain ⟨f0, f1, f2, f3⟩ := Blk.free4 hb2
 go_wp2_with fail
 go_returns
 exact ⟨rfl, (((hm2.setCell (fun _ => rfl) _).setCell (fun _ => rfl) _).setCell (fun _ => rfl) _).setCell (fun _ => rfl) _, (((hb2.set 0 _).set 1 _).set 2 _).set 3 _⟩
theorem pull_ll (b : Nat) (tx : List UInt8) (own : ByteArray) (p : Int) (w : World)
  (hb : Blk w b nodeT (#[Value.int IntKind.i64 ((byt (tx) : Nat) : Int), Value.int IntKind.i64 ((brk (tx) : Nat) : Int), Value.int IntKind.i64 ((run (tx) : Nat) : Int), Value.int IntKind.i64 ((unt (tx) : Nat) : Int), Value.string own, Value.int IntKind.i64 ((byt ((Array.toList (ByteArray.data own))) : Nat) : Int), Value.int IntKind.i64 ((brk ((Array.toList (ByteArray.data own))) : Nat) : Int), Value.int IntKind.i64 ((run ((Array.toList (ByteArray.data own))) : Nat) : Int), Value.int IntKind.i64 ((unt ((Array.toList (ByteArray.data own))) : Nat) : Int), Value.int IntKind.u32 p, .pointer none, .pointer none] : Array Value)) :
  Calls Tryz.prog 141 #[.pointer (some ⟨b, 0, none⟩)] w fun e w' => e = .returned (.tuple #[]) ∧ Mod (· = b) w w' ∧
   Blk w' b nodeT (#[Value.int IntKind.i64 ((byt (own.data.toList) : Nat) : Int), Value.int IntKind.i64 ((brk (own.data.toList) : Nat) : Int), Value.int IntKind.i64 ((run (own.data.toList) : Nat) : Int), Value.int IntKind.i64 ((unt (own.data.toList) : Nat) : Int), Value.string own, Value.int IntKind.i64 ((byt ((Array.toList (ByteArray.data own))) : Nat) : Int), Value.int IntKind.i64 ((brk ((Array.toList (ByteArray.data own))) : Nat) : Int), Value.int IntKind.i64 ((run ((Array.toList (ByteArray.data own))) : Nat) : Int), Value.int IntKind.i64 ((unt ((Array.toList (ByteArray.data own))) : Nat) : Int), Value.int IntKind.u32 p, .pointer none, .pointer none] : Array Value) := by
 obtain ⟨⟨c0, c1, c2, c3⟩, c4, ⟨c5, c6, c7, c8⟩, c9, c10, c11⟩ := Blk.node hb
 obtain ⟨f0, f1, f2, f3⟩ := Blk.free4 hb
 have g3 := hb.lt
 have hos : own.data.toList.length = own.size := rfl
 go_enter Tryz.func141, Tryz.ntmps141
 go_wp2_with fail
 go_returns
 exact ⟨rfl, ((((Mod.refl (· = b) w).setCell (fun _ => rfl) _).setCell (fun _ => rfl) _).setCell (fun _ => rfl) _).setCell (fun _ => rfl) _, (((hb.set 0 _).set 1 _).set 2 _).set 3 _⟩
theorem tal_turn (a b c : List UInt8) : byt (b ++ (a ++ c)) = byt (a ++ (b ++ c)) ∧ brk (b ++ (a ++ c)) = brk (a ++ (b ++ c)) ∧ run (b ++ (a ++ c)) = run (a ++ (b ++ c)) ∧ unt (b ++ (a ++ c)) = unt (a ++ (b ++ c)) := by
 simp only [byt_append, brk_append, run_append, unt_append]; omega
theorem pull_any (b : Nat) (own : ByteArray) (p : Int) (l r : T) (tx : List UInt8) (w : World) (hb : Blk w b nodeT (#[Value.int IntKind.i64 ((byt (tx) : Nat) : Int), Value.int IntKind.i64 ((brk (tx) : Nat) : Int), Value.int IntKind.i64 ((run (tx) : Nat) : Int), Value.int IntKind.i64 ((unt (tx) : Nat) : Int), Value.string own, Value.int IntKind.i64 ((byt ((Array.toList (ByteArray.data own))) : Nat) : Int), Value.int IntKind.i64 ((brk ((Array.toList (ByteArray.data own))) : Nat) : Int), Value.int IntKind.i64 ((run ((Array.toList (ByteArray.data own))) : Nat) : Int), Value.int IntKind.i64 ((unt ((Array.toList (ByteArray.data own))) : Nat) : Int), Value.int IntKind.u32 p, (.pointer l.addr), (.pointer r.addr)] : Array Value)) (hl : TreeAt w l) (hr : TreeAt w r)
  (nl : b ∉ l.blocks) (nr : b ∉ r.blocks) (hs : l.size + own.size + r.size ≤ 10000000) :
  Calls Tryz.prog 141 #[.pointer (some ⟨b, 0, none⟩)] w fun e w' => e = .returned (.tuple #[]) ∧ Mod (· = b) w w' ∧ TreeAt w' (.node b own p l r) := by
 obtain ⟨e1, e2, e3, e4⟩ := tal_turn l.text own.data.toList r.text
 suffices h : Calls Tryz.prog 141 #[.pointer (some ⟨b, 0, none⟩)] w fun e w' => e = .returned (.tuple #[]) ∧ Mod (· = b) w w' ∧ Blk w' b nodeT (#[Value.int IntKind.i64 ((byt (own.data.toList ++ (l.text ++ r.text)) : Nat) : Int), Value.int IntKind.i64 ((brk (own.data.toList ++ (l.text ++ r.text)) : Nat) : Int), Value.int IntKind.i64 ((run (own.data.toList ++ (l.text ++ r.text)) : Nat) : Int), Value.int IntKind.i64 ((unt (own.data.toList ++ (l.text ++ r.text)) : Nat) : Int), Value.string own, Value.int IntKind.i64 ((byt ((Array.toList (ByteArray.data own))) : Nat) : Int), Value.int IntKind.i64 ((brk ((Array.toList (ByteArray.data own))) : Nat) : Int), Value.int IntKind.i64 ((run ((Array.toList (ByteArray.data own))) : Nat) : Int), Value.int IntKind.i64 ((unt ((Array.toList (ByteArray.data own))) : Nat) : Int), Value.int IntKind.u32 p, (.pointer l.addr), (.pointer r.addr)] : Array Value) by
  refine h.mono ?_
  rintro e w' ⟨rfl, hm, hb'⟩
  rw [e1, e2, e3, e4] at hb'
  exact ⟨rfl, hm, hb', hl.mod hm (fun k hk e => nl (e ▸ hk)), hr.mod hm (fun k hk e => nr (e ▸ hk))⟩
 clear e1 e2 e3 e4
 cases l with
 | nil =>
  cases r with
  | nil =>
   have := pull_ll b tx own p w hb
   simpa [T.text, T.addr] using this
  | node br ro rp rl rr =>
   have := pull_lr b br tx _ own ro p rp _ _ w hb hr.1 (fun e => nr (by simp [T.blocks, e])) (by simp only [T.size, T.text] at hs ⊢; omega)
   simpa [T.text, T.addr] using this
 | node bl lo lp ll lr =>
  cases r with
  | nil =>
   have := pull_rl b bl tx _ own lo p lp _ _ w hb hl.1 (fun e => nl (by simp [T.blocks, e])) (by simp only [T.size, T.text] at hs ⊢; omega)
   simpa [T.text, T.addr] using this
  | node br ro rp rl rr =>
   have := pull_nn b bl br tx _ _ own lo ro p lp rp _ _ _ _ w hb hl.1 hr.1 (fun e => nl (by simp [T.blocks, e])) (fun e => nr (by simp [T.blocks, e])) (by simp only [T.size, T.text] at hs ⊢; omega)
   simpa [T.text, T.addr] using this
end Go.Proofs.YthlmgoagnfkhdaaGreat

/- What rope's Insert and Delete compute. Conditions: a rope of at most 65536 bytes. -/
import Derived.Test.YthlmgoagnfkhdaaGreatGimF21
import Derived.Test.YthlmgoagnfkhdaaGreatGimF07
import Derived.Test.YthlmgoagnfkhdaaGreatGimF11
import Derived.LaidEqlPtr
import Derived.Deep.LoopGhost
import Derived.Laws.ResultCell
set_option maxHeartbeats 6400000
set_option maxRecDepth 1000000
set_option linter.unusedVariables false
set_option linter.unusedSimpArgs false
namespace Go.Proofs.YthlmgoagnfkhdaaGreat
open Go.RowKit Go.Gim
def DonePost (R : Rp) (s : List UInt8) (w : World) (e : Ending) (w' : World) : Prop := e = .returned (.int .i64 0) ∧ ∃ R', Done R R' s w w'
theorem insert_yes (R : Rp) (f : Int) (s : ByteArray) (w : World) (h : RopeAt w R) (hn : risesB f f R.t.size = true) (hs : R.t.size + s.size ≤ 65536) : Calls Tryz.prog 50 #[.pointer (some ⟨R.rb, 0, none⟩), .int .i64 f, .string s] w (DonePost R (splice R.text f f s.data.toList) w) := by
 obtain ⟨_, c1, _, hb⟩ := h.cells
 have hsz := h.size
 obtain ⟨g1, g2, g3⟩ := rises_out hn
 have hr := rises_any R f f w h
 rw [hn] at hr
 have hs' : ¬ (65536 : Int) - (R.t.size : Int) < (s.size : Int) := by omega
 clear hn
 go_enter Tryz.func50, Tryz.ntmps50
 go_wp2_with fail
 refine hr.mono ?_
 rintro e w' ⟨rfl, rfl⟩
 go_wp2_with fail
 refine (size_any R.t _ h.tree).mono ?_
 rintro e w1 ⟨rfl, rfl⟩
 go_wp2_with fail
 refine (repl_any R f f s _ h g1 g2 g3 (by omega)).mono ?_
 rintro e w2 ⟨rfl, R', hd⟩
 have Hd := Lib.hid hd
 clear hd
 go_wp2_with fail
 go_ret
 exact ⟨rfl, R', Hd.out⟩
theorem delete_yes (R : Rp) (f g : Int) (w : World) (h : RopeAt w R) (hn : risesB f g R.t.size = true) : Calls Tryz.prog 49 #[.pointer (some ⟨R.rb, 0, none⟩), .int .i64 f, .int .i64 g] w (DonePost R (splice R.text f g []) w) := by
 obtain ⟨_, c1, _, hb⟩ := h.cells
 have hsz := h.size
 obtain ⟨g1, g2, g3⟩ := rises_out hn
 have hr := rises_any R f g w h
 rw [hn] at hr
 clear hn
 go_enter Tryz.func49, Tryz.ntmps49
 go_wp2_with fail
 refine hr.mono ?_
 rintro e w' ⟨rfl, rfl⟩
 go_wp2_with fail
 refine (repl_any R f g ⟨#[]⟩ _ h g1 g2 g3 (by have : (⟨#[]⟩ : ByteArray).size = 0 := rfl; omega)).mono ?_
 rintro e w2 ⟨rfl, R', hd⟩
 have Hd := Lib.hid hd
 clear hd
 go_wp2_with fail
 go_ret
 exact ⟨rfl, R', Hd.out⟩
theorem NewDice.of {zs : List Int} {w w' : World} {e : Ending} (h : NewDice zs w e w') : ∃ D : Dice, e = .returned (.pointer (some ⟨D.d, 0, none⟩)) ∧ DiceAt w' D ∧ D.nums = zs ∧ Ext w w' ∧ w.heap.size ≤ D.d ∧ (∀ k, D.sv.ownBlock = some k → w.heap.size ≤ k) := by
 obtain ⟨d, sv, rfl, h1, h2, h3, h4⟩ := h
 exact ⟨_, rfl, h1, rfl, h2, h3, h4⟩
theorem DiceAt.of {w : World} {D : Dice} (h : DiceAt w D) : DiceOf w D := ⟨D, h, .refl D⟩
structure Rp.New (R : Rp) (w : World) : Prop where
 all : ∀ k ∈ R.all, w.heap.size ≤ k
 dice : w.heap.size ≤ R.D.d
theorem Fresh.base {R : Rp} {D : Dice} {s : List UInt8} {w w1 w2 : World} (h : Fresh R D s w1 w2) (hx : Ext w w1) (hd : w.heap.size ≤ D.d) : Ext w w2 ∧ R.New w :=
 ⟨Mod.trans hx h.mod (fun i hi e => by have : i = D.d := e; omega), fun k hk => Nat.le_trans hx.size (h.new k hk), by rw [h.dice]; exact hd⟩
theorem Done.base {R R' : Rp} {s : List UInt8} {w w1 w2 : World} (h : Done R R' s w1 w2) (hx : Ext w w1) (hn : R.New w) : Ext w w2 ∧ R'.New w :=
 ⟨Mod.trans hx h.mod (fun i hi e => by
  rcases e with e | e
  ·have := hn.all i e; omega
  ·have := hn.dice; omega), fun k hk => (h.grew.all k hk).elim (hn.all k) (fun h2 => Nat.le_trans hx.size h2), by rw [h.grew.2.1]; exact hn.dice⟩
end Go.Proofs.YthlmgoagnfkhdaaGreat
namespace Go.Proofs.YthlmgoagnfkhdaaGreat
open Go.RowKit Go.Gim Go.Lib
structure Joined (R O R' : Rp) (w w' : World) : Prop where
 rope : RopeAt w' R'
 text : R'.text = R.text ++ O.text
 rb : R'.rb = R.rb
 dice : R'.D = R.D
 other : RopeAt w' { O with t := .nil }
 old : ∀ k ∈ R'.t.blocks, k ∈ R.t.blocks ∨ k ∈ O.t.blocks ∨ w.heap.size ≤ k
 mod : Mod (fun k => R.Foot k ∨ k ∈ O.all) w w'
structure CutTo (R R' O : Rp) (s s' : List UInt8) (w w' : World) : Prop where
 rope : RopeAt w' R'
 other : RopeAt w' O
 text : R'.text = s
 rest : O.text = s'
 grew : R.Grew R' w
 odice : O.D = R.D
 onew : w.heap.size ≤ O.rb ∧ ∀ k ∈ O.t.blocks, k ∈ R.t.blocks ∨ w.heap.size ≤ k
 apart : Apart R' O
 mod : Mod R.Foot w w'
end Go.Proofs.YthlmgoagnfkhdaaGreat
namespace Go.Proofs.YthlmgoagnfkhdaaGreat
open Go.RowKit Go.Gim
theorem results_cell_row2 {P : Program} {fn : Func} {p u : Tmp} {ty : TypeId} (h : fn.results = #[.cell p ty, .tmp u]) (tmps : Array Value) (w : World) (g : Nat) (t : TypeId) (cs : Array Value) (fr : Nat × Nat) (d : TypeDesc)
  (hp : tmps.getD p undef = .pointer (some ⟨g, 0, none⟩)) (hg : w.heap[g]? = some (.cells cs t fr))
  (hu : P.underlying ty = some d) (hd : (match d with | .struct _ | .array _ _ => true | _ => false) = true) (hi : (P.info? ty).map (·.size) = some cs.size) :
  (results fn tmps).run P w = .ok (.tuple #[.agg cs, tmps.getD u undef]) w := by
 rw [results_cell_tmp h, hp]
 simp [asAddr, run_loadVar_row w g t ty cs fr d hg hu hd hi]
def CountPost (l : List UInt8) (w : World) (e : Ending) (w' : World) : Prop := e = .returned (.tuple #[.agg (#[Value.int IntKind.i64 ((byt (l) : Nat) : Int), Value.int IntKind.i64 ((brk (l) : Nat) : Int), Value.int IntKind.i64 ((run (l) : Nat) : Int), Value.int IntKind.i64 ((unt (l) : Nat) : Int)] : Array Value), .int .i64 0]) ∧ Ext w w'
structure CountAt (w : World) (T0 : List UInt8) (u : T) (m : Nat) (pre : List UInt8) (wr : World) : Prop where
 tree : TreeAt wr u
 ext : Ext w wr
 sum : Blk wr (w.heap.size + 1) 147 (#[Value.int IntKind.i64 ((byt (pre) : Nat) : Int), Value.int IntKind.i64 ((brk (pre) : Nat) : Int), Value.int IntKind.i64 ((run (pre) : Nat) : Int), Value.int IntKind.i64 ((unt (pre) : Nat) : Int)] : Array Value)
 res : Blk wr w.heap.size 147 (#[Value.int IntKind.i64 ((byt ([]) : Nat) : Int), Value.int IntKind.i64 ((brk ([]) : Nat) : Int), Value.int IntKind.i64 ((run ([]) : Nat) : Int), Value.int IntKind.i64 ((unt ([]) : Nat) : Int)] : Array Value)
 text : pre ++ u.text.take m = T0
 small : pre.length + u.size ≤ 65536
 le : m ≤ u.size
 low : ∀ k ∈ u.blocks, k < w.heap.size
 sized : Sized u.owns
theorem count_yes (R : Rp) (f : Int) (w : World) (h : RopeAt w R) (hn : risesB f f R.t.size = true) : Calls Tryz.prog 183 #[.pointer (some ⟨R.rb, 0, none⟩), .int .i64 f] w (CountPost (R.text.take f.toNat) w) := by
 obtain ⟨g1, _, g3⟩ := rises_out hn
 have hs := h.size
 obtain ⟨m0, rfl⟩ := Int.eq_ofNat_of_zero_le g1
 generalize hT0 : R.text.take (m0 : Int).toNat = T0
 have HT0 := Lib.hid hT0
 clear hT0
 go_enter Tryz.func183, Tryz.ntmps183
 go_wp2_with fail
 refine (rises_any R _ _ _ (h.ext ((Mod.refl _ w).alloc _))).mono ?_
 rintro e w' ⟨rfl, rfl⟩
 rw [hn]
 obtain ⟨_, c1, _, hb⟩ := h.cells
 go_wp2_with fail
 go_loopg [1, 7] R.t.count (fun k p q wr => ∃ (u : T) (m : Nat) (pre : List UInt8), p = .int .i64 m ∧ q = .pointer u.addr ∧ u.count = k ∧ Hid (CountAt w T0 u m pre wr))
 case atStart =>
  refine ⟨R.t, m0, [], rfl, rfl, rfl, Lib.hid ⟨h.tree.ext (((Mod.refl _ w).alloc _).alloc _), ((Mod.refl _ w).alloc _).alloc _, ?_, ?_, ?_, by simpa using hs, by omega, h.tree.lt, h.pcs.1⟩⟩
  ·exact Blk.new1 _ _ _ _
  ·exact (Blk.new _ _ _).alloc _
  ·rw [← HT0.out]; simp [Rp.text]
 case round =>
  obtain ⟨u, m, pre, rfl, rfl, hk, HC⟩ := hrel
  have hx := HC.out.ext
  have hS := HC.out.sum
  have hR := HC.out.res
  have htx := HC.out.text
  have hsm := HC.out.small
  have hle := HC.out.le
  have hT := HC.out.tree
  have Hlow := Lib.hid HC.out.low
  have Hsd := Lib.hid HC.out.sized
  have Htx := Lib.hid htx
  have Hk := Lib.hid hk
  clear htx HC hk c1 hb
  obtain ⟨c0, c1, c2, c3, f0, f1, f2, f3⟩ := hS.tal
  obtain ⟨d0, d1, d2, d3, e0, e1, e2, e3⟩ := hR.tal
  have hl1 := hS.lt
  have hl2 := hR.lt
  by_cases hm0 : (0 : Int) < (m : Int)
  ·cases u with
   | nil => simp [T.size, T.text] at hle; omega
   | node b own p tl tr =>
    have hsz := T.size_node b own p tl tr
    obtain ⟨n04, n4, n58, n9, n10, n11⟩ := Blk.node hT.1
    have hbl := Blk.lt hT.1
    have hnb : b ≠ w.heap.size ∧ b ≠ w.heap.size + 1 := by
     have := Hlow.out b (by simp [T.blocks]); omega
    have hnt : ∀ k ∈ tr.blocks, k ≠ w.heap.size ∧ k ≠ w.heap.size + 1 := fun k hk => by
     have := Hlow.out k (by simp [T.blocks, hk]); omega
    have Hnt := Lib.hid hnt
    clear hnt
    have hcn : (T.node b own p tl tr).text = tl.text ++ (own.data.toList ++ tr.text) := rfl
    rw [show (T.node b own p tl tr).addr = some ⟨b, 0, none⟩ from rfl]
    cases tl with
    | nil =>
     have htx2 : pre ++ (own.data.toList ++ tr.text).take m = T0 := Htx.out
     have Htx2 := Lib.hid htx2
     have hsm2 : pre.length + (own.size + tr.size) ≤ 65536 := by rw [hsz, show T.nil.size = 0 from rfl] at hsm; omega
     have hle2 : m ≤ own.size + tr.size := by rw [hsz, show T.nil.size = 0 from rfl] at hle; omega
     clear htx2 hcn hsz hsm hle
     go_wp2_with fail
     refine (size_nil _).mono ?_
     rintro e w2 ⟨rfl, rfl⟩
     have hlo : own.data.toList.length = own.size := rfl
     by_cases hown : (m : Int) ≤ (own.size : Int)
     ·have hpre : pre ++ List.take m own.data.toList = T0 := by
       rw [← Htx2.out, List.take_append_of_le_length (by omega)]
      have Hpre := Lib.hid hpre
      clear hpre hlo
      go_wp2_with fail
      refine wp_region_ext_tail 9 (by kernel_rfl) (by kernel_rfl) ?_
      simp only [List.take_succ_cons, List.take_zero, List.drop_succ_cons, List.drop_zero]
      repeat (go_big_quiet_step (first | exact Calls.ext_of (of_any _ _ (by simp; omega)) | exact Calls.ext_of (plus_any pre _ _ (by simp; omega))))
      refine wpQuiet_nil ?_
      intro wf hxf
      have hR := hR.mod hxf (fun f => f)
      have hx := hx.ext_trans hxf
      clear d0 d1 d2 d3 e0 e1 e2 e3 c0 c1 c2 c3 f0 f1 f2 f3 hl1 hl2 n04 n4 n58 n9 n10 n11 hbl
      obtain ⟨d0, d1, d2, d3, e0, e1, e2, e3⟩ := hR.tal
      have hl2 := hR.lt
      go_wp2_with fail
      have hres := ((((Blk.set hR 0 (.int .i64 (byt (pre ++ List.take m own.data.toList) : Nat))).set 1 (.int .i64 (brk (pre ++ List.take m own.data.toList) : Nat))).set 2 (.int .i64 (run (pre ++ List.take m own.data.toList) : Nat))).set 3 (.int .i64 (unt (pre ++ List.take m own.data.toList) : Nat)))
      refine bodyPost_ret (results_cell_row2 rfl _ _ w.heap.size _ (#[Value.int IntKind.i64 ((byt (pre ++ List.take m own.data.toList) : Nat) : Int), Value.int IntKind.i64 ((brk (pre ++ List.take m own.data.toList) : Nat) : Int), Value.int IntKind.i64 ((run (pre ++ List.take m own.data.toList) : Nat) : Int), Value.int IntKind.i64 ((unt (pre ++ List.take m own.data.toList) : Nat) : Int)] : Array Value) (0, 0) _ rfl hres Tryz.underlying147 rfl tallySize) rfl ?_
      exact ⟨congrArg (fun l => Ending.returned (.tuple #[.agg (#[Value.int IntKind.i64 ((byt (l) : Nat) : Int), Value.int IntKind.i64 ((brk (l) : Nat) : Int), Value.int IntKind.i64 ((run (l) : Nat) : Int), Value.int IntKind.i64 ((unt (l) : Nat) : Int)] : Array Value), .int .i64 0])) Hpre.out, ((((hx.setCell (by simp) _).setCell (by simp) _).setCell (by simp) _).setCell (by simp) _)⟩
     ·have hown' : decide ((m : Int) ≤ (own.size : Int)) = false := by simpa using hown
      have hpre : (pre ++ own.data.toList) ++ tr.text.take (m - own.size) = T0 := by
       rw [← Htx2.out, List.take_append, List.take_of_length_le (l := own.data.toList) (by omega), hlo, List.append_assoc]
      have Hpre := Lib.hid hpre
      clear hpre
      go_wp2_with fail
      refine wp_region_ext_tail 6 (by kernel_rfl) (by kernel_rfl) ?_
      simp only [List.take_succ_cons, List.take_zero, List.drop_succ_cons, List.drop_zero]
      repeat (go_big_quiet_step (exact Calls.ext_of (plus_any pre own.data.toList _ (by omega))))
      refine wpQuiet_nil ?_
      intro wf hxf
      have hR := hR.mod hxf (fun f => f)
      have hS := hS.mod hxf (fun f => f)
      have hT := hT.ext hxf
      have hx := hx.ext_trans hxf
      clear d0 d1 d2 d3 e0 e1 e2 e3 c0 c1 c2 c3 f0 f1 f2 f3 hl1 hl2 n04 n4 n58 n9 n10 n11 hlo
      obtain ⟨c0, c1, c2, c3, f0, f1, f2, f3⟩ := hS.tal
      have hl1 := hS.lt
      obtain ⟨n04, n4, n58, n9, n10, n11⟩ := Blk.node hT.1
      have hbl := Blk.lt hT.1
      have hbn : b ≠ w.heap.size + 1 := hnb.2
      go_wp2_with fail
      go_roundg (tr.count)
      case rel =>
       have hm4 : Mod (· = w.heap.size + 1) wf ((((wf.setCell ⟨w.heap.size + 1, 0, none⟩ (.int .i64 (byt (pre ++ own.data.toList) : Nat))).setCell ⟨w.heap.size + 1, 1, none⟩ (.int .i64 (brk (pre ++ own.data.toList) : Nat))).setCell ⟨w.heap.size + 1, 2, none⟩ (.int .i64 (run (pre ++ own.data.toList) : Nat))).setCell ⟨w.heap.size + 1, 3, none⟩ (.int .i64 (unt (pre ++ own.data.toList) : Nat))) :=
        ((((Mod.refl (· = w.heap.size + 1) wf).setCell (fun _ => rfl) _).setCell (fun _ => rfl) _).setCell (fun _ => rfl) _).setCell (fun _ => rfl) _
       refine ⟨tr, m - own.size, pre ++ own.data.toList, ?_, rfl, rfl, Lib.hid ⟨hT.2.2.mod hm4 (fun k hk e => (Hnt.out k hk).2 e), ?_, ?_, hR.mod hm4 (fun e => by omega), Hpre.out, ?_, ?_, fun k hk => Hlow.out k (by simp [T.blocks, hk]), (sized_cons.1 (sized_append.1 Hsd.out).2).2⟩⟩
       ·rw [show ((m - own.size : Nat) : Int) = (m : Int) - (own.size : Int) from by omega]
       ·exact ((((hx.setCell (by simp) _).setCell (by simp) _).setCell (by simp) _).setCell (by simp) _)
       ·exact ((((hS.set 0 _).set 1 _).set 2 _).set 3 _)
       ·rw [List.length_append, show own.data.toList.length = own.size from rfl]; omega
       ·omega
      case measure => have := Hk.out; simp only [T.count] at this ⊢; omega
    | node bl lo lp ll lr =>
     have hkpos : 0 < (T.node bl lo lp ll lr).size := by
      have h1 := (sized_append.1 Hsd.out).1
      rw [T.size_join]
      exact join_pos h1 (by simp [T.owns])
     have hltx : (T.node bl lo lp ll lr).text.length = (T.node bl lo lp ll lr).size := rfl
     by_cases hmk : (m : Int) ≤ ((T.node bl lo lp ll lr).size : Int)
     ·have htx2 : pre ++ (T.node bl lo lp ll lr).text.take m = T0 := by
       rw [← Htx.out, hcn, List.take_append_of_le_length (by rw [hltx]; omega)]
      have Htx2 := Lib.hid htx2
      clear htx2 hcn
      go_wp2_with fail
      refine (size_any _ _ hT.2.1).mono ?_
      rintro e w2 ⟨rfl, rfl⟩
      go_wp2_with fail
      go_roundg ((T.node bl lo lp ll lr).count)
      case rel =>
       exact ⟨_, m, pre, rfl, rfl, rfl, Lib.hid ⟨hT.2.1, hx, hS, hR, Htx2.out, by omega, by omega, fun k hk => Hlow.out k (List.mem_cons_of_mem _ (List.mem_append_left _ hk)), (sized_append.1 Hsd.out).1⟩⟩
      case measure => have := Hk.out; simp only [T.count] at this ⊢; omega
     ·have hmk' : decide ((m : Int) ≤ ((T.node bl lo lp ll lr).size : Int)) = false := by simpa using hmk
      replace n10 : wr.cell? ⟨b, 10, none⟩ = some (.pointer (some ⟨bl, 0, none⟩)) := n10
      obtain ⟨⟨l0, l1, l2, l3⟩, _⟩ := Blk.node hT.2.1.1
      have hbl2 := Blk.lt hT.2.1.1
      go_wp2_with fail
      refine (size_any (T.node bl lo lp ll lr) _ hT.2.1).mono ?_
      rintro e w2 ⟨rfl, rfl⟩
      obtain ⟨X, hX⟩ : ∃ X, X = ll.text ++ (lo.data.toList ++ lr.text) := ⟨_, rfl⟩
      rw [← hX] at l0 l1 l2 l3
      have hXl : X.length = (T.node bl lo lp ll lr).size := by rw [hX]; rfl
      have hXt : (T.node bl lo lp ll lr).text = X := hX.symm
      have HXt := Lib.hid hXt
      have HXl := Lib.hid hXl
      have hXle : X.length ≤ (T.node bl lo lp ll lr).size := by omega
      clear hX hXt hXl
      go_wp2_with fail
      trace_state
      refine wp_region_ext_tail 9 (by kernel_rfl) (by kernel_rfl) ?_
      simp only [List.take_succ_cons, List.take_zero, List.drop_succ_cons, List.drop_zero]
      repeat (go_big_quiet_step (exact Calls.ext_of (plus_any pre X _ (by omega))))
      refine wpQuiet_nil ?_
      intro wg hxg
      have hR := hR.mod hxg (fun f => f)
      have hS := hS.mod hxg (fun f => f)
      have hT := hT.ext hxg
      have hx := hx.ext_trans hxg
      clear d0 d1 d2 d3 e0 e1 e2 e3 c0 c1 c2 c3 f0 f1 f2 f3 hl1 hl2 n04 n4 n58 n9 n10 n11 l0 l1 l2 l3 hbl hbl2
      obtain ⟨c0, c1, c2, c3, f0, f1, f2, f3⟩ := hS.tal
      obtain ⟨n04, n4, n58, n9, n10, n11⟩ := Blk.node hT.1
      have hl1 := hS.lt
      have hbl := Blk.lt hT.1
      have hm4 : Mod (· = w.heap.size + 1) wg ((((wg.setCell ⟨w.heap.size + 1, 0, none⟩ (.int .i64 (byt (pre ++ X) : Nat))).setCell ⟨w.heap.size + 1, 1, none⟩ (.int .i64 (brk (pre ++ X) : Nat))).setCell ⟨w.heap.size + 1, 2, none⟩ (.int .i64 (run (pre ++ X) : Nat))).setCell ⟨w.heap.size + 1, 3, none⟩ (.int .i64 (unt (pre ++ X) : Nat))) :=
       ((((Mod.refl (· = w.heap.size + 1) wg).setCell (fun _ => rfl) _).setCell (fun _ => rfl) _).setCell (fun _ => rfl) _).setCell (fun _ => rfl) _
      have hT := hT.mod hm4 (fun k hk e => by have := Hlow.out k hk; omega)
      have hR := hR.mod hm4 (fun e => by omega)
      have hS := (((hS.set 0 (.int .i64 (byt (pre ++ X) : Nat))).set 1 (.int .i64 (brk (pre ++ X) : Nat))).set 2 (.int .i64 (run (pre ++ X) : Nat))).set 3 (.int .i64 (unt (pre ++ X) : Nat))
      have hx : Ext w _ := ((((hx.setCell (p := ⟨w.heap.size + 1, 0, none⟩) (by simp) (.int .i64 (byt (pre ++ X) : Nat))).setCell (p := ⟨w.heap.size + 1, 1, none⟩) (by simp) (.int .i64 (brk (pre ++ X) : Nat))).setCell (p := ⟨w.heap.size + 1, 2, none⟩) (by simp) (.int .i64 (run (pre ++ X) : Nat))).setCell (p := ⟨w.heap.size + 1, 3, none⟩) (by simp) (.int .i64 (unt (pre ++ X) : Nat)))
      go_upto_region 13 with fail
      generalize ((((wg.setCell ⟨w.heap.size + 1, 0, none⟩ (.int .i64 (byt (pre ++ X) : Nat))).setCell ⟨w.heap.size + 1, 1, none⟩ (.int .i64 (brk (pre ++ X) : Nat))).setCell ⟨w.heap.size + 1, 2, none⟩ (.int .i64 (run (pre ++ X) : Nat))).setCell ⟨w.heap.size + 1, 3, none⟩ (.int .i64 (unt (pre ++ X) : Nat))) = wh at *
      clear c0 c1 c2 c3 f0 f1 f2 f3 hl1 n04 n4 n58 n9 n10 n11 hbl hm4 hxg
      obtain ⟨c0, c1, c2, c3, f0, f1, f2, f3⟩ := hS.tal
      obtain ⟨n04, n4, n58, n9, n10, n11⟩ := Blk.node hT.1
      have hl1 := hS.lt
      have hbl := Blk.lt hT.1
      obtain ⟨d0, d1, d2, d3, e0, e1, e2, e3⟩ := hR.tal
      have hl2 := hR.lt
      have hltl : X.length ≤ (T.node bl lo lp ll lr).size ∧ (T.node bl lo lp ll lr).size ≤ X.length := by have := HXl.out; omega
      have htx2 : (pre ++ X) ++ (own.data.toList ++ tr.text).take (m - (T.node bl lo lp ll lr).size) = T0 := by
       rw [← Htx.out, hcn, HXt.out, show List.take m (X ++ (own.data.toList ++ tr.text)) = X ++ List.take (m - X.length) (own.data.toList ++ tr.text) from by rw [List.take_append, List.take_of_length_le (l := X) (by omega)], HXl.out, List.append_assoc]
      have Htx2 := Lib.hid htx2
      have hPl : (pre ++ X).length = pre.length + X.length := List.length_append
      have hsm2 : (pre ++ X).length + (own.size + tr.size) ≤ 65536 := by omega
      have hle2 : m - (T.node bl lo lp ll lr).size ≤ own.size + tr.size := by omega
      clear htx2 hcn hPl
      generalize pre ++ X = Y at *
      have hlo : own.data.toList.length = own.size := rfl
      by_cases hown : ((m : Int) - ((T.node bl lo lp ll lr).size : Int)) ≤ (own.size : Int)
      ·have hpre : Y ++ List.take (m - (T.node bl lo lp ll lr).size) own.data.toList = T0 := by
        rw [← Htx2.out, List.take_append_of_le_length (by omega)]
       have Hpre := Lib.hid hpre
       clear hpre hlo
       go_wp2_with fail
       refine wp_region_ext_tail 9 (by kernel_rfl) (by kernel_rfl) ?_
       simp only [List.take_succ_cons, List.take_zero, List.drop_succ_cons, List.drop_zero]
       repeat (go_big_quiet_step (first | exact Calls.ext_of (of_any _ _ (by simp; omega)) | exact Calls.ext_of (plus_any Y _ _ (by simp; omega))))
       refine wpQuiet_nil ?_
       intro wf hxf
       have hR := hR.mod hxf (fun f => f)
       have hx := hx.ext_trans hxf
       clear d0 d1 d2 d3 e0 e1 e2 e3 c0 c1 c2 c3 f0 f1 f2 f3 hl1 hl2 n04 n4 n58 n9 n10 n11 hbl
       obtain ⟨d0, d1, d2, d3, e0, e1, e2, e3⟩ := hR.tal
       have hl2 := hR.lt
       go_wp2_with fail
       have hres := ((((Blk.set hR 0 (.int .i64 (byt (Y ++ List.take (m - (T.node bl lo lp ll lr).size) own.data.toList) : Nat))).set 1 (.int .i64 (brk (Y ++ List.take (m - (T.node bl lo lp ll lr).size) own.data.toList) : Nat))).set 2 (.int .i64 (run (Y ++ List.take (m - (T.node bl lo lp ll lr).size) own.data.toList) : Nat))).set 3 (.int .i64 (unt (Y ++ List.take (m - (T.node bl lo lp ll lr).size) own.data.toList) : Nat)))
       refine bodyPost_ret (results_cell_row2 rfl _ _ w.heap.size _ (#[Value.int IntKind.i64 ((byt (Y ++ List.take (m - (T.node bl lo lp ll lr).size) own.data.toList) : Nat) : Int), Value.int IntKind.i64 ((brk (Y ++ List.take (m - (T.node bl lo lp ll lr).size) own.data.toList) : Nat) : Int), Value.int IntKind.i64 ((run (Y ++ List.take (m - (T.node bl lo lp ll lr).size) own.data.toList) : Nat) : Int), Value.int IntKind.i64 ((unt (Y ++ List.take (m - (T.node bl lo lp ll lr).size) own.data.toList) : Nat) : Int)] : Array Value) (0, 0) _ rfl hres Tryz.underlying147 rfl tallySize) rfl ?_
       exact ⟨congrArg (fun l => Ending.returned (.tuple #[.agg (#[Value.int IntKind.i64 ((byt (l) : Nat) : Int), Value.int IntKind.i64 ((brk (l) : Nat) : Int), Value.int IntKind.i64 ((run (l) : Nat) : Int), Value.int IntKind.i64 ((unt (l) : Nat) : Int)] : Array Value), .int .i64 0])) Hpre.out, ((((hx.setCell (by simp) _).setCell (by simp) _).setCell (by simp) _).setCell (by simp) _)⟩
      ·have hown' : decide (((m : Int) - ((T.node bl lo lp ll lr).size : Int)) ≤ (own.size : Int)) = false := by simpa using hown
       have hpre : (Y ++ own.data.toList) ++ tr.text.take ((m - (T.node bl lo lp ll lr).size) - own.size) = T0 := by
        rw [← Htx2.out, List.take_append, List.take_of_length_le (l := own.data.toList) (by omega), hlo, List.append_assoc]
       have Hpre := Lib.hid hpre
       clear hpre
       go_wp2_with fail
       refine wp_region_ext_tail 6 (by kernel_rfl) (by kernel_rfl) ?_
       simp only [List.take_succ_cons, List.take_zero, List.drop_succ_cons, List.drop_zero]
       repeat (go_big_quiet_step (exact Calls.ext_of (plus_any Y own.data.toList _ (by omega))))
       refine wpQuiet_nil ?_
       intro wf hxf
       have hR := hR.mod hxf (fun f => f)
       have hS := hS.mod hxf (fun f => f)
       have hT := hT.ext hxf
       have hx := hx.ext_trans hxf
       clear d0 d1 d2 d3 e0 e1 e2 e3 c0 c1 c2 c3 f0 f1 f2 f3 hl1 hl2 n04 n4 n58 n9 n10 n11 hlo
       obtain ⟨c0, c1, c2, c3, f0, f1, f2, f3⟩ := hS.tal
       have hl1 := hS.lt
       obtain ⟨n04, n4, n58, n9, n10, n11⟩ := Blk.node hT.1
       have hbl := Blk.lt hT.1
       have hbn : b ≠ w.heap.size + 1 := hnb.2
       go_wp2_with fail
       go_roundg (tr.count)
       case rel =>
        have hm4 : Mod (· = w.heap.size + 1) wf ((((wf.setCell ⟨w.heap.size + 1, 0, none⟩ (.int .i64 (byt (Y ++ own.data.toList) : Nat))).setCell ⟨w.heap.size + 1, 1, none⟩ (.int .i64 (brk (Y ++ own.data.toList) : Nat))).setCell ⟨w.heap.size + 1, 2, none⟩ (.int .i64 (run (Y ++ own.data.toList) : Nat))).setCell ⟨w.heap.size + 1, 3, none⟩ (.int .i64 (unt (Y ++ own.data.toList) : Nat))) :=
         ((((Mod.refl (· = w.heap.size + 1) wf).setCell (fun _ => rfl) _).setCell (fun _ => rfl) _).setCell (fun _ => rfl) _).setCell (fun _ => rfl) _
        refine ⟨tr, (m - (T.node bl lo lp ll lr).size) - own.size, Y ++ own.data.toList, ?_, rfl, rfl, Lib.hid ⟨hT.2.2.mod hm4 (fun k hk e => (Hnt.out k hk).2 e), ?_, ?_, hR.mod hm4 (fun e => by omega), Hpre.out, ?_, ?_, fun k hk => Hlow.out k (by simp [T.blocks, hk]), (sized_cons.1 (sized_append.1 Hsd.out).2).2⟩⟩
        ·rw [show (((m - (T.node bl lo lp ll lr).size) - own.size : Nat) : Int) = ((m : Int) - ((T.node bl lo lp ll lr).size : Int)) - (own.size : Int) from by omega]
        ·exact ((((hx.setCell (by simp) _).setCell (by simp) _).setCell (by simp) _).setCell (by simp) _)
        ·exact ((((hS.set 0 _).set 1 _).set 2 _).set 3 _)
        ·rw [List.length_append, show own.data.toList.length = own.size from rfl]; omega
        ·omega
       case measure => have := Hk.out; simp only [T.count] at this ⊢; omega
  ·have hpre : pre = T0 := by rw [← Htx.out, show m = 0 from by omega]; simp
   have Hpre := Lib.hid hpre
   clear hpre
   cases u with
   | nil =>
    rw [show T.nil.addr = none from rfl]
    go_wp2_with fail
    have hres := ((((Blk.set hR 0 (.int .i64 (byt (pre) : Nat))).set 1 (.int .i64 (brk (pre) : Nat))).set 2 (.int .i64 (run (pre) : Nat))).set 3 (.int .i64 (unt (pre) : Nat)))
    refine bodyPost_ret (results_cell_row2 rfl _ _ w.heap.size _ (#[Value.int IntKind.i64 ((byt (pre) : Nat) : Int), Value.int IntKind.i64 ((brk (pre) : Nat) : Int), Value.int IntKind.i64 ((run (pre) : Nat) : Int), Value.int IntKind.i64 ((unt (pre) : Nat) : Int)] : Array Value) (0, 0) _ rfl hres Tryz.underlying147 rfl tallySize) rfl ?_
    exact ⟨congrArg (fun l => Ending.returned (.tuple #[.agg (#[Value.int IntKind.i64 ((byt (l) : Nat) : Int), Value.int IntKind.i64 ((brk (l) : Nat) : Int), Value.int IntKind.i64 ((run (l) : Nat) : Int), Value.int IntKind.i64 ((unt (l) : Nat) : Int)] : Array Value), .int .i64 0])) Hpre.out, ((((hx.setCell (by simp) _).setCell (by simp) _).setCell (by simp) _).setCell (by simp) _)⟩
   | node b own p tl tr =>
    have hm0' : decide ((0 : Int) < (m : Int)) = false := by simpa using hm0
    rw [show (T.node b own p tl tr).addr = some ⟨b, 0, none⟩ from rfl]
    go_wp2_with fail
    have hres := ((((Blk.set hR 0 (.int .i64 (byt (pre) : Nat))).set 1 (.int .i64 (brk (pre) : Nat))).set 2 (.int .i64 (run (pre) : Nat))).set 3 (.int .i64 (unt (pre) : Nat)))
    refine bodyPost_ret (results_cell_row2 rfl _ _ w.heap.size _ (#[Value.int IntKind.i64 ((byt (pre) : Nat) : Int), Value.int IntKind.i64 ((brk (pre) : Nat) : Int), Value.int IntKind.i64 ((run (pre) : Nat) : Int), Value.int IntKind.i64 ((unt (pre) : Nat) : Int)] : Array Value) (0, 0) _ rfl hres Tryz.underlying147 rfl tallySize) rfl ?_
    exact ⟨congrArg (fun l => Ending.returned (.tuple #[.agg (#[Value.int IntKind.i64 ((byt (l) : Nat) : Int), Value.int IntKind.i64 ((brk (l) : Nat) : Int), Value.int IntKind.i64 ((run (l) : Nat) : Int), Value.int IntKind.i64 ((unt (l) : Nat) : Int)] : Array Value), .int .i64 0])) Hpre.out, ((((hx.setCell (by simp) _).setCell (by simp) _).setCell (by simp) _).setCell (by simp) _)⟩
end Go.Proofs.YthlmgoagnfkhdaaGreat

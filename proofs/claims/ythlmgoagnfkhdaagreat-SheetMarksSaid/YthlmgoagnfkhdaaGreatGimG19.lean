/- What rope's Count computes. Conditions: a rope of at most 65536 bytes. -/
import Derived.Test.YthlmgoagnfkhdaaGreatGimG18
import Derived.Test.YthlmgoagnfkhdaaGreatGimG09
import Derived.Test.YthlmgoagnfkhdaaGreatGimG10
import Derived.Test.YthlmgoagnfkhdaaGreatGimG01
import Derived.Deep.LoopGhost
import Derived.Laws.ResultCell
import Derived.Deep.DeepCutAuto
set_option maxHeartbeats 6400000
set_option maxRecDepth 1000000
set_option linter.unusedVariables false
set_option linter.unusedSimpArgs false
namespace Go.Proofs.YthlmgoagnfkhdaaGreat
open Go.RowKit Go.Gim
theorem results_cell_row2 {P : Program} {fn : Func} {p u : Tmp} {ty : TypeId} (h : fn.results = #[.cell p ty, .tmp u]) (tmps : Array Value) (w : World) (g : Nat) (t : TypeId) (cs : Array Value) (fr : Nat × Nat) (d : TypeDesc)
  (hp : tmps.getD p undef = .pointer (some ⟨g, 0, none⟩)) (hg : w.heap[g]? = some (.cells cs t fr))
  (hu : P.underlying ty = some d) (hd : (match d with | .struct _ | .array _ _ => true | _ => false) = true) (hi : (P.info? ty).map (·.size) = some cs.size) :
  (results fn tmps).run P w = .ok (.tuple #[.agg cs, tmps.getD u undef]) w := by
 rw [results_cell_tmp h, hp]
 simp [asAddr, run_loadVar_row w g t ty cs fr d hg hu hd hi]
def CountPost (l : List UInt8) (w : World) (e : Ending) (w' : World) : Prop := e = .returned (.tuple #[.agg (#[Value.int IntKind.i64 ((byt (l) : Nat) : Int), Value.int IntKind.i64 ((brk (l) : Nat) : Int), Value.int IntKind.i64 ((run (l) : Nat) : Int), Value.int IntKind.i64 ((unt (l) : Nat) : Int)] : Array Value), .int .i64 0]) ∧ Ext w w'
structure CountAt (w : World) (T0 : List UInt8) (u : T) (m : Nat) (pre : List UInt8) (wr : World) : Prop where
 tree : TreeAt wr u
 ext : Ext w wr
 sum : Blk wr (w.heap.size + 1) 147 (#[Value.int IntKind.i64 ((byt (pre) : Nat) : Int), Value.int IntKind.i64 ((brk (pre) : Nat) : Int), Value.int IntKind.i64 ((run (pre) : Nat) : Int), Value.int IntKind.i64 ((unt (pre) : Nat) : Int)] : Array Value)
 res : Blk wr w.heap.size 147 (#[Value.int IntKind.i64 ((byt ([]) : Nat) : Int), Value.int IntKind.i64 ((brk ([]) : Nat) : Int), Value.int IntKind.i64 ((run ([]) : Nat) : Int), Value.int IntKind.i64 ((unt ([]) : Nat) : Int)] : Array Value)
 text : pre ++ u.text.take m = T0
 small : pre.length + u.size ≤ 65536
 le : m ≤ u.size
 low : ∀ k ∈ u.blocks, k < w.heap.size
 sized : Sized u.owns
theorem count_yes (R : Rp) (f : Int) (w : World) (h : RopeAt w R) (hn : risesB f f R.t.size = true) : Calls Tryz.prog 183 #[.pointer (some ⟨R.rb, 0, none⟩), .int .i64 f] w (CountPost (R.text.take f.toNat) w) := by
 obtain ⟨g1, _, g3⟩ := rises_out hn
 have hs := h.size
 obtain ⟨m0, rfl⟩ := Int.eq_ofNat_of_zero_le g1
 generalize hT0 : R.text.take (m0 : Int).toNat = T0
 have HT0 := Lib.hid hT0
 clear hT0
 go_enter Tryz.func183, Tryz.ntmps183
 go_wp2_with fail
 refine (rises_any R _ _ _ (h.ext ((Mod.refl _ w).alloc _))).mono ?_
 rintro e w' ⟨rfl, rfl⟩
 rw [hn]
 obtain ⟨_, c1, _, hb⟩ := h.cells
 go_wp2_with fail
 go_loopg [1, 7] R.t.count (fun k p q wr => ∃ (u : T) (m : Nat) (pre : List UInt8), p = .int .i64 m ∧ q = .pointer u.addr ∧ u.count = k ∧ Hid (CountAt w T0 u m pre wr))
 case atStart =>
  refine ⟨R.t, m0, [], rfl, rfl, rfl, Lib.hid ⟨h.tree.ext (((Mod.refl _ w).alloc _).alloc _), ((Mod.refl _ w).alloc _).alloc _, ?_, ?_, ?_, by simpa using hs, by omega, h.tree.lt, h.pcs.1⟩⟩
  ·exact Blk.new1 _ _ _ _
  ·exact (Blk.new _ _ _).alloc _
  ·rw [← HT0.out]; simp [Rp.text]
 case round =>
  obtain ⟨u, m, pre, rfl, rfl, hk, HC⟩ := hrel
  have hx := HC.out.ext
  have hS := HC.out.sum
  have hR := HC.out.res
  have htx := HC.out.text
  have hsm := HC.out.small
  have hle := HC.out.le
  have hT := HC.out.tree
  have Hlow := Lib.hid HC.out.low
  have Hsd := Lib.hid HC.out.sized
  have Htx := Lib.hid htx
  have Hk := Lib.hid hk
  clear htx HC hk c1 hb
  obtain ⟨c0, c1, c2, c3, f0, f1, f2, f3⟩ := hS.tal
  obtain ⟨d0, d1, d2, d3, e0, e1, e2, e3⟩ := hR.tal
  have hl1 := hS.lt
  have hl2 := hR.lt
  by_cases hm0 : (0 : Int) < (m : Int)
  ·cases u with
   | nil => simp [T.size, T.text] at hle; omega
   | node b own p tl tr =>
    have hsz := T.size_node b own p tl tr
    obtain ⟨n04, n4, n58, n9, n10, n11⟩ := Blk.node hT.1
    have hbl := Blk.lt hT.1
    have hnb : b ≠ w.heap.size ∧ b ≠ w.heap.size + 1 := by
     have := Hlow.out b (by simp [T.blocks]); omega
    have hnt : ∀ k ∈ tr.blocks, k ≠ w.heap.size ∧ k ≠ w.heap.size + 1 := fun k hk => by
     have := Hlow.out k (by simp [T.blocks, hk]); omega
    have Hnt := Lib.hid hnt
    clear hnt
    have hcn : (T.node b own p tl tr).text = tl.text ++ (own.data.toList ++ tr.text) := rfl
    rw [show (T.node b own p tl tr).addr = some ⟨b, 0, none⟩ from rfl]
    cases tl with
    | nil =>
     have htx2 : pre ++ (own.data.toList ++ tr.text).take m = T0 := Htx.out
     have Htx2 := Lib.hid htx2
     have hsm2 : pre.length + (own.size + tr.size) ≤ 65536 := by rw [hsz, show T.nil.size = 0 from rfl] at hsm; omega
     have hle2 : m ≤ own.size + tr.size := by rw [hsz, show T.nil.size = 0 from rfl] at hle; omega
     clear htx2 hcn hsz hsm hle
     go_wp2_with fail
     refine (size_nil _).mono ?_
     rintro e w2 ⟨rfl, rfl⟩
     have hlo : own.data.toList.length = own.size := rfl
     by_cases hown : (m : Int) ≤ (own.size : Int)
     ·have hpre : pre ++ List.take m own.data.toList = T0 := by
       rw [← Htx2.out, List.take_append_of_le_length (by omega)]
      have Hpre := Lib.hid hpre
      clear hpre hlo
      go_wp2_with fail
      refine wp_region_ext_tail 9 (by kernel_rfl) (by kernel_rfl) ?_
      simp only [List.take_succ_cons, List.take_zero, List.drop_succ_cons, List.drop_zero]
      repeat (go_big_quiet_step (first | exact Calls.ext_of (of_any _ _ (by simp; omega)) | exact Calls.ext_of (plus_any pre _ _ (by simp; omega))))
      refine wpQuiet_nil ?_
      intro wf hxf
      have hR := hR.mod hxf (fun f => f)
      have hx := hx.ext_trans hxf
      clear d0 d1 d2 d3 e0 e1 e2 e3 c0 c1 c2 c3 f0 f1 f2 f3 hl1 hl2 n04 n4 n58 n9 n10 n11 hbl
      obtain ⟨d0, d1, d2, d3, e0, e1, e2, e3⟩ := hR.tal
      have hl2 := hR.lt
      go_wp2_with fail
      have hres := ((((Blk.set hR 0 (.int .i64 (byt (pre ++ List.take m own.data.toList) : Nat))).set 1 (.int .i64 (brk (pre ++ List.take m own.data.toList) : Nat))).set 2 (.int .i64 (run (pre ++ List.take m own.data.toList) : Nat))).set 3 (.int .i64 (unt (pre ++ List.take m own.data.toList) : Nat)))
      refine bodyPost_ret (results_cell_row2 rfl _ _ w.heap.size _ (#[Value.int IntKind.i64 ((byt (pre ++ List.take m own.data.toList) : Nat) : Int), Value.int IntKind.i64 ((brk (pre ++ List.take m own.data.toList) : Nat) : Int), Value.int IntKind.i64 ((run (pre ++ List.take m own.data.toList) : Nat) : Int), Value.int IntKind.i64 ((unt (pre ++ List.take m own.data.toList) : Nat) : Int)] : Array Value) (0, 0) _ rfl hres Tryz.underlying147 rfl tallySize) rfl ?_
      exact ⟨congrArg (fun l => Ending.returned (.tuple #[.agg (#[Value.int IntKind.i64 ((byt (l) : Nat) : Int), Value.int IntKind.i64 ((brk (l) : Nat) : Int), Value.int IntKind.i64 ((run (l) : Nat) : Int), Value.int IntKind.i64 ((unt (l) : Nat) : Int)] : Array Value), .int .i64 0])) Hpre.out, ((((hx.setCell (by simp) _).setCell (by simp) _).setCell (by simp) _).setCell (by simp) _)⟩
     ·have hown' : decide ((m : Int) ≤ (own.size : Int)) = false := by simpa using hown
      have hpre : (pre ++ own.data.toList) ++ tr.text.take (m - own.size) = T0 := by
       rw [← Htx2.out, List.take_append, List.take_of_length_le (l := own.data.toList) (by omega), hlo, List.append_assoc]
      have Hpre := Lib.hid hpre
      clear hpre
      go_wp2_with fail
      refine wp_region_ext_tail 6 (by kernel_rfl) (by kernel_rfl) ?_
      simp only [List.take_succ_cons, List.take_zero, List.drop_succ_cons, List.drop_zero]
      repeat (go_big_quiet_step (exact Calls.ext_of (plus_any pre own.data.toList _ (by omega))))
      refine wpQuiet_nil ?_
      intro wf hxf
      have hR := hR.mod hxf (fun f => f)
      have hS := hS.mod hxf (fun f => f)
      have hT := hT.ext hxf
      have hx := hx.ext_trans hxf
      clear d0 d1 d2 d3 e0 e1 e2 e3 c0 c1 c2 c3 f0 f1 f2 f3 hl1 hl2 n04 n4 n58 n9 n10 n11 hlo
      obtain ⟨c0, c1, c2, c3, f0, f1, f2, f3⟩ := hS.tal
      have hl1 := hS.lt
      obtain ⟨n04, n4, n58, n9, n10, n11⟩ := Blk.node hT.1
      have hbl := Blk.lt hT.1
      have hbn : b ≠ w.heap.size + 1 := hnb.2
      go_wp2_with fail
      go_roundg (tr.count)
      case rel =>
       have hm4 : Mod (· = w.heap.size + 1) wf ((((wf.setCell ⟨w.heap.size + 1, 0, none⟩ (.int .i64 (byt (pre ++ own.data.toList) : Nat))).setCell ⟨w.heap.size + 1, 1, none⟩ (.int .i64 (brk (pre ++ own.data.toList) : Nat))).setCell ⟨w.heap.size + 1, 2, none⟩ (.int .i64 (run (pre ++ own.data.toList) : Nat))).setCell ⟨w.heap.size + 1, 3, none⟩ (.int .i64 (unt (pre ++ own.data.toList) : Nat))) :=
        ((((Mod.refl (· = w.heap.size + 1) wf).setCell (fun _ => rfl) _).setCell (fun _ => rfl) _).setCell (fun _ => rfl) _).setCell (fun _ => rfl) _
       refine ⟨tr, m - own.size, pre ++ own.data.toList, ?_, rfl, rfl, Lib.hid ⟨hT.2.2.mod hm4 (fun k hk e => (Hnt.out k hk).2 e), ?_, ?_, hR.mod hm4 (fun e => by omega), Hpre.out, ?_, ?_, fun k hk => Hlow.out k (by simp [T.blocks, hk]), (sized_cons.1 (sized_append.1 Hsd.out).2).2⟩⟩
       ·rw [show ((m - own.size : Nat) : Int) = (m : Int) - (own.size : Int) from by omega]
       ·exact ((((hx.setCell (by simp) _).setCell (by simp) _).setCell (by simp) _).setCell (by simp) _)
       ·exact ((((hS.set 0 _).set 1 _).set 2 _).set 3 _)
       ·rw [List.length_append, show own.data.toList.length = own.size from rfl]; omega
       ·omega
      case measure => have := Hk.out; simp only [T.count] at this ⊢; omega
    | node bl lo lp ll lr =>
     have hkpos : 0 < (T.node bl lo lp ll lr).size := by
      have h1 := (sized_append.1 Hsd.out).1
      rw [T.size_join]
      exact join_pos h1 (by simp [T.owns])
     have hltx : (T.node bl lo lp ll lr).text.length = (T.node bl lo lp ll lr).size := rfl
     by_cases hmk : (m : Int) ≤ ((T.node bl lo lp ll lr).size : Int)
     ·have htx2 : pre ++ (T.node bl lo lp ll lr).text.take m = T0 := by
       rw [← Htx.out, hcn, List.take_append_of_le_length (by rw [hltx]; omega)]
      have Htx2 := Lib.hid htx2
      clear htx2 hcn
      go_wp2_with fail
      refine (size_any _ _ hT.2.1).mono ?_
      rintro e w2 ⟨rfl, rfl⟩
      go_wp2_with fail
      go_roundg ((T.node bl lo lp ll lr).count)
      case rel =>
       exact ⟨_, m, pre, rfl, rfl, rfl, Lib.hid ⟨hT.2.1, hx, hS, hR, Htx2.out, by omega, by omega, fun k hk => Hlow.out k (List.mem_cons_of_mem _ (List.mem_append_left _ hk)), (sized_append.1 Hsd.out).1⟩⟩
      case measure => have := Hk.out; simp only [T.count] at this ⊢; omega
     ·have hmk' : decide ((m : Int) ≤ ((T.node bl lo lp ll lr).size : Int)) = false := by simpa using hmk
      replace n10 : wr.cell? ⟨b, 10, none⟩ = some (.pointer (some ⟨bl, 0, none⟩)) := n10
      obtain ⟨⟨l0, l1, l2, l3⟩, _⟩ := Blk.node hT.2.1.1
      have hbl2 := Blk.lt hT.2.1.1
      go_wp2_with fail
      refine (size_any (T.node bl lo lp ll lr) _ hT.2.1).mono ?_
      rintro e w2 ⟨rfl, rfl⟩
      obtain ⟨X, hX⟩ : ∃ X, X = ll.text ++ (lo.data.toList ++ lr.text) := ⟨_, rfl⟩
      rw [← hX] at l0 l1 l2 l3
      have hXl : X.length = (T.node bl lo lp ll lr).size := by rw [hX]; rfl
      have hXt : (T.node bl lo lp ll lr).text = X := hX.symm
      have HXt := Lib.hid hXt
      have HXl := Lib.hid hXl
      have hXle : X.length ≤ (T.node bl lo lp ll lr).size := by omega
      clear hX hXt hXl
      go_wp2_with fail
      trace_state
      refine wp_region_ext_tail 9 (by kernel_rfl) (by kernel_rfl) ?_
      simp only [List.take_succ_cons, List.take_zero, List.drop_succ_cons, List.drop_zero]
      repeat (go_big_quiet_step (exact Calls.ext_of (plus_any pre X _ (by omega))))
      refine wpQuiet_nil ?_
      intro wg hxg
      have hR := hR.mod hxg (fun f => f)
      have hS := hS.mod hxg (fun f => f)
      have hT := hT.ext hxg
      have hx := hx.ext_trans hxg
      clear d0 d1 d2 d3 e0 e1 e2 e3 c0 c1 c2 c3 f0 f1 f2 f3 hl1 hl2 n04 n4 n58 n9 n10 n11 l0 l1 l2 l3 hbl hbl2
      obtain ⟨c0, c1, c2, c3, f0, f1, f2, f3⟩ := hS.tal
      obtain ⟨n04, n4, n58, n9, n10, n11⟩ := Blk.node hT.1
      have hl1 := hS.lt
      have hbl := Blk.lt hT.1
      have hm4 : Mod (· = w.heap.size + 1) wg ((((wg.setCell ⟨w.heap.size + 1, 0, none⟩ (.int .i64 (byt (pre ++ X) : Nat))).setCell ⟨w.heap.size + 1, 1, none⟩ (.int .i64 (brk (pre ++ X) : Nat))).setCell ⟨w.heap.size + 1, 2, none⟩ (.int .i64 (run (pre ++ X) : Nat))).setCell ⟨w.heap.size + 1, 3, none⟩ (.int .i64 (unt (pre ++ X) : Nat))) :=
       ((((Mod.refl (· = w.heap.size + 1) wg).setCell (fun _ => rfl) _).setCell (fun _ => rfl) _).setCell (fun _ => rfl) _).setCell (fun _ => rfl) _
      have hT := hT.mod hm4 (fun k hk e => by have := Hlow.out k hk; omega)
      have hR := hR.mod hm4 (fun e => by omega)
      have hS := (((hS.set 0 (.int .i64 (byt (pre ++ X) : Nat))).set 1 (.int .i64 (brk (pre ++ X) : Nat))).set 2 (.int .i64 (run (pre ++ X) : Nat))).set 3 (.int .i64 (unt (pre ++ X) : Nat))
      have hx : Ext w _ := ((((hx.setCell (p := ⟨w.heap.size + 1, 0, none⟩) (by simp) (.int .i64 (byt (pre ++ X) : Nat))).setCell (p := ⟨w.heap.size + 1, 1, none⟩) (by simp) (.int .i64 (brk (pre ++ X) : Nat))).setCell (p := ⟨w.heap.size + 1, 2, none⟩) (by simp) (.int .i64 (run (pre ++ X) : Nat))).setCell (p := ⟨w.heap.size + 1, 3, none⟩) (by simp) (.int .i64 (unt (pre ++ X) : Nat)))
      go_upto_region 13 with fail
      generalize ((((wg.setCell ⟨w.heap.size + 1, 0, none⟩ (.int .i64 (byt (pre ++ X) : Nat))).setCell ⟨w.heap.size + 1, 1, none⟩ (.int .i64 (brk (pre ++ X) : Nat))).setCell ⟨w.heap.size + 1, 2, none⟩ (.int .i64 (run (pre ++ X) : Nat))).setCell ⟨w.heap.size + 1, 3, none⟩ (.int .i64 (unt (pre ++ X) : Nat))) = wh at *
      clear c0 c1 c2 c3 f0 f1 f2 f3 hl1 n04 n4 n58 n9 n10 n11 hbl hm4 hxg
      obtain ⟨c0, c1, c2, c3, f0, f1, f2, f3⟩ := hS.tal
      obtain ⟨n04, n4, n58, n9, n10, n11⟩ := Blk.node hT.1
      have hl1 := hS.lt
      have hbl := Blk.lt hT.1
      obtain ⟨d0, d1, d2, d3, e0, e1, e2, e3⟩ := hR.tal
      have hl2 := hR.lt
      have hltl : X.length ≤ (T.node bl lo lp ll lr).size ∧ (T.node bl lo lp ll lr).size ≤ X.length := by have := HXl.out; omega
      have htx2 : (pre ++ X) ++ (own.data.toList ++ tr.text).take (m - (T.node bl lo lp ll lr).size) = T0 := by
       rw [← Htx.out, hcn, HXt.out, show List.take m (X ++ (own.data.toList ++ tr.text)) = X ++ List.take (m - X.length) (own.data.toList ++ tr.text) from by rw [List.take_append, List.take_of_length_le (l := X) (by omega)], HXl.out, List.append_assoc]
      have Htx2 := Lib.hid htx2
      have hPl : (pre ++ X).length = pre.length + X.length := List.length_append
      have hsm2 : (pre ++ X).length + (own.size + tr.size) ≤ 65536 := by omega
      have hle2 : m - (T.node bl lo lp ll lr).size ≤ own.size + tr.size := by omega
      clear htx2 hcn hPl
      generalize pre ++ X = Y at *
      have hlo : own.data.toList.length = own.size := rfl
      by_cases hown : ((m : Int) - ((T.node bl lo lp ll lr).size : Int)) ≤ (own.size : Int)
      ·have hpre : Y ++ List.take (m - (T.node bl lo lp ll lr).size) own.data.toList = T0 := by
        rw [← Htx2.out, List.take_append_of_le_length (by omega)]
       have Hpre := Lib.hid hpre
       clear hpre hlo
       go_wp2_with fail
       refine wp_region_ext_tail 9 (by kernel_rfl) (by kernel_rfl) ?_
       simp only [List.take_succ_cons, List.take_zero, List.drop_succ_cons, List.drop_zero]
       repeat (go_big_quiet_step (first | exact Calls.ext_of (of_any _ _ (by simp; omega)) | exact Calls.ext_of (plus_any Y _ _ (by simp; omega))))
       refine wpQuiet_nil ?_
       intro wf hxf
       have hR := hR.mod hxf (fun f => f)
       have hx := hx.ext_trans hxf
       clear d0 d1 d2 d3 e0 e1 e2 e3 c0 c1 c2 c3 f0 f1 f2 f3 hl1 hl2 n04 n4 n58 n9 n10 n11 hbl
       obtain ⟨d0, d1, d2, d3, e0, e1, e2, e3⟩ := hR.tal
       have hl2 := hR.lt
       go_wp2_with fail
       have hres := ((((Blk.set hR 0 (.int .i64 (byt (Y ++ List.take (m - (T.node bl lo lp ll lr).size) own.data.toList) : Nat))).set 1 (.int .i64 (brk (Y ++ List.take (m - (T.node bl lo lp ll lr).size) own.data.toList) : Nat))).set 2 (.int .i64 (run (Y ++ List.take (m - (T.node bl lo lp ll lr).size) own.data.toList) : Nat))).set 3 (.int .i64 (unt (Y ++ List.take (m - (T.node bl lo lp ll lr).size) own.data.toList) : Nat)))
       refine bodyPost_ret (results_cell_row2 rfl _ _ w.heap.size _ (#[Value.int IntKind.i64 ((byt (Y ++ List.take (m - (T.node bl lo lp ll lr).size) own.data.toList) : Nat) : Int), Value.int IntKind.i64 ((brk (Y ++ List.take (m - (T.node bl lo lp ll lr).size) own.data.toList) : Nat) : Int), Value.int IntKind.i64 ((run (Y ++ List.take (m - (T.node bl lo lp ll lr).size) own.data.toList) : Nat) : Int), Value.int IntKind.i64 ((unt (Y ++ List.take (m - (T.node bl lo lp ll lr).size) own.data.toList) : Nat) : Int)] : Array Value) (0, 0) _ rfl hres Tryz.underlying147 rfl tallySize) rfl ?_
       exact ⟨congrArg (fun l => Ending.returned (.tuple #[.agg (#[Value.int IntKind.i64 ((byt (l) : Nat) : Int), Value.int IntKind.i64 ((brk (l) : Nat) : Int), Value.int IntKind.i64 ((run (l) : Nat) : Int), Value.int IntKind.i64 ((unt (l) : Nat) : Int)] : Array Value), .int .i64 0])) Hpre.out, ((((hx.setCell (by simp) _).setCell (by simp) _).setCell (by simp) _).setCell (by simp) _)⟩
      ·have hown' : decide (((m : Int) - ((T.node bl lo lp ll lr).size : Int)) ≤ (own.size : Int)) = false := by simpa using hown
       have hpre : (Y ++ own.data.toList) ++ tr.text.take ((m - (T.node bl lo lp ll lr).size) - own.size) = T0 := by
        rw [← Htx2.out, List.take_append, List.take_of_length_le (l := own.data.toList) (by omega), hlo, List.append_assoc]
       have Hpre := Lib.hid hpre
       clear hpre
       go_wp2_with fail
       refine wp_region_ext_tail 6 (by kernel_rfl) (by kernel_rfl) ?_
       simp only [List.take_succ_cons, List.take_zero, List.drop_succ_cons, List.drop_zero]
       repeat (go_big_quiet_step (exact Calls.ext_of (plus_any Y own.data.toList _ (by omega))))
       refine wpQuiet_nil ?_
       intro wf hxf
       have hR := hR.mod hxf (fun f => f)
       have hS := hS.mod hxf (fun f => f)
       have hT := hT.ext hxf
       have hx := hx.ext_trans hxf
       clear d0 d1 d2 d3 e0 e1 e2 e3 c0 c1 c2 c3 f0 f1 f2 f3 hl1 hl2 n04 n4 n58 n9 n10 n11 hlo
       obtain ⟨c0, c1, c2, c3, f0, f1, f2, f3⟩ := hS.tal
       have hl1 := hS.lt
       obtain ⟨n04, n4, n58, n9, n10, n11⟩ := Blk.node hT.1
       have hbl := Blk.lt hT.1
       have hbn : b ≠ w.heap.size + 1 := hnb.2
       go_wp2_with fail
       go_roundg (tr.count)
       case rel =>
        have hm4 : Mod (· = w.heap.size + 1) wf ((((wf.setCell ⟨w.heap.size + 1, 0, none⟩ (.int .i64 (byt (Y ++ own.data.toList) : Nat))).setCell ⟨w.heap.size + 1, 1, none⟩ (.int .i64 (brk (Y ++ own.data.toList) : Nat))).setCell ⟨w.heap.size + 1, 2, none⟩ (.int .i64 (run (Y ++ own.data.toList) : Nat))).setCell ⟨w.heap.size + 1, 3, none⟩ (.int .i64 (unt (Y ++ own.data.toList) : Nat))) :=
         ((((Mod.refl (· = w.heap.size + 1) wf).setCell (fun _ => rfl) _).setCell (fun _ => rfl) _).setCell (fun _ => rfl) _).setCell (fun _ => rfl) _
        refine ⟨tr, (m - (T.node bl lo lp ll lr).size) - own.size, Y ++ own.data.toList, ?_, rfl, rfl, Lib.hid ⟨hT.2.2.mod hm4 (fun k hk e => (Hnt.out k hk).2 e), ?_, ?_, hR.mod hm4 (fun e => by omega), Hpre.out, ?_, ?_, fun k hk => Hlow.out k (by simp [T.blocks, hk]), (sized_cons.1 (sized_append.1 Hsd.out).2).2⟩⟩
        ·rw [show (((m - (T.node bl lo lp ll lr).size) - own.size : Nat) : Int) = ((m : Int) - ((T.node bl lo lp ll lr).size : Int)) - (own.size : Int) from by omega]
        ·exact ((((hx.setCell (by simp) _).setCell (by simp) _).setCell (by simp) _).setCell (by simp) _)
        ·exact ((((hS.set 0 _).set 1 _).set 2 _).set 3 _)
        ·rw [List.length_append, show own.data.toList.length = own.size from rfl]; omega
        ·omega
       case measure => have := Hk.out; simp only [T.count] at this ⊢; omega
  ·have hpre : pre = T0 := by rw [← Htx.out, show m = 0 from by omega]; simp
   have Hpre := Lib.hid hpre
   clear hpre
   cases u with
   | nil =>
    rw [show T.nil.addr = none from rfl]
    go_wp2_with fail
    have hres := ((((Blk.set hR 0 (.int .i64 (byt (pre) : Nat))).set 1 (.int .i64 (brk (pre) : Nat))).set 2 (.int .i64 (run (pre) : Nat))).set 3 (.int .i64 (unt (pre) : Nat)))
    refine bodyPost_ret (results_cell_row2 rfl _ _ w.heap.size _ (#[Value.int IntKind.i64 ((byt (pre) : Nat) : Int), Value.int IntKind.i64 ((brk (pre) : Nat) : Int), Value.int IntKind.i64 ((run (pre) : Nat) : Int), Value.int IntKind.i64 ((unt (pre) : Nat) : Int)] : Array Value) (0, 0) _ rfl hres Tryz.underlying147 rfl tallySize) rfl ?_
    exact ⟨congrArg (fun l => Ending.returned (.tuple #[.agg (#[Value.int IntKind.i64 ((byt (l) : Nat) : Int), Value.int IntKind.i64 ((brk (l) : Nat) : Int), Value.int IntKind.i64 ((run (l) : Nat) : Int), Value.int IntKind.i64 ((unt (l) : Nat) : Int)] : Array Value), .int .i64 0])) Hpre.out, ((((hx.setCell (by simp) _).setCell (by simp) _).setCell (by simp) _).setCell (by simp) _)⟩
   | node b own p tl tr =>
    have hm0' : decide ((0 : Int) < (m : Int)) = false := by simpa using hm0
    rw [show (T.node b own p tl tr).addr = some ⟨b, 0, none⟩ from rfl]
    go_wp2_with fail
    have hres := ((((Blk.set hR 0 (.int .i64 (byt (pre) : Nat))).set 1 (.int .i64 (brk (pre) : Nat))).set 2 (.int .i64 (run (pre) : Nat))).set 3 (.int .i64 (unt (pre) : Nat)))
    refine bodyPost_ret (results_cell_row2 rfl _ _ w.heap.size _ (#[Value.int IntKind.i64 ((byt (pre) : Nat) : Int), Value.int IntKind.i64 ((brk (pre) : Nat) : Int), Value.int IntKind.i64 ((run (pre) : Nat) : Int), Value.int IntKind.i64 ((unt (pre) : Nat) : Int)] : Array Value) (0, 0) _ rfl hres Tryz.underlying147 rfl tallySize) rfl ?_
    exact ⟨congrArg (fun l => Ending.returned (.tuple #[.agg (#[Value.int IntKind.i64 ((byt (l) : Nat) : Int), Value.int IntKind.i64 ((brk (l) : Nat) : Int), Value.int IntKind.i64 ((run (l) : Nat) : Int), Value.int IntKind.i64 ((unt (l) : Nat) : Int)] : Array Value), .int .i64 0])) Hpre.out, ((((hx.setCell (by simp) _).setCell (by simp) _).setCell (by simp) _).setCell (by simp) _)⟩
structure UptoAt (w : World) (way : Int) (U : Nat) (u : T) (k m : Nat) (wr : World) : Prop where
 tree : TreeAt wr u
 ext : Ext w wr
 val : U = k + upto way u.text m
 small : k + u.size ≤ 65536
 int : IsInt m
 sized : Sized u.owns
theorem upto_yes (R : Rp) (way : Int) (n : Nat) (w : World) (h : RopeAt w R) (h0 : 0 ≤ way) (h3 : way ≤ 3) (hni : IsInt n) :
  Calls Tryz.prog 149 #[.pointer (some ⟨R.rb, 0, none⟩), .int .i64 way, .int .i64 n] w fun e w' => e = .returned (.int .i64 (upto way R.text n : Nat)) ∧ Ext w w' := by
 have hn0 : (0 : Int) ≤ (n : Int) := Int.natCast_nonneg _
 have hs := h.size
 generalize hU : upto way R.text n = U
 have HU := Lib.hid hU
 clear hU
 obtain ⟨_, c1, _, hb⟩ := h.cells
 go_enter Tryz.func149, Tryz.ntmps149
 go_wp2_with fail
 go_loopg [2, 7, 8] R.t.count (fun c p q r wr => ∃ (u : T) (k m : Nat), p = .int .i64 m ∧ q = .int .i64 k ∧ r = .pointer u.addr ∧ u.count = c ∧ Hid (UptoAt w way U u k m wr))
 case atStart => exact ⟨R.t, 0, n, rfl, rfl, rfl, rfl, Lib.hid ⟨h.tree, Mod.refl _ _, by rw [← HU.out]; simp [Rp.text], by omega, hni, h.pcs.1⟩⟩
 case round =>
  obtain ⟨u, k, m, rfl, rfl, rfl, hk, HC⟩ := hrel
  have hT := HC.out.tree
  have hx := HC.out.ext
  have hsm := HC.out.small
  have Hk := Lib.hid hk
  clear hk c1 hb
  cases u with
  | nil =>
   rw [show T.nil.addr = none from rfl]
   go_wp2_with fail
   go_ret
   exact ⟨ret_int (by rw [HC.out.val]; simp [upto, T.text]), hx⟩
  | node b own p tl tr =>
   have hsz := T.size_node b own p tl tr
   obtain ⟨n04, n4, ⟨n5, n6, n7, n8⟩, n9, n10, n11⟩ := Blk.node hT.1
   have hbl := Blk.lt hT.1
   have hcn : (T.node b own p tl tr).text = tl.text ++ (own.data.toList ++ tr.text) := rfl
   have Hcn := Lib.hid hcn
   clear hcn
   rw [show (T.node b own p tl tr).addr = some ⟨b, 0, none⟩ from rfl]
   go_upto_if 33 with fail
   go_cut [2, 7, 8] (fun s1 s2 s3 wx => ∃ (k2 m2 : Nat), s1 = .int .i64 m2 ∧ s2 = .int .i64 k2 ∧ s3 = .pointer (some ⟨b, 0, none⟩) ∧ Hid (TreeAt wx (T.node b own p tl tr) ∧ Ext w wx ∧ U = k2 + upto way (own.data.toList ++ tr.text) m2 ∧ k2 + (own.size + tr.size) ≤ 65536 ∧ IsInt m2))
   case first =>
    cases tl with
    | nil =>
     rw [show T.nil.addr = none from rfl] at *
     go_wp2_with fail
     go_meet
     case rel => exact ⟨k, m, rfl, rfl, rfl, Lib.hid ⟨hT, hx, by rw [HC.out.val, Hcn.out]; rfl, by rw [hsz, show T.nil.size = 0 from rfl] at hsm; omega, HC.out.int⟩⟩
    | node bl lo lp ll lr =>
     have hle := byW_le way (T.node bl lo lp ll lr).text
     have hll : (T.node bl lo lp ll lr).text.length = (T.node bl lo lp ll lr).size := rfl
     have hT1 := hT.2.1.1
     have hSz := Lib.hid hT.2.1
     obtain ⟨X, hX⟩ : ∃ X, X = ll.text ++ (lo.data.toList ++ lr.text) := ⟨_, rfl⟩
     have hXt : (T.node bl lo lp ll lr).text = X := hX.symm
     rw [hXt] at hle hll
     rw [← hX] at hT1
     obtain ⟨⟨l0, l1, l2, l3⟩, _⟩ := Blk.node hT1
     have hbl2 := Blk.lt hT1
     replace n10 : wr.cell? ⟨b, 10, none⟩ = some (.pointer (some ⟨bl, 0, none⟩)) := n10
     have HXt := Lib.hid hXt
     have hi := HC.out.int
     have Hi := Lib.hid hi
     clear hX hXt hT1 hi
     have hXs : X.length ≤ (T.node bl lo lp ll lr).size ∧ (T.node bl lo lp ll lr).size ≤ X.length := by omega
     have HXl := Lib.hid hll
     clear hll
     go_wp2_with fail
     refine (by_any X way _).mono ?_
     rintro e w1 ⟨rfl, hx1⟩
     have hT2 := hT.ext hx1
     have hx2 := hx.ext_trans hx1
     clear n04 n4 n5 n6 n7 n8 n9 n10 n11 l0 l1 l2 l3 hbl hbl2
     obtain ⟨n04, n4, ⟨n5, n6, n7, n8⟩, n9, n10, n11⟩ := Blk.node hT2.1
     have hbl := Blk.lt hT2.1
     replace n10 : w1.cell? ⟨b, 10, none⟩ = some (.pointer (some ⟨bl, 0, none⟩)) := n10
     have hsize := size_any (T.node bl lo lp ll lr) w1 hT2.2.1
     rw [show (T.node bl lo lp ll lr).addr = some ⟨bl, 0, none⟩ from rfl] at hsize
     generalize hB : byW way X = B at *
     have HB := Lib.hid hB
     clear hB
     by_cases hm : (m : Int) < (B : Int)
     ·go_wp2_with fail
      go_roundg ((T.node bl lo lp ll lr).count)
      case rel =>
       refine ⟨_, k, m, rfl, rfl, rfl, rfl, Lib.hid ⟨hT2.2.1, hx2, ?_, by omega, Hi.out, (sized_append.1 HC.out.sized).1⟩⟩
       rw [HC.out.val, Hcn.out, upto_append_lt _ _ _ _ (by rw [HXt.out, HB.out]; omega)]
      case measure => have := Hk.out; simp only [T.count] at this ⊢; omega
     ·have hm' : decide ((m : Int) < (B : Int)) = false := by simpa using hm
      have hw := Hi.out.sub (b := B) (by omega) (by omega)
      have hi2 := Hi.out.sub' (b := B) (by omega) (by omega)
      have e : ((m - B : Nat) : Int) = (m : Int) - (B : Int) := by omega
      have E := Lib.hid e
      have Hw := Lib.hid hw
      have Hi2 := Lib.hid hi2
      clear e hw hi2
      go_wp2_with fail
      refine hsize.mono ?_
      rintro e w2 ⟨rfl, rfl⟩
      go_wp2_with fail
      go_meet
      case rel =>
       refine ⟨k + (T.node bl lo lp ll lr).size, m - B, ?_, by go_num, rfl, Lib.hid ⟨hT2, hx2, ?_, by omega, by rw [E.out]; exact Hi2.out⟩⟩
       ·rw [E.out]; first | rfl | rw [Hw.out]
       ·rw [HC.out.val, Hcn.out, upto_append_ge _ _ _ _ (by rw [HXt.out, HB.out]; omega), HXt.out, HB.out, HXl.out]; omega
   case rest =>
    obtain ⟨k2, m2, rfl, rfl, rfl, HM⟩ := hcut
    obtain ⟨wz, hwz⟩ : ∃ wz : World, wz = wc := ⟨_, rfl⟩
    rw [← hwz] at HM ⊢
    clear hwz n04 n4 n5 n6 n7 n8 n9 n10 n11 hbl
    obtain ⟨hT2, hx2, hv2, hk2, hi2⟩ := HM.out
    have Hv2 := Lib.hid hv2
    have Hi2 := Lib.hid hi2
    obtain ⟨n04, n4, ⟨n5, n6, n7, n8⟩, n9, n10, n11⟩ := Blk.node hT2.1
    have hbl := Blk.lt hT2.1
    have hle := byW_le way own.data.toList
    have hlo : own.data.toList.length = own.size := rfl
    rw [hlo] at hle
    clear hv2 hi2 HM hlo
    go_wp2_with fail
    refine (by_any own.data.toList way _).mono ?_
    rintro e w1 ⟨rfl, hx1⟩
    have hT3 := hT2.ext hx1
    have hx3 := hx2.ext_trans hx1
    clear n04 n4 n5 n6 n7 n8 n9 n10 n11 hbl
    obtain ⟨n04, n4, ⟨n5, n6, n7, n8⟩, n9, n10, n11⟩ := Blk.node hT3.1
    have hbl := Blk.lt hT3.1
    generalize hB : byW way own.data.toList = B at *
    have HB := Lib.hid hB
    clear hB
    by_cases hm : (m2 : Int) < (B : Int)
    ·go_wp2_with fail
     refine (tallyUpto_any own way m2 _ h0 h3 (by omega) Hi2.out).mono ?_
     rintro e w4 ⟨rfl, hx4⟩
     have hul := upto_le way own.data.toList m2
     have hlo : own.data.toList.length = own.size := rfl
     have hv : U = k2 + upto way own.data.toList m2 := by rw [Hv2.out, upto_append_lt _ _ _ _ (by rw [HB.out]; omega)]
     have Hv := Lib.hid hv
     rw [hlo] at hul
     clear hv hlo
     generalize upto way own.data.toList m2 = Z at *
     go_wp2_with fail
     go_ret
     exact ⟨ret_int (by rw [Hv.out]; omega), hx3.ext_trans hx4⟩
    ·have hm' : decide ((m2 : Int) < (B : Int)) = false := by simpa using hm
     have hw := Hi2.out.sub (b := B) (by omega) (by omega)
     have hi3 := Hi2.out.sub' (b := B) (by omega) (by omega)
     have e : ((m2 - B : Nat) : Int) = (m2 : Int) - (B : Int) := by omega
     have E := Lib.hid e
     have Hw := Lib.hid hw
     have Hi3 := Lib.hid hi3
     clear e hw hi3
     go_wp2_with fail
     go_roundg (tr.count)
     case rel =>
      refine ⟨tr, k2 + own.size, m2 - B, ?_, by go_num, rfl, rfl, Lib.hid ⟨hT3.2.2, hx3, ?_, by omega, by rw [E.out]; exact Hi3.out, (sized_cons.1 (sized_append.1 HC.out.sized).2).2⟩⟩
      ·rw [E.out]; first | rfl | rw [Hw.out]
      ·rw [Hv2.out, upto_append_ge _ _ _ _ (by rw [HB.out]; omega), HB.out, show own.data.toList.length = own.size from rfl]; omega
     case measure => have := Hk.out; simp only [T.count] at this ⊢; omega
theorem i64_in {n : Int} (h : (Lit.int .i64 n).wf = true) : IsInt n := by
 simp only [Lit.wf, Bool.and_eq_true, decide_eq_true_eq] at h
 exact h
structure MadeDice (D : Dice) (w w1 : World) : Prop where
 dice : DiceOf w1 D
 ext : Ext w w1
 d : w.heap.size ≤ D.d
 sv : ∀ k, D.sv.ownBlock = some k → w.heap.size ≤ k
def MadeDicePost (w : World) (e : Ending) (w1 : World) : Prop := ∃ D : Dice, e = .returned (.pointer (some ⟨D.d, 0, none⟩)) ∧ MadeDice D w w1
theorem dice_new (w : World) (ao : Option Addr) (cap : Nat) (zs : List Int) (hl : zs.length ≤ 1000) (hw : ∀ n ∈ zs, n ≤ 4294967295) (hr : Reads w 1 ao zs.length (zs.map (Value.int .u32))) :
  Calls Tryz.prog 13 #[.slice ao zs.length cap] w (MadeDicePost w) :=
 (new_any w ao cap zs hl hw hr).mono fun _ _ h => by
  obtain ⟨D, rfl, h1, _, h2, h3, h4⟩ := NewDice.of h
  exact ⟨D, rfl, h1.of, h2, h3, h4⟩
theorem dice_lit (w : World) (zs : List Int) (cs : Array Value) (hcs : cs.toList = zs.map (Value.int .u32)) (hl : zs.length ≤ 1000) (hw : ∀ n ∈ zs, n ≤ 4294967295) :
  Calls Tryz.prog 13 #[.slice (some ⟨w.heap.size, 0, none⟩) zs.length zs.length] (w.alloc (.cells cs 30)) (MadeDicePost w) := by
 have hsz : cs.size = zs.length * 1 := by rw [← Array.length_toList, hcs]; simp
 have hr := Reads.new w 30 cs 1 zs.length hsz
 rw [hcs] at hr
 refine (dice_new _ _ _ zs hl hw hr).mono fun _ _ h => ?_
 obtain ⟨D, rfl, h1⟩ := h
 have hx : Ext w (w.alloc (.cells cs 30)) := (Mod.refl _ w).alloc _
 exact ⟨D, rfl, h1.dice, hx.ext_trans h1.ext, Nat.le_trans hx.size h1.d, fun k hk => Nat.le_trans hx.size (h1.sv k hk)⟩
def MadeRopePost (D : Dice) (s : List UInt8) (w : World) (e : Ending) (w1 : World) : Prop := ∃ R : Rp, e = .returned (.tuple #[.pointer (some ⟨R.rb, 0, none⟩), .int .i64 0]) ∧ Fresh R D s w w1
theorem rope_one (D : Dice) (s : ByteArray) (w : World) (hD : DiceOf w D) (hs : s.size ≤ 65536) :
  Calls Tryz.prog 43 #[.pointer (some ⟨D.d, 0, none⟩), .slice (some ⟨w.heap.size, 0, none⟩) 1 1] (w.alloc (.cells #[.string s] 9)) (MadeRopePost D s.data.toList w) := by
 have hx : Ext w (w.alloc (.cells #[.string s] 9)) := (Mod.refl _ w).alloc _
 refine (rope_new D _ _ [s] _ (hD.ext hx) (Reads.new w 9 #[.string s] 1 1 rfl) (by simp)).mono fun _ _ h => ?_
 have hj : join [s] = s.data.toList := by simp [join]
 have hjl : (join [s]).length ≤ 65536 := by rw [hj, toList_length]; exact hs
 obtain ⟨R, rfl, hF⟩ := h.1 hjl
 rw [hj] at hF
 exact ⟨R, rfl, hF.after hx⟩
theorem MadeDice.off {D : Dice} {w w1 : World} {O : Rp} (h : MadeDice D w w1) (hO : RopeAt w O) : D.Off O.all ∧ (O.D.d ≠ D.d ∧ D.sv.ownBlock ≠ some O.D.d ∧ O.D.sv.ownBlock ≠ some D.d) := by
 have hl := hO.lt
 have hd := hO.dlt
 have h1 := h.d
 refine ⟨fun k hk => ⟨fun e => by have := hl k hk; omega, fun e => by have := hl k hk; have := h.sv k e; omega⟩, fun e => by omega, fun e => by have := h.sv _ e; omega, fun e => by have := hd.2 _ e; omega⟩
theorem Fresh.with {R O : Rp} {D : Dice} {s : List UInt8} {w w1 w2 : World} (hm : MadeDice D w w1) (h : Fresh R D s w1 w2) (hO : RopeAt w O) : RopeAt w2 O ∧ Apart O R := by
 obtain ⟨h1, h2⟩ := hm.off hO
 have hO1 := hO.ext hm.ext
 exact ⟨h.old hO1 h1 (.inr h2), h.apart hO1 h1 (.inr h2)⟩
theorem Fresh.size {R : Rp} {D : Dice} {s : List UInt8} {w w1 : World} (h : Fresh R D s w w1) : R.t.size = s.length := by rw [← h.text]; rfl
theorem Done.size {R R' : Rp} {s : List UInt8} {w w1 : World} (h : Done R R' s w w1) : R'.t.size = s.length := by rw [← h.text]; rfl
theorem bs_eq {l : List UInt8} {s : ByteArray} (h : l = s.data.toList) : bs l = s := by rw [h, bs_of]
theorem Done.aside {R R' O : Rp} {s : List UInt8} {w w1 : World} (h : Done R R' s w w1) (ha : Apart R O) (hO : RopeAt w O) : RopeAt w1 O ∧ Apart R' O :=
 ⟨hO.other ha h.mod h.rope h.grew.2.1, ha.grew h.grew hO⟩
theorem CutTo.aside {R R' O X : Rp} {s s' : List UInt8} {w w1 : World} (h : CutTo R R' O s s' w w1) (ha : Apart R X) (hX : RopeAt w X) : RopeAt w1 X ∧ Apart R' X ∧ Apart O X := by
 have hl := hX.lt
 have hd := hX.dlt
 refine ⟨hX.other ha h.mod h.rope h.grew.2.1, ha.grew h.grew hX, ?_⟩
 have hall : ∀ k ∈ O.all, k ∈ R.all ∨ w.heap.size ≤ k := by
  intro k hk
  rcases List.mem_cons.1 hk with rfl | hk
  ·exact .inr h.onew.1
  ·exact (h.onew.2 k hk).imp (fun h => List.mem_cons_of_mem _ h) id
 refine ⟨fun k hk hk2 => ?_, by rw [h.odice]; exact ha.offR, fun k hk => ?_, by rw [h.odice]; exact ha.dice⟩
 ·rcases hall k hk with h1 | h1
  ·exact ha.blocks k h1 hk2
  ·have := hl k hk2; omega
 ·rcases hall k hk with h1 | h1
  ·exact ha.offO k h1
  ·exact ⟨fun e => by have := hd.1; omega, fun e => by have := hd.2 k e; omega⟩
theorem CutTo.base {R R' O : Rp} {s s' : List UInt8} {w w1 w2 : World} (h : CutTo R R' O s s' w1 w2) (hx : Ext w w1) (hn : R.New w) : Ext w w2 ∧ R'.New w ∧ O.New w := by
 refine ⟨Mod.trans hx h.mod (fun i hi e => by
  rcases e with e | e
  ·have := hn.all i e; omega
  ·have := hn.dice; omega), ⟨fun k hk => (h.grew.all k hk).elim (hn.all k) (fun h2 => Nat.le_trans hx.size h2), by rw [h.grew.2.1]; exact hn.dice⟩, fun k hk => ?_, by rw [h.odice]; exact hn.dice⟩
 rcases List.mem_cons.1 hk with rfl | hk
 ·exact Nat.le_trans hx.size h.onew.1
 ·exact (h.onew.2 k hk).elim (fun h2 => hn.all k (List.mem_cons_of_mem _ h2)) (fun h2 => Nat.le_trans hx.size h2)
theorem Joined.base {R O R' : Rp} {w w1 w2 : World} (h : Joined R O R' w1 w2) (hx : Ext w w1) (hR : R.New w) (hO : O.New w) : Ext w w2 ∧ R'.New w := by
 refine ⟨Mod.trans hx h.mod (fun i hi e => by
  rcases e with (e | e) | e
  ·have := hR.all i e; omega
  ·have := hR.dice; omega
  ·have := hO.all i e; omega), fun k hk => ?_, by rw [h.dice]; exact hR.dice⟩
 rcases List.mem_cons.1 hk with rfl | hk
 ·rw [h.rb]; exact hR.all _ (List.mem_cons_self ..)
 ·rcases h.old k hk with h1 | h1 | h1
  ·exact hR.all k (List.mem_cons_of_mem _ h1)
  ·exact hO.all k (List.mem_cons_of_mem _ h1)
  ·exact Nat.le_trans hx.size h1
theorem linesOf_any (p : Option Addr) (w : World) : Calls Tryz.prog 44 #[.pointer p] w fun e w' => e = .returned (.agg #[.pointer p]) ∧ Ext w w' := by
 go_enter Tryz.func44, Tryz.ntmps44
 go_wp2_with fail
 go_returns
 exact ⟨rfl, (Mod.refl _ w).alloc _⟩
theorem breaks_any (R : Rp) (f : Int) (w : World) (h : RopeAt w R) (hn : risesB f f R.t.size = true) : Calls Tryz.prog 146 #[.agg #[.pointer (some ⟨R.rb, 0, none⟩)], .int .i64 f] w fun e w' => e = .returned (.int .i64 (brk (R.text.take f.toNat) : Nat)) ∧ Ext w w' := by
 have hx0 : Ext w (w.alloc (.cells #[.pointer (some ⟨R.rb, 0, none⟩)] 42)) := (Mod.refl _ w).alloc _
 have hc := count_yes R f _ (h.ext hx0) hn
 generalize R.text.take f.toNat = X at *
 clear hn
 go_enter Tryz.func146, Tryz.ntmps146
 go_wp2_with fail
 refine hc.mono ?_
 rintro e w1 ⟨rfl, hx⟩
 clear hc
 go_wp2_with fail
 go_ret
 exact ⟨rfl, (hx0.ext_trans hx).alloc _⟩
theorem many_any (R : Rp) (w : World) (h : RopeAt w R) : Calls Tryz.prog 151 #[.agg #[.pointer (some ⟨R.rb, 0, none⟩)]] w fun e w' => e = .returned (.int .i64 (brk R.text + 1 : Nat)) ∧ Ext w w' := by
 have hx0 : Ext w (w.alloc (.cells #[.pointer (some ⟨R.rb, 0, none⟩)] 42)) := (Mod.refl _ w).alloc _
 have hsz := h.size
 have hb := brk_le R.text
 have hl : R.text.length = R.t.size := rfl
 have h0 := h.ext hx0
 have hc := fun v (hv : Ext (w.alloc (.cells #[.pointer (some ⟨R.rb, 0, none⟩)] 42)) v) => breaks_any R (R.t.size : Nat) v (h0.ext hv) (rises_of ⟨by omega, by omega, by omega⟩)
 rw [Int.toNat_natCast, ← hl, List.take_length, hl] at hc
 have hb2 : brk R.text ≤ 65536 := by omega
 have Hc := Lib.hid hc
 clear hc hb hl
 go_enter Tryz.func151, Tryz.ntmps151
 go_wp2_with fail
 refine wp_region_ext_lit (by kernel_rfl) (by kernel_rfl) ?_
 repeat (go_big_quiet_step (first | (with_reducible exact Calls.ext_of_same (len_any R _ (h0.ext (Mod.of_below (ext_below _ _))))) | (with_reducible exact Calls.ext_of (Hc.out _ (Mod.of_below (ext_below _ _))))))
 refine wpQuiet_nil ?_
 intro we hxe
 go_wp2_with fail
 go_ret
 exact ⟨ret_int (by omega), hx0.ext_trans hxe⟩
def hasB (l : List UInt8) (line : Int) : Bool := decide (0 ≤ line ∧ line ≤ brk l)
theorem has_of {l : List UInt8} {line : Int} (h : 0 ≤ line ∧ line ≤ brk l) : hasB l line = true := decide_eq_true h
theorem has_out {l : List UInt8} {line : Int} (h : hasB l line = true) : 0 ≤ line ∧ line ≤ brk l := of_decide_eq_true h
theorem has_yes (R : Rp) (line : Int) (w : World) (h : RopeAt w R) (hn : hasB R.text line = true) : Calls Tryz.prog 148 #[.agg #[.pointer (some ⟨R.rb, 0, none⟩)], .int .i64 line] w fun e w' => e = .returned (.int .i64 0) ∧ Ext w w' := by
 have hx0 : Ext w (w.alloc (.cells #[.pointer (some ⟨R.rb, 0, none⟩)] 42)) := (Mod.refl _ w).alloc _
 have hm := many_any R _ (h.ext hx0)
 obtain ⟨h0, h2⟩ := has_out hn
 generalize brk R.text = B at *
 have h1' : decide (line < 0) = false := by simp; omega
 have h3 : ¬ ((B + 1 : Nat) : Int) ≤ line := by omega
 have h4 : ¬ (B : Int) + 1 ≤ line := by omega
 clear hn
 go_enter Tryz.func148, Tryz.ntmps148
 go_wp2_with fail
 refine hm.mono ?_
 rintro e w1 ⟨rfl, hx⟩
 go_wp2_with fail
 go_ret
 exact ⟨rfl, hx0.ext_trans hx⟩
theorem brk_small {w : World} {R : Rp} (h : RopeAt w R) : brk R.text ≤ 65536 := by
 have h1 := brk_le R.text
 have h2 := h.size
 have : R.text.length = R.t.size := rfl
 omega
theorem start_zero (R : Rp) (w : World) (h : RopeAt w R) : Calls Tryz.prog 115 #[.agg #[.pointer (some ⟨R.rb, 0, none⟩)], .int .i64 0] w fun e w' => e = .returned (.tuple #[.int .i64 0, .int .i64 0]) ∧ Ext w w' := by
 have hx0 : Ext w (w.alloc (.cells #[.pointer (some ⟨R.rb, 0, none⟩)] 42)) := (Mod.refl _ w).alloc _
 have hc := has_yes R 0 _ (h.ext hx0) (has_of ⟨by omega, by omega⟩)
 go_enter Tryz.func115, Tryz.ntmps115
 go_wp2_with fail
 refine hc.mono ?_
 rintro e w1 ⟨rfl, hx⟩
 go_wp2_with fail
 go_ret2
 exact ⟨rfl, hx0.ext_trans hx⟩
theorem start_succ (R : Rp) (k : Nat) (w : World) (h : RopeAt w R) (hn : hasB R.text (k + 1 : Nat) = true) : Calls Tryz.prog 115 #[.agg #[.pointer (some ⟨R.rb, 0, none⟩)], .int .i64 (k + 1 : Nat)] w fun e w' => e = .returned (.tuple #[.int .i64 (upto 3 R.text k + 1 : Nat), .int .i64 0]) ∧ Ext w w' := by
 have hx0 : Ext w (w.alloc (.cells #[.pointer (some ⟨R.rb, 0, none⟩)] 42)) := (Mod.refl _ w).alloc _
 have h0 := h.ext hx0
 have hc := has_yes R _ _ h0 hn
 obtain ⟨_, h2⟩ := has_out hn
 have hb := brk_small h
 have hk : (k : Int) ≤ 65536 := by omega
 have hk0 : (0 : Int) ≤ (k : Int) := by omega
 have hu := fun v (hv : Ext (w.alloc (.cells #[.pointer (some ⟨R.rb, 0, none⟩)] 42)) v) => upto_yes R 3 k v (h0.ext hv) (by omega) (by omega) (IsInt.small (by omega) (by omega))
 have hul := upto_le 3 R.text k
 have hrl : R.text.length ≤ 65536 := h.size
 generalize upto 3 R.text k = U at *
 have Hu := Lib.hid hu
 have hb0 : ((k : Int) + 1 == 0) = false := by simp; omega
 rw [show ((k + 1 : Nat) : Int) = (k : Int) + 1 from by omega] at hc ⊢
 clear hu hn h2
 go_enter Tryz.func115, Tryz.ntmps115
 go_wp2_with fail
 refine hc.mono ?_
 rintro e w1 ⟨rfl, hx⟩
 have hcell := ((Blk.new w 42 #[.pointer (some ⟨R.rb, 0, none⟩)]).mod hx (fun f => f)).cell 0
 simp only [List.getElem?_toArray, List.getElem?_cons_zero] at hcell
 go_wp2_with fail
 refine (Hu.out _ hx).mono ?_
 rintro e w2 ⟨rfl, hx2⟩
 go_wp2_with fail
 go_ret2
 exact ⟨congrArg (fun z : Int => Ending.returned (.tuple #[.int .i64 z, .int .i64 0])) (show (U : Int) + 1 = ((U + 1 : Nat) : Int) from by omega), (hx0.ext_trans hx).ext_trans hx2⟩
theorem start_yes (R : Rp) (line : Nat) (w : World) (h : RopeAt w R) (hn : hasB R.text line = true) : Calls Tryz.prog 115 #[.agg #[.pointer (some ⟨R.rb, 0, none⟩)], .int .i64 line] w fun e w' => e = .returned (.tuple #[.int .i64 (lineN R.text line : Nat), .int .i64 0]) ∧ Ext w w' := by
 cases line with
 | zero => exact start_zero R w h
 | succ k => exact start_succ R k w h hn
theorem end_yes (R : Rp) (line : Nat) (w : World) (h : RopeAt w R) (hn : hasB R.text line = true) : Calls Tryz.prog 116 #[.agg #[.pointer (some ⟨R.rb, 0, none⟩)], .int .i64 line] w fun e w' => e = .returned (.tuple #[.int .i64 (lineE R.text line : Nat), .int .i64 0]) ∧ Ext w w' := by
 have hx0 : Ext w (w.alloc (.cells #[.pointer (some ⟨R.rb, 0, none⟩)] 42)) := (Mod.refl _ w).alloc _
 have h0 := h.ext hx0
 have hc := has_yes R _ _ h0 hn
 obtain ⟨_, h2⟩ := has_out hn
 have hb := brk_small h
 have hu := fun v (hv : Ext (w.alloc (.cells #[.pointer (some ⟨R.rb, 0, none⟩)] 42)) v) => upto_yes R 3 line v (h0.ext hv) (by omega) (by omega) (IsInt.small (by omega) (by omega))
 unfold lineE
 have Hu := Lib.hid hu
 clear hu hn h2
 go_enter Tryz.func116, Tryz.ntmps116
 go_wp2_with fail
 refine hc.mono ?_
 rintro e w1 ⟨rfl, hx⟩
 have hcell := ((Blk.new w 42 #[.pointer (some ⟨R.rb, 0, none⟩)]).mod hx (fun f => f)).cell 0
 simp only [List.getElem?_toArray, List.getElem?_cons_zero] at hcell
 go_wp2_with fail
 refine (Hu.out _ hx).mono ?_
 rintro e w2 ⟨rfl, hx2⟩
 go_wp2_with fail
 go_ret2
 exact ⟨rfl, (hx0.ext_trans hx).ext_trans hx2⟩
theorem at_yes (R : Rp) (f : Int) (w : World) (h : RopeAt w R) (hn : risesB f f R.t.size = true) : Calls Tryz.prog 112 #[.agg #[.pointer (some ⟨R.rb, 0, none⟩)], .int .i64 f] w fun e w' => e = .returned (.tuple #[.int .i64 (brk (R.text.take f.toNat) : Nat), .int .i64 0]) ∧ Ext w w' := by
 have hx0 : Ext w (w.alloc (.cells #[.pointer (some ⟨R.rb, 0, none⟩)] 42)) := (Mod.refl _ w).alloc _
 have h0 := h.ext hx0
 have hc := breaks_any R f _ h0 hn
 obtain ⟨g1, _, g3⟩ := rises_out hn
 have h1' : decide (f < 0) = false := by simpa using g1
 have h2 : ¬ (R.t.size : Int) < f := by omega
 generalize brk (R.text.take f.toNat) = X at *
 clear hn
 go_enter Tryz.func112, Tryz.ntmps112
 go_wp2_with fail
 refine (len_any R _ h0).mono ?_
 rintro e w1 ⟨rfl, rfl⟩
 go_wp2_with fail
 refine hc.mono ?_
 rintro e w1 ⟨rfl, hx⟩
 go_wp2_with fail
 go_ret2
 exact ⟨rfl, hx0.ext_trans hx⟩
def wayB (way : Int) : Bool := decide (0 ≤ way ∧ way ≤ 2)
theorem way_out {way : Int} (h : wayB way = true) : 0 ≤ way ∧ way ≤ 2 := of_decide_eq_true h
theorem counts_any (way : Int) (w : World) : Calls Tryz.prog 186 #[.int .i64 way] w fun e w' => e = .returned (.bool (wayB way)) ∧ w' = w := by
 by_cases h0 : way = 0
 ·subst h0
  go_enter Tryz.func186, Tryz.ntmps186
  go_wp2_with fail
  go_ret
  exact ⟨rfl, rfl⟩
 ·have b0 : (way == 0) = false := by simpa using h0
  by_cases h1 : way = 1
  ·subst h1
   clear b0 h0
   go_enter Tryz.func186, Tryz.ntmps186
   go_wp2_with fail
   go_ret
   exact ⟨rfl, rfl⟩
  ·have b1 : (way == 1) = false := by simpa using h1
   have e : wayB way = (way == 2) := by
    unfold wayB
    rw [Bool.eq_iff_iff]; simp; omega
   have E := Lib.hid e
   clear h0 h1 e
   go_enter Tryz.func186, Tryz.ntmps186
   go_wp2_with fail
   go_ret
   exact ⟨ret_bool E.out.symm, rfl⟩
theorem ahead_any (R : Rp) (f way : Int) (w : World) (h : RopeAt w R) (hn : risesB f f R.t.size = true) : Calls Tryz.prog 187 #[.agg #[.pointer (some ⟨R.rb, 0, none⟩)], .int .i64 f, .int .i64 way] w fun e w' => e = .returned (.int .i64 (byW way (R.text.take f.toNat) : Nat)) ∧ Ext w w' := by
 have hx0 : Ext w (w.alloc (.cells #[.pointer (some ⟨R.rb, 0, none⟩)] 42)) := (Mod.refl _ w).alloc _
 have hc := count_yes R f _ (h.ext hx0) hn
 generalize R.text.take f.toNat = X at *
 clear hn
 go_enter Tryz.func187, Tryz.ntmps187
 go_wp2_with fail
 refine hc.mono ?_
 rintro e w1 ⟨rfl, hx⟩
 clear hc
 have hx1 := (hx0.ext_trans hx).alloc (.cells (#[Value.int IntKind.i64 ((byt (X) : Nat) : Int), Value.int IntKind.i64 ((brk (X) : Nat) : Int), Value.int IntKind.i64 ((run (X) : Nat) : Int), Value.int IntKind.i64 ((unt (X) : Nat) : Int)] : Array Value) 147)
 go_wp2_with fail
 refine (by_any X way _).mono ?_
 rintro e w2 ⟨rfl, hx2⟩
 go_wp2_with fail
 go_ret
 exact ⟨rfl, hx1.ext_trans hx2⟩
theorem box_cell {w w1 : World} {p : Option Addr} (hx : Ext (w.alloc (.cells #[.pointer p] 42)) w1) : w1.cell? ⟨w.heap.size, 0, none⟩ = some (.pointer p) := by
 have h := ((Blk.new w 42 #[.pointer p]).mod hx (fun f => f)).cell 0
 simpa using h
def PlacePost (l : List UInt8) (f way : Int) (w : World) (e : Ending) (w' : World) : Prop :=
 e = .returned (.tuple #[.int .i64 (brk (l.take f.toNat) : Nat), .int .i64 ((byW way (l.take f.toNat) : Int) - (byW way (l.take (lineN l (brk (l.take f.toNat)))) : Int)), .int .i64 0]) ∧ Ext w w'
theorem place_yes (R : Rp) (f way : Int) (w : World) (hR : RopeAt w R) (h : wayB way = true) (hn : risesB f f R.t.size = true) : Calls Tryz.prog 150 #[.agg #[.pointer (some ⟨R.rb, 0, none⟩)], .int .i64 f, .int .i64 way] w (PlacePost R.text f way w) := by
 have hx0 : Ext w (w.alloc (.cells #[.pointer (some ⟨R.rb, 0, none⟩)] 42)) := (Mod.refl _ w).alloc _
 have h0 := hR.ext hx0
 have hc := fun v => counts_any way v
 rw [h] at hc
 obtain ⟨g1, _, g3⟩ := rises_out hn
 have hsz := hR.size
 have ha := at_yes R f _ h0 hn
 have hbl : brk (R.text.take f.toNat) ≤ brk R.text := by
  have : brk R.text = brk (R.text.take f.toNat) + brk (R.text.drop f.toNat) := by rw [← brk_append, List.take_append_drop]
  omega
 have hs := fun v (hv : Ext (w.alloc (.cells #[.pointer (some ⟨R.rb, 0, none⟩)] 42)) v) => start_yes R (brk (R.text.take f.toNat)) v (h0.ext hv) (has_of ⟨by omega, by omega⟩)
 have hle := lineN_le R.text f.toNat
 have h1 := fun v (hv : Ext (w.alloc (.cells #[.pointer (some ⟨R.rb, 0, none⟩)] 42)) v) => ahead_any R f way v (h0.ext hv) hn
 have h2 := fun v (hv : Ext (w.alloc (.cells #[.pointer (some ⟨R.rb, 0, none⟩)] 42)) v) => ahead_any R (lineN R.text (brk (R.text.take f.toNat)) : Nat) way v (h0.ext hv) (rises_of ⟨by omega, by omega, by omega⟩)
 have hby1 := byW_le way (R.text.take f.toNat)
 have hby2 := byW_le way (R.text.take (lineN R.text (brk (R.text.take f.toNat))))
 have hl1 := List.length_take_le f.toNat R.text
 have hl2 := List.length_take_le (lineN R.text (brk (R.text.take f.toNat))) R.text
 have hl3 : (R.text.take f.toNat).length ≤ 65536 := by have : R.text.length = R.t.size := rfl; simp only [List.length_take] at *; omega
 have hl4 : (R.text.take (lineN R.text (brk (R.text.take f.toNat)))).length ≤ 65536 := by have : R.text.length = R.t.size := rfl; simp only [List.length_take] at *; omega
 unfold PlacePost
 rw [Int.toNat_natCast] at h2
 generalize byW way (R.text.take (lineN R.text (brk (R.text.take f.toNat)))) = B2 at *
 generalize lineN R.text (brk (R.text.take f.toNat)) = S at *
 generalize byW way (R.text.take f.toNat) = B1 at *
 generalize brk (R.text.take f.toNat) = L at *
 have c1 : B1 ≤ 200000 := by omega
 have c2 : B2 ≤ 200000 := by omega
 have Hc := Lib.hid hc
 have Hs := Lib.hid hs
 have H1 := Lib.hid h1
 have H2 := Lib.hid h2
 clear hc h hn hs h1 h2 hby1 hby2 hl1 hl2 hl3 hl4 hbl hle
 go_enter Tryz.func150, Tryz.ntmps150
 go_wp2_with fail
 refine (Hc.out _).mono ?_
 rintro e w1 ⟨rfl, rfl⟩
 go_wp2_with fail
 refine ha.mono ?_
 rintro e w1 ⟨rfl, hx⟩
 have hcell := box_cell hx
 go_wp2_with fail
 refine (Hs.out _ hx).mono ?_
 rintro e w2 ⟨rfl, hx2⟩
 have hx3 := hx.ext_trans hx2
 have hcell2 := box_cell hx3
 have hlt := World.block_lt_of_cell? w2 _ hcell2
 clear hcell ha
 go_wp2_with fail
 refine wp_region_ext_lit (by kernel_rfl) (by kernel_rfl) ?_
 repeat (go_big_quiet_step (first | (with_reducible exact Calls.ext_of (H1.out _ (hx3.ext_trans (Mod.of_below (ext_below _ _))))) | (with_reducible exact Calls.ext_of (H2.out _ (hx3.ext_trans (Mod.of_below (ext_below _ _)))))))
 refine wpQuiet_nil ?_
 intro we hxe
 go_wp2_with fail
 go_ret3
 exact ⟨rfl, (hx0.ext_trans hx3).ext_trans hxe⟩
end Go.Proofs.YthlmgoagnfkhdaaGreat

/- marks.Table: New, Get, Pose, Add. Conditions: a table that may be. -/
import Derived.Test.YthlmgoagnfkhdaaGreatGimG26
import Derived.Test.YthlmgoagnfkhdaaGreatGimG03
import Derived.Test.YthlmgoagnfkhdaaGreatGimG05
import Derived.Deep.DeepCutAuto
import Derived.Handy
import Derived.Laws.ResultCell
set_option maxHeartbeats 6400000
set_option maxRecDepth 1000000
set_option linter.unusedVariables false
set_option linter.unusedSimpArgs false
namespace Go.Proofs.YthlmgoagnfkhdaaGreat
open Go.RowKit Go.Gim
theorem results_cell2 {P : Program} {fn : Func} {p u : Tmp} {ty : TypeId} (h : fn.results = #[.cell p ty, .tmp u]) (tmps : Array Value) (w : World) (g : Nat) (t : TypeId) (cs : Array Value) (fr : Nat × Nat) (d : TypeDesc)
  (hp : tmps.getD p undef = .pointer (some ⟨g, 0, none⟩)) (hg : w.heap[g]? = some (.cells cs t fr))
  (hu : P.underlying ty = some d) (hd : (match d with | .struct _ | .array _ _ => true | _ => false) = true) (hi : (P.info? ty).map (·.size) = some cs.size) :
  (results fn tmps).run P w = .ok (.tuple #[.agg cs, tmps.getD u undef]) w := by
 rw [results_cell_tmp h, hp]
 simp [asAddr, run_loadVar_row w g t ty cs fr d hg hu hd hi]
theorem rangeSize : (Tryz.prog.info? 66).map (·.size) = some 5 := by kernel_rfl
structure TabAt (w : World) (tb mb : Nat) (L : Tb) (last : Int) : Prop where
 blk : Blk w tb 120 #[.map (some mb), .int .i64 last]
 map : MapIs Tryz.prog 3 w mb L
 ne : tb ≠ mb
def tabS (tb mb : Nat) (k : Nat) : Prop := k = tb ∨ k = mb
theorem TabAt.mod {S : Nat → Prop} {w w' : World} {tb mb : Nat} {L : Tb} {last : Int} (h : TabAt w tb mb L last) (hm : Mod S w w') (h1 : ¬ S tb) (h2 : ¬ S mb) : TabAt w' tb mb L last :=
 ⟨h.blk.mod hm h1, h.map.mod hm h2, h.ne⟩
theorem TabAt.ext {w w' : World} {tb mb : Nat} {L : Tb} {last : Int} (h : TabAt w tb mb L last) (hm : Ext w w') : TabAt w' tb mb L last := h.mod hm (fun f => f) (fun f => f)
theorem zeroRg (w : World) : (zeroValue 66).run Tryz.prog w = .ok (rgV rg0) w := Tryz.zeroValue66 w
theorem id_wf {id : Int} (h1 : -9223372036854775808 ≤ id) (h2 : id ≤ 9223372036854775807) : (Lit.int .i64 id).wf = true := by
 simp [Lit.wf, IntKind.min, IntKind.max, IntKind.signed, IntKind.bits]; omega
theorem TabAt.look {w : World} {tb mb : Nat} {L : Tb} {last : Int} (h : TabAt w tb mb L last) {id : Int} (hid : (Lit.int .i64 id).wf = true) (o : Option Rg) (ho : getR L id = o) :
  (Instr.lookup 118 (.map (some mb)) (.int .i64 id) true).run Tryz.prog w = .ok (.tuple #[rgV (o.getD rg0), .bool o.isSome]) w := by
 rw [← ho]; exact h.map.look Tryz.underlying3 Tryz.underlying118 zeroRg hid
theorem TabAt.look1 {w : World} {tb mb : Nat} {L : Tb} {last : Int} (h : TabAt w tb mb L last) {id : Int} (hid : (Lit.int .i64 id).wf = true) (o : Option Rg) (ho : getR L id = o) :
  (Instr.lookup 118 (.map (some mb)) (.int .i64 id) false).run Tryz.prog w = .ok (rgV (o.getD rg0)) w := by
 rw [← ho]; exact h.map.look1 Tryz.underlying3 Tryz.underlying118 zeroRg hid
theorem tnew_any (w : World) : Calls Tryz.prog 45 #[] w fun e w' => ∃ tb mb, e = .returned (.pointer (some ⟨tb, 0, none⟩)) ∧ TabAt w' tb mb [] 0 ∧ w.heap.size ≤ tb ∧ w.heap.size ≤ mb ∧ Ext w w' := by
 have hmm := @run_makeMap Tryz.prog
 go_enter Tryz.func45, Tryz.ntmps45
 go_wp2_with fail
 go_ret
 have h1 := MapIs.made Tryz.prog 3 w
 have hx1 : Ext w (w.alloc (.map #[] 0)) := (Mod.refl _ w).alloc _
 have hs : (w.alloc (.map #[] 0)).heap.size = w.heap.size + 1 := by simp
 refine ⟨_, w.heap.size, rfl, ⟨?_, h1.mod ((Mod.refl (fun _ => False) _).alloc _) (fun f => f), by omega⟩, by omega, Nat.le_refl _, hx1.alloc _⟩
 rw [← hs]
 exact Blk.new _ _ _
theorem tget_any (tb mb : Nat) (L : Tb) (last id : Int) (w : World) (h : TabAt w tb mb L last) (hid : (Lit.int .i64 id).wf = true) :
  Calls Tryz.prog 32 #[.pointer (some ⟨tb, 0, none⟩), .int .i64 id] w fun e w' => e = .returned (.tuple #[rgV ((getR L id).getD rg0), .bool (getR L id).isSome]) ∧ Ext w w' := by
 obtain ⟨u, hu⟩ : ∃ u, u = w.alloc (.cells #[.int .i64 0, .int .i64 0, .bool false, .bool false, .int .i64 0] 66) := ⟨_, rfl⟩
 have hxu : Ext w u := by rw [hu]; exact (Mod.refl _ w).alloc _
 have hbu : Blk u w.heap.size 66 #[.int .i64 0, .int .i64 0, .bool false, .bool false, .int .i64 0] := by rw [hu]; exact Blk.new _ _ _
 have hlook := (h.ext hxu).look hid _ rfl
 have c0 : u.cell? ⟨tb, 0, none⟩ = some (.map (some mb)) := (h.ext hxu).blk.cell 0
 have hlt := (h.ext hxu).blk.lt
 have d0 := Blk.cell hbu 0
 have d1 := Blk.cell hbu 1
 have d2 := Blk.cell hbu 2
 have d3 := Blk.cell hbu 3
 have d4 := Blk.cell hbu 4
 simp only [List.getElem?_toArray, List.getElem?_cons_zero, List.getElem?_cons_succ] at d0 d1 d2 d3 d4
 have f0 := Blk.free hbu 0
 have f1 := Blk.free hbu 1
 have f2 := Blk.free hbu 2
 have f3 := Blk.free hbu 3
 have f4 := Blk.free hbu 4
 have hlt2 := Blk.lt hbu
 generalize hR : (getR L id).getD rg0 = r at *
 generalize (getR L id).isSome = b at *
 obtain ⟨ra, rb, rp, rq, ru⟩ := r
 unfold rgV at hlook ⊢
 simp only at hlook ⊢
 clear hR h
 go_enter Tryz.func32, Tryz.ntmps32
 go_upto_region 3 with fail
 rw [← hu]
 clear hu
 go_wp2_with fail
 have hres := (((((hbu.set 0 (.int .i64 ra)).set 1 (.int .i64 rb)).set 2 (.bool rp)).set 3 (.bool rq)).set 4 (.int .i64 ru)).alloc (.cells #[.int .i64 ra, .int .i64 rb, .bool rp, .bool rq, .int .i64 ru] 66)
 refine bodyPost_ret (results_cell2 rfl _ _ w.heap.size _ #[.int .i64 ra, .int .i64 rb, .bool rp, .bool rq, .int .i64 ru] (0, 0) _ rfl hres Tryz.underlying66 rfl rangeSize) rfl ?_
 exact ⟨rfl, (((((hxu.setCell (by simp) _).setCell (by simp) _).setCell (by simp) _).setCell (by simp) _).setCell (by simp) _).alloc _⟩
end Go.Proofs.YthlmgoagnfkhdaaGreat
namespace Go.Gim
theorem addE_may {L : Tb} {r : Rg} (h : mayS (r.a, r.b) 65536 = false) : addE L r = 3 := by unfold addE; rw [if_pos h]
theorem addE_top {L : Tb} {r : Rg} (h : mayS (r.a, r.b) 65536 = true) (h0 : r.u = 0) : addE L r = if 256 ≤ L.length then 7 else 0 := by
 unfold addE; rw [if_neg (by rw [h]; decide), if_pos h0]
theorem addE_none {L : Tb} {r : Rg} (h : mayS (r.a, r.b) 65536 = true) (h0 : r.u ≠ 0) (hg : getR L r.u = none) : addE L r = 6 := by
 unfold addE; rw [if_neg (by rw [h]; decide), if_neg h0, hg]
theorem addE_out {L : Tb} {r up : Rg} (h : mayS (r.a, r.b) 65536 = true) (h0 : r.u ≠ 0) (hg : getR L r.u = some up) (hw : withinS (r.a, r.b) (up.a, up.b) = false) : addE L r = 2 := by
 unfold addE; rw [if_neg (by rw [h]; decide), if_neg h0, hg]; simp only; rw [if_pos hw]
theorem addE_in {L : Tb} {r up : Rg} (h : mayS (r.a, r.b) 65536 = true) (h0 : r.u ≠ 0) (hg : getR L r.u = some up) (hw : withinS (r.a, r.b) (up.a, up.b) = true) : addE L r = if 256 ≤ L.length then 7 else 0 := by
 unfold addE; rw [if_neg (by rw [h]; decide), if_neg h0, hg]; simp only; rw [if_neg (by rw [hw]; decide)]
end Go.Gim
namespace Go.Proofs.YthlmgoagnfkhdaaGreat
open Go.RowKit Go.Gim
theorem ret_code {a b : Int} (h : a = b) : Ending.returned (.tuple #[.int .i64 0, .int .i64 a]) = .returned (.tuple #[.int .i64 0, .int .i64 b]) := by rw [h]
def AddPost (tb mb : Nat) (L : Tb) (last : Int) (r : Rg) (w : World) (e : Ending) (w' : World) : Prop :=
 (addE L r = 0 ∧ e = .returned (.tuple #[.int .i64 (last + 1), .int .i64 0]) ∧ TabAt w' tb mb (L ++ [(last + 1, r)]) (last + 1) ∧ Mod (tabS tb mb) w w') ∨
 (addE L r ≠ 0 ∧ e = .returned (.tuple #[.int .i64 0, .int .i64 (addE L r)]) ∧ Ext w w')
theorem box_rg : Box Tryz.prog 66 #[.int .i64 0, .int .i64 0, .bool false, .bool false, .int .i64 0] := by
 constructor
 ·intro ρ o w h
  simp [execOp, h, go_sem]
 ·intro ρ o w d s p y x h hd hs hx hc hy hb
  obtain ⟨x0, x1, x2, x3, x4, rfl⟩ : ∃ a b c d e, x = #[a, b, c, d, e] := by
   rcases x with ⟨l⟩
   match l, hx with
   | [a, b, c, d, e], _ => exact ⟨a, b, c, d, e, rfl⟩
  obtain ⟨y0, y1, y2, y3, y4, rfl⟩ : ∃ a b c d e, y = #[a, b, c, d, e] := by
   rcases y with ⟨l⟩
   match l, hy with
   | [a, b, c, d, e], _ => exact ⟨a, b, c, d, e, rfl⟩
  have o0 := hc x0 (by simp)
  have o1 := hc x1 (by simp)
  have o2 := hc x2 (by simp)
  have o3 := hc x3 (by simp)
  have o4 := hc x4 (by simp)
  have c0 : w.cell? ⟨p, 0, none⟩ = some y0 := hb.cell 0
  have c1 : w.cell? ⟨p, 1, none⟩ = some y1 := hb.cell 1
  have c2 : w.cell? ⟨p, 2, none⟩ = some y2 := hb.cell 2
  have c3 : w.cell? ⟨p, 3, none⟩ = some y3 := hb.cell 3
  have c4 : w.cell? ⟨p, 4, none⟩ = some y4 := hb.cell 4
  have f0 := hb.free 0
  have f1 := hb.free 1
  have f2 := hb.free 2
  have f3 := hb.free 3
  have f4 := hb.free 4
  refine ⟨((((w.setCell ⟨p, 0, none⟩ x0).setCell ⟨p, 1, none⟩ x1).setCell ⟨p, 2, none⟩ x2).setCell ⟨p, 3, none⟩ x3).setCell ⟨p, 4, none⟩ x4, ?_, ((((hb.set 0 x0).set 1 x1).set 2 x2).set 3 x3).set 4 x4, (((((Mod.refl (· = p) w).setCell (p := ⟨p, 0, none⟩) (fun _ => rfl) _).setCell (p := ⟨p, 1, none⟩) (fun _ => rfl) _).setCell (p := ⟨p, 2, none⟩) (fun _ => rfl) _).setCell (p := ⟨p, 3, none⟩) (fun _ => rfl) _).setCell (p := ⟨p, 4, none⟩) (fun _ => rfl) _⟩
  simp [execOp, h, hd, hs, go_sem, run_store _ _ _ _ _ o0, run_store _ _ _ _ _ o1, run_store _ _ _ _ _ o2, run_store _ _ _ _ _ o3, run_store _ _ _ _ _ o4, c0, c1, c2, c3, c4, f0, f1, f2, f3, f4]
theorem tadd_any (tb mb : Nat) (L : Tb) (last : Int) (r : Rg) (w : World) (h : TabAt w tb mb L last) (hl : L.length ≤ 1000) (hnx : getR L (last + 1) = none) (h0 : 0 ≤ last) (h1 : last ≤ 1000000) (hu : (Lit.int .i64 r.u).wf = true) :
  Calls Tryz.prog 28 #[.pointer (some ⟨tb, 0, none⟩), .agg #[.int .i64 r.a, .int .i64 r.b, .bool r.p, .bool r.q, .int .i64 r.u]] w (AddPost tb mb L last r w) := by
 have H := Lib.hid h
 have Hnx := Lib.hid hnx
 have hmay := fun w' => spMay_any (r.a, r.b) 65536 w'
 obtain ⟨ra, rb, rp, rq, ru⟩ := r
 simp only at hmay hu ⊢
 have HM := Lib.hid hmay
 unfold AddPost
 obtain ⟨u, hu'⟩ : ∃ u, u = w.alloc (.cells #[.int .i64 ra, .int .i64 rb, .bool rp, .bool rq, .int .i64 ru] 66) := ⟨_, rfl⟩
 have hxu : Ext w u := by rw [hu']; exact (Mod.refl _ w).alloc _
 have hbu : Blk u w.heap.size 66 #[.int .i64 ra, .int .i64 rb, .bool rp, .bool rq, .int .i64 ru] := by rw [hu']; exact Blk.new _ _ _
 have Hbu := Lib.hid hbu
 clear h hnx hmay
 have d0 := Blk.cell hbu 0
 have d1 := Blk.cell hbu 1
 have d2 := Blk.cell hbu 2
 have d3 := Blk.cell hbu 3
 have d4 := Blk.cell hbu 4
 simp only [List.getElem?_toArray, List.getElem?_cons_zero, List.getElem?_cons_succ] at d0 d1 d2 d3 d4
 have f0 := Blk.free hbu 0
 have f1 := Blk.free hbu 1
 have f2 := Blk.free hbu 2
 have f3 := Blk.free hbu 3
 have f4 := Blk.free hbu 4
 have hlt2 := Blk.lt hbu
 go_enter Tryz.func28, Tryz.ntmps28
 go_upto_region 3 with fail
 rw [← hu']
 clear hu' hbu
 go_wp2_with fail
 refine (HM.out u).mono ?_
 rintro e v ⟨rfl, hxv⟩
 have hx2 := hxu.ext_trans hxv
 have hb2 := Hbu.out.mod hxv (fun f => f)
 clear d0 d1 d2 d3 d4 f0 f1 f2 f3 f4 hlt2 HM
 cases hm : mayS (ra, rb) 65536 with
 | false =>
  have HE := Lib.hid (addE_may (L := L) (r := ⟨ra, rb, rp, rq, ru⟩) hm)
  go_wp2_with fail
  go_ret2
  exact .inr ⟨by rw [HE.out]; decide, ret_code HE.out.symm, hx2⟩
 | true =>
  by_cases hz : ru = 0
  ·have HE := Lib.hid (addE_top (L := L) (r := ⟨ra, rb, rp, rq, ru⟩) hm hz)
   have d0 := Blk.cell hb2 0
   have d1 := Blk.cell hb2 1
   have d2 := Blk.cell hb2 2
   have d3 := Blk.cell hb2 3
   have d4 := Blk.cell hb2 4
   simp only [List.getElem?_toArray, List.getElem?_cons_zero, List.getElem?_cons_succ] at d0 d1 d2 d3 d4
   have f0 := Blk.free hb2 0
   have f1 := Blk.free hb2 1
   have f2 := Blk.free hb2 2
   have f3 := Blk.free hb2 3
   have f4 := Blk.free hb2 4
   have hlt2 := Blk.lt hb2
   have z1 : (ru != 0) = false := by simpa using hz
   go_upto_region 11 with fail
   clear d0 d1 d2 d3 d4 f0 f1 f2 f3 f4 hlt2 z1
   subst hz
   by_cases hlen : (256 : Int) ≤ (L.length : Int)
   ·have hE : addE L ⟨ra, rb, rp, rq, 0⟩ = 7 := by rw [HE.out, if_pos (by omega)]
    have HE7 := Lib.hid hE
    clear hE
    have c0 : World.cell? v ⟨tb, 0, none⟩ = some (.map (some mb)) := (H.out.ext hx2).blk.cell 0
    have hlt := (H.out.ext hx2).blk.lt
    have hln := fun ty => (H.out.ext hx2).map.len Tryz.underlying118 ty
    go_wp2_with fail
    go_ret2
    exact .inr ⟨by rw [HE7.out]; decide, ret_code HE7.out.symm, hx2⟩
   ·have hE : addE L ⟨ra, rb, rp, rq, 0⟩ = 0 := by rw [HE.out, if_neg (by omega)]
    have HE0 := Lib.hid hE
    clear hE
    have c0 : World.cell? v ⟨tb, 0, none⟩ = some (.map (some mb)) := (H.out.ext hx2).blk.cell 0
    have c1 : World.cell? v ⟨tb, 1, none⟩ = some (.int .i64 last) := (H.out.ext hx2).blk.cell 1
    have f1 := (H.out.ext hx2).blk.free 1
    have hlt := (H.out.ext hx2).blk.lt
    have hln := fun ty => (H.out.ext hx2).map.len Tryz.underlying118 ty
    go_upto_region 14 with fail
    obtain ⟨vq, hv⟩ : ∃ vq, vq = World.setCell v ⟨tb, 1, none⟩ (.int .i64 (last + 1)) := ⟨_, rfl⟩
    have hmv : Mod (tabS tb mb) w vq := by rw [hv]; exact (hx2).any.setCell (p := ⟨tb, 1, none⟩) (fun _ => .inl rfl) _
    have hblk : Blk vq tb 120 #[.map (some mb), .int .i64 (last + 1)] := by rw [hv]; exact (H.out.ext hx2).blk.set 1 _
    have hmapv : MapIs Tryz.prog 3 vq mb L := by rw [hv]; exact (H.out.ext hx2).map.mod ((Mod.refl (· = tb) _).setCell (p := ⟨tb, 1, none⟩) (fun _ => rfl) _) (fun e => H.out.ne e.symm)
    have hb3v : Blk vq w.heap.size 66 #[.int .i64 ra, .int .i64 rb, .bool rp, .bool rq, .int .i64 0] := by rw [hv]; exact (hb2).set_other (fun e => by have := H.out.blk.lt; simp only at e; omega) _
    rw [← hv]
    clear hv c0 c1 f1 hlt hln
    have c0 : vq.cell? ⟨tb, 0, none⟩ = some (.map (some mb)) := hblk.cell 0
    have c1 : vq.cell? ⟨tb, 1, none⟩ = some (.int .i64 (last + 1)) := hblk.cell 1
    have hlt := hblk.lt
    have d0 := Blk.cell hb3v 0
    have d1 := Blk.cell hb3v 1
    have d2 := Blk.cell hb3v 2
    have d3 := Blk.cell hb3v 3
    have d4 := Blk.cell hb3v 4
    simp only [List.getElem?_toArray, List.getElem?_cons_zero, List.getElem?_cons_succ] at d0 d1 d2 d3 d4
    have f0 := Blk.free hb3v 0
    have f1 := Blk.free hb3v 1
    have f2 := Blk.free hb3v 2
    have f3 := Blk.free hb3v 3
    have f4 := Blk.free hb3v 4
    have hlt2 := Blk.lt hb3v
    refine wp_region_ext_tail 9 (by kernel_rfl) (by kernel_rfl) ?_
    simp only [List.take_succ_cons, List.take_zero, List.drop_succ_cons, List.drop_zero]
    repeat (go_big_quiet_step (fail))
    refine wpQuiet_nil ?_
    intro we hxe
    obtain ⟨w', hrun, hmap, hmod⟩ := (hmapv.mod hxe (fun f => f)).add Tryz.underlying3 Tryz.underlying118 (by unfold maxLen; omega) (id := last + 1) (id_wf (by omega) (by omega)) Hnx.out ⟨ra, rb, rp, rq, 0⟩
    unfold rgV at hrun
    simp only at hrun
    have hblk2 := (hblk.mod hxe (fun f => f)).mod hmod (fun e => H.out.ne e)
    have hmw : Mod (tabS tb mb) w w' := (hmv.trans hxe (fun i hi f => f.elim)).trans hmod (fun i hi e => .inr e)
    clear c0 c1 hlt d0 d1 d2 d3 d4 f0 f1 f2 f3 f4 hlt2
    have c1 : w'.cell? ⟨tb, 1, none⟩ = some (.int .i64 (last + 1)) := hblk2.cell 1
    have hlt := hblk2.lt
    go_wp2_with fail
    go_ret2
    exact .inl ⟨HE0.out, rfl, ⟨hblk2, hmap, H.out.ne⟩, hmw⟩
  ·have z1 : (ru != 0) = true := by simpa using hz
   have hlook := fun w' (h' : Ext v w') => (H.out.ext (hx2.ext_trans h')).look hu _ rfl
   have hb2b := Lib.hid hb2
   generalize hgo : getR L ru = og at *
   have HS := Lib.hid (fun w' (h' : Ext v w') => (⟨(H.out.ext (hx2.ext_trans h')).blk.cell 0, (hb2b.out.mod h' (fun f => f)).cell 4, hlook w' h', trivial⟩ :
    w'.cell? ⟨tb, 0, none⟩ = some (.map (some mb)) ∧ w'.cell? ⟨w.heap.size, 4, none⟩ = some (.int .i64 ru) ∧ (Instr.lookup 118 (.map (some mb)) (.int .i64 ru) true).run Tryz.prog w' = .ok (.tuple #[rgV (og.getD rg0), .bool og.isSome]) w' ∧ True))
   clear hlook
   have d0 := Blk.cell hb2 0
   have d1 := Blk.cell hb2 1
   have d2 := Blk.cell hb2 2
   have d3 := Blk.cell hb2 3
   have d4 := Blk.cell hb2 4
   simp only [List.getElem?_toArray, List.getElem?_cons_zero, List.getElem?_cons_succ] at d0 d1 d2 d3 d4
   have f0 := Blk.free hb2 0
   have f1 := Blk.free hb2 1
   have f2 := Blk.free hb2 2
   have f3 := Blk.free hb2 3
   have f4 := Blk.free hb2 4
   have hlt2 := Blk.lt hb2
   go_upto_region 6 with fail
   clear d0 d1 d2 d3 d4 f0 f1 f2 f3 f4 hlt2 z1
   generalize hR : og.getD rg0 = rr at *
   obtain ⟨ua, ub, up, uq, uu⟩ := rr
   unfold rgV at HS
   simp only at HS
   refine wp_region_E (by kernel_rfl) ?_
   refine wpE_t 0 18 (v := ?_) (fun w' hw' => qat_value ?_) ?_
   rotate_left
   ·go_simp
    rfl
   simp only [fr1, fr2, fr3, fr4]
   refine wpE_t 1 19 (v := ?_) (fun w' hw' => qat_value ?_) ?_
   rotate_left
   ·go_simp
    rfl
   simp only [fr1, fr2, fr3, fr4]
   refine wpE_t 2 20 (v := ?_) (fun w' hw' => qat_value ?_) ?_
   rotate_left
   ·go_simp
    rfl
   simp only [fr1, fr2, fr3, fr4]
   refine wpE_t 3 21 (v := ?_) (fun w' hw' => ?_) ?_
   rotate_left
   ·obtain ⟨r0, r1, r2, r3⟩ := HS.out w' hw'
    refine qat_value ?_
    go_simp
    rfl
   simp only [fr1, fr2, fr3, fr4]
   refine wpE_t 4 22 (v := ?_) (fun w' hw' => qat_value ?_) ?_
   rotate_left
   ·go_simp
    rfl
   simp only [fr1, fr2, fr3, fr4]
   refine wpE_t 5 23 (v := ?_) (fun w' hw' => ?_) ?_
   rotate_left
   ·obtain ⟨r0, r1, r2, r3⟩ := HS.out w' hw'
    refine qat_value ?_
    go_simp
    rfl
   simp only [fr1, fr2, fr3, fr4]
   refine wpE_t 6 24 (v := ?_) (fun w' hw' => ?_) ?_
   rotate_left
   ·obtain ⟨r0, r1, r2, r3⟩ := HS.out w' hw'
    refine qat_value ?_
    go_simp
    rfl
   simp only [fr1, fr2, fr3, fr4]
   refine wpE_t 7 17 (v := ?_) (fun w' hw' => qat_value ?_) ?_
   rotate_left
   ·go_simp
    rfl
   simp only [fr1, fr2, fr3, fr4]
   refine wpE_t 8 25 (v := ?_) (fun w' hw' => qat_value ?_) ?_
   rotate_left
   ·go_simp
    rfl
   simp only [fr1, fr2, fr3, fr4]
   refine wpE_t 9 26 (v := ?_) (fun w' hw' => qat_value ?_) ?_
   rotate_left
   ·go_simp
    rfl
   simp only [fr1, fr2, fr3, fr4]
   refine wpE_boxT (x := #[.int .i64 ua, .int .i64 ub, .bool up, .bool uq, .int .i64 uu]) box_rg 10 11 6 25 rfl rfl ⟨rfl, rfl⟩ ⟨rfl, rfl⟩ ⟨rfl, rfl⟩ (by kernel_rfl) (by kernel_rfl) ⟨by simp, by decide⟩ rfl rfl (by intro u hu; simp at hu; rcases hu with rfl | rfl | rfl | rfl | rfl <;> rfl) (ext_draw _) ?_
   intro w22 pb hx22 hpb hbp
   simp only [fr1, fr2, fr3, fr4]
   refine wpE_t 12 7 (v := ?_) (fun w' hw' => qat_value ?_) ?_
   rotate_left
   ·go_simp
    rfl
   simp only [fr1, fr2, fr3, fr4]
   refine wpE_done (by kernel_rfl) (fun w5 hu5 => ?_) _
   have hx5 := hx22.ext_trans hu5
   have hbp5 := hbp.mod hu5 (fun f => f)
   have hxw5 := hx2.ext_trans hx5
   have hb5 := hb2b.out.mod hx5 (fun f => f)
   clear HS hbp hpb hx22 hu5
   cases hog : og with
   | none =>
    have HE := Lib.hid (addE_none (L := L) (r := ⟨ra, rb, rp, rq, ru⟩) hm hz (hgo.trans hog))
    rw [show (none : Option Rg).isSome = false from rfl]
    go_wp2_with fail
    go_ret2
    exact .inr ⟨by rw [HE.out]; decide, ret_code HE.out.symm, hxw5⟩
   | some ur =>
    rw [hog] at hR
    have hR' : ur = ⟨ua, ub, up, uq, uu⟩ := hR
    subst hR'
    rw [hog] at hgo
    have HW := Lib.hid (fun w' => spWithin_any (ra, rb) (ua, ub) w')
    have HG := Lib.hid hgo
    have Hm := Lib.hid hm
    have Hz := Lib.hid hz
    rw [show (some (⟨ua, ub, up, uq, uu⟩ : Rg)).isSome = true from rfl]
    clear hR hog hgo hm hz hx5
    have d0 := Blk.cell hb5 0
    have d1 := Blk.cell hb5 1
    have d2 := Blk.cell hb5 2
    have d3 := Blk.cell hb5 3
    have d4 := Blk.cell hb5 4
    simp only [List.getElem?_toArray, List.getElem?_cons_zero, List.getElem?_cons_succ] at d0 d1 d2 d3 d4
    have f0 := Blk.free hb5 0
    have f1 := Blk.free hb5 1
    have f2 := Blk.free hb5 2
    have f3 := Blk.free hb5 3
    have f4 := Blk.free hb5 4
    have hlt2 := Blk.lt hb5
    have e0 : w5.cell? ⟨pb, 0, none⟩ = some (.int .i64 ua) := hbp5.cell 0
    have e1 : w5.cell? ⟨pb, 1, none⟩ = some (.int .i64 ub) := hbp5.cell 1
    have hlt3 := hbp5.lt
    go_wp2_with fail
    refine (HW.out w5).mono ?_
    rintro e w6 ⟨rfl, hx6⟩
    have hx7 := hxw5.ext_trans hx6
    have hb6 := hb5.mod hx6 (fun f => f)
    clear d0 d1 d2 d3 d4 f0 f1 f2 f3 f4 hlt2 e0 e1 hlt3 hb5 hbp5
    cases hw : withinS (ra, rb) (ua, ub) with
    | false =>
     have HE := Lib.hid (addE_out (L := L) (r := ⟨ra, rb, rp, rq, ru⟩) Hm.out Hz.out HG.out hw)
     go_wp2_with fail
     go_ret2
     exact .inr ⟨by rw [HE.out]; decide, ret_code HE.out.symm, hx7⟩
    | true =>
     have HE := Lib.hid (addE_in (L := L) (r := ⟨ra, rb, rp, rq, ru⟩) Hm.out Hz.out HG.out hw)
     by_cases hlen : (256 : Int) ≤ (L.length : Int)
     ·have hE : addE L ⟨ra, rb, rp, rq, ru⟩ = 7 := by rw [HE.out, if_pos (by omega)]
      have HE7 := Lib.hid hE
      clear hE
      have c0 : World.cell? w6 ⟨tb, 0, none⟩ = some (.map (some mb)) := (H.out.ext hx7).blk.cell 0
      have hlt := (H.out.ext hx7).blk.lt
      have hln := fun ty => (H.out.ext hx7).map.len Tryz.underlying118 ty
      go_wp2_with fail
      go_ret2
      exact .inr ⟨by rw [HE7.out]; decide, ret_code HE7.out.symm, hx7⟩
     ·have hE : addE L ⟨ra, rb, rp, rq, ru⟩ = 0 := by rw [HE.out, if_neg (by omega)]
      have HE0 := Lib.hid hE
      clear hE
      have c0 : World.cell? w6 ⟨tb, 0, none⟩ = some (.map (some mb)) := (H.out.ext hx7).blk.cell 0
      have c1 : World.cell? w6 ⟨tb, 1, none⟩ = some (.int .i64 last) := (H.out.ext hx7).blk.cell 1
      have f1 := (H.out.ext hx7).blk.free 1
      have hlt := (H.out.ext hx7).blk.lt
      have hln := fun ty => (H.out.ext hx7).map.len Tryz.underlying118 ty
      go_upto_region 14 with fail
      obtain ⟨vq, hv⟩ : ∃ vq, vq = World.setCell w6 ⟨tb, 1, none⟩ (.int .i64 (last + 1)) := ⟨_, rfl⟩
      have hmv : Mod (tabS tb mb) w vq := by rw [hv]; exact (hx7).any.setCell (p := ⟨tb, 1, none⟩) (fun _ => .inl rfl) _
      have hblk : Blk vq tb 120 #[.map (some mb), .int .i64 (last + 1)] := by rw [hv]; exact (H.out.ext hx7).blk.set 1 _
      have hmapv : MapIs Tryz.prog 3 vq mb L := by rw [hv]; exact (H.out.ext hx7).map.mod ((Mod.refl (· = tb) _).setCell (p := ⟨tb, 1, none⟩) (fun _ => rfl) _) (fun e => H.out.ne e.symm)
      have hb3v : Blk vq w.heap.size 66 #[.int .i64 ra, .int .i64 rb, .bool rp, .bool rq, .int .i64 ru] := by rw [hv]; exact (hb6).set_other (fun e => by have := H.out.blk.lt; simp only at e; omega) _
      rw [← hv]
      clear hv c0 c1 f1 hlt hln
      have c0 : vq.cell? ⟨tb, 0, none⟩ = some (.map (some mb)) := hblk.cell 0
      have c1 : vq.cell? ⟨tb, 1, none⟩ = some (.int .i64 (last + 1)) := hblk.cell 1
      have hlt := hblk.lt
      have d0 := Blk.cell hb3v 0
      have d1 := Blk.cell hb3v 1
      have d2 := Blk.cell hb3v 2
      have d3 := Blk.cell hb3v 3
      have d4 := Blk.cell hb3v 4
      simp only [List.getElem?_toArray, List.getElem?_cons_zero, List.getElem?_cons_succ] at d0 d1 d2 d3 d4
      have f0 := Blk.free hb3v 0
      have f1 := Blk.free hb3v 1
      have f2 := Blk.free hb3v 2
      have f3 := Blk.free hb3v 3
      have f4 := Blk.free hb3v 4
      have hlt2 := Blk.lt hb3v
      refine wp_region_ext_tail 9 (by kernel_rfl) (by kernel_rfl) ?_
      simp only [List.take_succ_cons, List.take_zero, List.drop_succ_cons, List.drop_zero]
      repeat (go_big_quiet_step (fail))
      refine wpQuiet_nil ?_
      intro we hxe
      obtain ⟨w', hrun, hmap, hmod⟩ := (hmapv.mod hxe (fun f => f)).add Tryz.underlying3 Tryz.underlying118 (by unfold maxLen; omega) (id := last + 1) (id_wf (by omega) (by omega)) Hnx.out ⟨ra, rb, rp, rq, ru⟩
      unfold rgV at hrun
      simp only at hrun
      have hblk2 := (hblk.mod hxe (fun f => f)).mod hmod (fun e => H.out.ne e)
      have hmw : Mod (tabS tb mb) w w' := (hmv.trans hxe (fun i hi f => f.elim)).trans hmod (fun i hi e => .inr e)
      clear c0 c1 hlt d0 d1 d2 d3 d4 f0 f1 f2 f3 f4 hlt2
      have c1 : w'.cell? ⟨tb, 1, none⟩ = some (.int .i64 (last + 1)) := hblk2.cell 1
      have hlt := hblk2.lt
      go_wp2_with fail
      go_ret2
      exact .inl ⟨HE0.out, rfl, ⟨hblk2, hmap, H.out.ne⟩, hmw⟩
end Go.Proofs.YthlmgoagnfkhdaaGreat

/- marks.Table: New, Get, Pose, Add. Conditions: a table that may be. -/
import Derived.Test.YtffplppglicibaaGimTableP
import Derived.Test.YtffplppglicibaaGimReg4
import Derived.Test.YtffplppglicibaaGimTailQ
import Derived.Deep.DeepCutAuto
import Derived.Handy
import Derived.Laws.ResultCell
namespace Go.Proofs.Ytffplppglicibaa
open Go.RowKit Go.Gim

theorem results_cell2 {P : Program} {fn : Func} {p u : Tmp} {ty : TypeId} (h : fn.results = #[.cell p ty, .tmp u]) (tmps : Array Value) (w : World) (g : Nat) (t : TypeId) (cs : Array Value) (fr : Nat × Nat) (d : TypeDesc)
    (hp : tmps.getD p undef = .pointer (some ⟨g, 0, none⟩)) (hg : w.heap[g]? = some (.cells cs t fr))
    (hu : P.underlying ty = some d) (hd : (match d with | .struct _ | .array _ _ => true | _ => false) = true) (hi : (P.info? ty).map (·.size) = some cs.size) :
    (results fn tmps).run P w = .ok (.tuple #[.agg cs, tmps.getD u undef]) w := by
  rw [results_cell_tmp h, hp]
  simp [asAddr, run_loadVar_row w g t ty cs fr d hg hu hd hi]
theorem rangeSize : (Try.prog.info? 33).map (·.size) = some 5 := by kernel_rfl

/-- A table in memory: its block, its map's. -/
structure TabAt (w : World) (tb mb : Nat) (L : Tb) (last : Int) : Prop where
  blk : Blk w tb 74 #[.map (some mb), .int .i64 last]
  map : MapIs Try.prog 3 w mb L
  ne : tb ≠ mb
/-- Its blocks. -/
def tabS (tb mb : Nat) (k : Nat) : Prop := k = tb ∨ k = mb
theorem TabAt.mod {S : Nat → Prop} {w w' : World} {tb mb : Nat} {L : Tb} {last : Int} (h : TabAt w tb mb L last) (hm : Mod S w w') (h1 : ¬ S tb) (h2 : ¬ S mb) : TabAt w' tb mb L last :=
  ⟨h.blk.mod hm h1, h.map.mod hm h2, h.ne⟩
theorem TabAt.ext {w w' : World} {tb mb : Nat} {L : Tb} {last : Int} (h : TabAt w tb mb L last) (hm : Ext w w') : TabAt w' tb mb L last := h.mod hm (fun f => f) (fun f => f)
theorem zeroRg (w : World) : (zeroValue 33).run Try.prog w = .ok (rgV rg0) w := Try.zeroValue33 w
theorem id_wf {id : Int} (h1 : -9223372036854775808 ≤ id) (h2 : id ≤ 9223372036854775807) : (Lit.int .i64 id).wf = true := by
  simp [Lit.wf, IntKind.min, IntKind.max, IntKind.signed, IntKind.bits]; omega
/-- A look-up, comma ok; told by what is there. -/
theorem TabAt.look {w : World} {tb mb : Nat} {L : Tb} {last : Int} (h : TabAt w tb mb L last) {id : Int} (hid : (Lit.int .i64 id).wf = true) (o : Option Rg) (ho : getR L id = o) :
    (Instr.lookup 72 (.map (some mb)) (.int .i64 id) true).run Try.prog w = .ok (.tuple #[rgV (o.getD rg0), .bool o.isSome]) w := by
  rw [← ho]; exact h.map.look Try.underlying3 Try.underlying72 zeroRg hid
theorem TabAt.look1 {w : World} {tb mb : Nat} {L : Tb} {last : Int} (h : TabAt w tb mb L last) {id : Int} (hid : (Lit.int .i64 id).wf = true) (o : Option Rg) (ho : getR L id = o) :
    (Instr.lookup 72 (.map (some mb)) (.int .i64 id) false).run Try.prog w = .ok (rgV (o.getD rg0)) w := by
  rw [← ho]; exact h.map.look1 Try.underlying3 Try.underlying72 zeroRg hid

set_option maxHeartbeats 800000 in
set_option maxRecDepth 1000000 in
theorem tnew_any (w : World) : Calls Try.prog 14 #[] w fun e w' => ∃ tb mb, e = .returned (.pointer (some ⟨tb, 0, none⟩)) ∧ TabAt w' tb mb [] 0 ∧ w.heap.size ≤ tb ∧ w.heap.size ≤ mb ∧ Ext w w' := by
  have hmm := @run_makeMap Try.prog
  go_enter Try.func14, Try.ntmps14
  go_wp2_with fail
  go_ret
  have h1 := MapIs.made Try.prog 3 w
  have hx1 : Ext w (w.alloc (.map #[] 0)) := (Mod.refl _ w).alloc _
  have hs : (w.alloc (.map #[] 0)).heap.size = w.heap.size + 1 := by simp
  refine ⟨_, w.heap.size, rfl, ⟨?_, h1.mod ((Mod.refl (fun _ => False) _).alloc _) (fun f => f), by omega⟩, by omega, Nat.le_refl _, hx1.alloc _⟩
  rw [← hs]
  exact Blk.new _ _ _

set_option maxHeartbeats 800000 in
set_option maxRecDepth 1000000 in
theorem tget_any (tb mb : Nat) (L : Tb) (last id : Int) (w : World) (h : TabAt w tb mb L last) (hid : (Lit.int .i64 id).wf = true) :
    Calls Try.prog 18 #[.pointer (some ⟨tb, 0, none⟩), .int .i64 id] w fun e w' => e = .returned (.tuple #[rgV ((getR L id).getD rg0), .bool (getR L id).isSome]) ∧ Ext w w' := by
  obtain ⟨u, hu⟩ : ∃ u, u = w.alloc (.cells #[.int .i64 0, .int .i64 0, .bool false, .bool false, .int .i64 0] 33) := ⟨_, rfl⟩
  have hxu : Ext w u := by rw [hu]; exact (Mod.refl _ w).alloc _
  have hbu : Blk u w.heap.size 33 #[.int .i64 0, .int .i64 0, .bool false, .bool false, .int .i64 0] := by rw [hu]; exact Blk.new _ _ _
  have hlook := (h.ext hxu).look hid _ rfl
  have c0 : u.cell? ⟨tb, 0, none⟩ = some (.map (some mb)) := (h.ext hxu).blk.cell 0
  have hlt := (h.ext hxu).blk.lt
  have d0 := Blk.cell hbu 0
  have d1 := Blk.cell hbu 1
  have d2 := Blk.cell hbu 2
  have d3 := Blk.cell hbu 3
  have d4 := Blk.cell hbu 4
  simp only [List.getElem?_toArray, List.getElem?_cons_zero, List.getElem?_cons_succ] at d0 d1 d2 d3 d4
  have f0 := Blk.free hbu 0
  have f1 := Blk.free hbu 1
  have f2 := Blk.free hbu 2
  have f3 := Blk.free hbu 3
  have f4 := Blk.free hbu 4
  have hlt2 := Blk.lt hbu
  generalize hR : (getR L id).getD rg0 = r at *
  generalize (getR L id).isSome = b at *
  obtain ⟨ra, rb, rp, rq, ru⟩ := r
  unfold rgV at hlook ⊢
  simp only at hlook ⊢
  clear hR h
  go_enter Try.func18, Try.ntmps18
  go_upto_region 3 with fail
  rw [← hu]
  clear hu
  go_wp2_with fail
  have hres := (((((hbu.set 0 (.int .i64 ra)).set 1 (.int .i64 rb)).set 2 (.bool rp)).set 3 (.bool rq)).set 4 (.int .i64 ru)).alloc (.cells #[.int .i64 ra, .int .i64 rb, .bool rp, .bool rq, .int .i64 ru] 33)
  refine bodyPost_ret (results_cell2 rfl _ _ w.heap.size _ #[.int .i64 ra, .int .i64 rb, .bool rp, .bool rq, .int .i64 ru] (0, 0) _ rfl hres Try.underlying33 rfl rangeSize) rfl ?_
  exact ⟨rfl, (((((hxu.setCell (by simp) _).setCell (by simp) _).setCell (by simp) _).setCell (by simp) _).setCell (by simp) _).alloc _⟩

theorem tpose_no (tb mb : Nat) (L : Tb) (last id : Int) (p q : Bool) (w : World) (h : TabAt w tb mb L last) (hid : (Lit.int .i64 id).wf = true) (hg : getR L id = none) :
    Calls Try.prog 16 #[.pointer (some ⟨tb, 0, none⟩), .int .i64 id, .bool p, .bool q] w fun e w' => e = .returned (.int .i64 6) ∧ Ext w w' := by
  have hlook := h.look hid _ hg
  have c0 : w.cell? ⟨tb, 0, none⟩ = some (.map (some mb)) := h.blk.cell 0
  have hlt := h.blk.lt
  rw [show rgV ((none : Option Rg).getD rg0) = .agg #[.int .i64 0, .int .i64 0, .bool false, .bool false, .int .i64 0] from rfl, show (none : Option Rg).isSome = false from rfl] at hlook
  clear h hg
  go_enter Try.func16, Try.ntmps16
  go_wp2_with fail
  go_ret
  exact ⟨rfl, (Mod.refl _ w).alloc _⟩
set_option maxHeartbeats 800000 in
set_option maxRecDepth 1000000 in
theorem tpose_yes (tb mb : Nat) (L : Tb) (last id : Int) (p q : Bool) (r : Rg) (w : World) (h : TabAt w tb mb L last) (hl : L.length ≤ 1000) (hid : (Lit.int .i64 id).wf = true) (hg : getR L id = some r) :
    Calls Try.prog 16 #[.pointer (some ⟨tb, 0, none⟩), .int .i64 id, .bool p, .bool q] w fun e w' => e = .returned (.int .i64 0) ∧ TabAt w' tb mb (setR L id ⟨r.a, r.b, p, q, r.u⟩) last ∧ Mod (tabS tb mb) w w' := by
  have hlook := h.look hid _ hg
  have c0 : w.cell? ⟨tb, 0, none⟩ = some (.map (some mb)) := h.blk.cell 0
  have hlt := h.blk.lt
  have Hg := Lib.hid hg
  have H := Lib.hid h
  obtain ⟨ra, rb, rp, rq, ru⟩ := r
  rw [show rgV ((some (⟨ra, rb, rp, rq, ru⟩ : Rg)).getD rg0) = .agg #[.int .i64 ra, .int .i64 rb, .bool rp, .bool rq, .int .i64 ru] from rfl, show (some (⟨ra, rb, rp, rq, ru⟩ : Rg)).isSome = true from rfl] at hlook
  simp only
  clear h hg
  go_enter Try.func16, Try.ntmps16
  go_upto_region 7 with fail
  obtain ⟨u, hu⟩ : ∃ u, u = w.alloc (.cells #[.int .i64 ra, .int .i64 rb, .bool p, .bool q, .int .i64 ru] 33) := ⟨_, rfl⟩
  have hxu : Ext w u := by rw [hu]; exact (Mod.refl _ w).alloc _
  have hbu : Blk u w.heap.size 33 #[.int .i64 ra, .int .i64 rb, .bool p, .bool q, .int .i64 ru] := by rw [hu]; exact Blk.new _ _ _
  rw [← hu]
  clear hu hlook
  have c0' : u.cell? ⟨tb, 0, none⟩ = some (.map (some mb)) := (H.out.ext hxu).blk.cell 0
  have hlt' := (H.out.ext hxu).blk.lt
  have d0 := Blk.cell hbu 0
  have d1 := Blk.cell hbu 1
  have d2 := Blk.cell hbu 2
  have d3 := Blk.cell hbu 3
  have d4 := Blk.cell hbu 4
  simp only [List.getElem?_toArray, List.getElem?_cons_zero, List.getElem?_cons_succ] at d0 d1 d2 d3 d4
  have f0 := Blk.free hbu 0
  have f1 := Blk.free hbu 1
  have f2 := Blk.free hbu 2
  have f3 := Blk.free hbu 3
  have f4 := Blk.free hbu 4
  have hlt2 := Blk.lt hbu
  clear c0 hlt
  refine wp_region_ext_tail 6 (by kernel_rfl) (by kernel_rfl) ?_
  simp only [List.take_succ_cons, List.take_zero, List.drop_succ_cons, List.drop_zero]
  repeat (go_big_quiet_step (fail))
  refine wpQuiet_nil ?_
  intro we hxe
  obtain ⟨w', hrun, hmap, hmod⟩ := (H.out.ext (hxu.ext_trans hxe)).map.set Try.underlying3 Try.underlying72 (by unfold maxLen; omega) hid (by rw [Hg.out]; rfl) ⟨ra, rb, p, q, ru⟩
  unfold rgV at hrun
  simp only at hrun
  have hxm : Mod (tabS tb mb) w w' := (hxu.ext_trans hxe).any.trans hmod (fun i hi e => .inr e)
  have hblk := (H.out.ext (hxu.ext_trans hxe)).blk.mod hmod (fun e => H.out.ne e)
  clear c0' hlt' d0 d1 d2 d3 d4 f0 f1 f2 f3 f4 hlt2
  go_wp2_with fail
  go_ret
  exact ⟨rfl, ⟨hblk, hmap, H.out.ne⟩, hxm⟩
end Go.Proofs.Ytffplppglicibaa

/- A deed's range, mostly one that may be. Conditions: none. -/
import Derived.Test.YtffplppglicibaaGimDeedM
import Derived.Test.YtffplppglicibaaGimTwin
import Derived.Test.YtffplppglicibaaGimTabMove
import Derived.Test.YtffplppglicibaaGimDrop
import Derived.Test.YtffplppglicibaaGimLow
import Derived.Deep.CutBlock
import Derived.Handy
namespace Go.Proofs.Ytffplppglicibaa
open Go.RowKit Go.Gim

def ofR (x : Dm) : Rg := if lowN x.k 16 < 14 then ⟨(lowN x.a 60 : Nat), (lowN x.a 60 + lowN x.b 12 : Nat), x.p, x.q, (lowN x.c 5 : Nat)⟩ else ⟨x.a, x.b, x.p, x.q, x.c⟩
theorem lowC (x : Int) (n : Nat) (m : Int) (hm : m = n) (h1 : 1 ≤ n) (h2 : n ≤ 1000000) (v : World) : Calls Try.prog 13 #[.int .i64 x, .int .i64 m] v fun e w' => e = .returned (.int .i64 (lowN x n : Nat)) ∧ w' = v := by
  subst hm
  have h := low_any x n v (by omega) (by omega)
  rwa [Int.toNat_natCast] at h

set_option maxHeartbeats 1600000 in
set_option maxRecDepth 1000000 in
theorem of7_any (x : Dm) (w : World) :
    Calls Try.prog 37 #[.agg #[.int .i64 x.k, .int .i64 x.a, .int .i64 x.b, .int .i64 x.c, .bool x.p, .bool x.q, .slice x.ao x.es.length x.cap]] w fun e w' => e = .returned (.agg #[.int .i64 (ofR x).a, .int .i64 (ofR x).b, .bool (ofR x).p, .bool (ofR x).q, .int .i64 (ofR x).u]) ∧ Ext w w' := by
  have B1 := lowN_lt x.a 60 (by omega)
  have B2 := lowN_lt x.b 12 (by omega)
  have B3 := lowN_lt x.c 5 (by omega)
  have B4 := lowN_lt x.k 16 (by omega)
  have L1 := Lib.hid (lowC x.a 60 60 rfl (by omega) (by omega))
  have L2 := Lib.hid (lowC x.b 12 12 rfl (by omega) (by omega))
  have L3 := Lib.hid (lowC x.c 5 5 rfl (by omega) (by omega))
  have L4 := Lib.hid (lowC x.k 16 16 rfl (by omega) (by omega))
  have HR := Lib.hid (show ofR x = if lowN x.k 16 < 14 then ⟨(lowN x.a 60 : Nat), (lowN x.a 60 + lowN x.b 12 : Nat), x.p, x.q, (lowN x.c 5 : Nat)⟩ else ⟨x.a, x.b, x.p, x.q, x.c⟩ from rfl)
  generalize ofR x = R at *
  generalize lowN x.a 60 = n1 at *
  generalize lowN x.b 12 = n2 at *
  generalize lowN x.c 5 = n3 at *
  generalize lowN x.k 16 = n4 at *
  obtain ⟨u, hu⟩ : ∃ u, u = (w.alloc (.cells #[.int .i64 x.k, .int .i64 x.a, .int .i64 x.b, .int .i64 x.c, .bool x.p, .bool x.q, .slice x.ao x.es.length x.cap] 54)).alloc (.cells #[.int .i64 0, .int .i64 0, .bool false, .bool false, .int .i64 0] 33) := ⟨_, rfl⟩
  obtain ⟨xk, xa, xb, xc, xp, xq, xo, xcap, xes⟩ := x
  simp only at L1 L2 L3 L4 HR hu ⊢
  generalize xes.length = xn at *
  have hxu : Ext w u := by rw [hu]; exact ((Mod.refl _ w).alloc _).alloc _
  have hbd : Blk u w.heap.size 54 #[.int .i64 xk, .int .i64 xa, .int .i64 xb, .int .i64 xc, .bool xp, .bool xq, .slice xo xn xcap] := by
    rw [hu]; exact (Blk.new w _ _).mod ((Mod.refl (fun _ => False) _).alloc _) (fun f => f)
  have hbr : Blk u (w.heap.size + 1) 33 #[.int .i64 0, .int .i64 0, .bool false, .bool false, .int .i64 0] := by
    rw [hu]
    have := Blk.new (w.alloc (.cells #[.int .i64 xk, .int .i64 xa, .int .i64 xb, .int .i64 xc, .bool xp, .bool xq, .slice xo xn xcap] 54)) 33 #[.int .i64 0, .int .i64 0, .bool false, .bool false, .int .i64 0]
    simpa using this
  go_enter Try.func37, Try.ntmps37
  go_upto_region 1 with fail
  rw [← hu]
  clear hu
  have c0 := hbd.cell 0
  have c1 := hbd.cell 1
  have c2 := hbd.cell 2
  have c3 := hbd.cell 3
  have c4 := hbd.cell 4
  have c5 := hbd.cell 5
  have c6 := hbd.cell 6
  simp only [List.getElem?_toArray, List.getElem?_cons_zero, List.getElem?_cons_succ] at c0 c1 c2 c3 c4 c5 c6
  have hltd := hbd.lt
  have hltr := hbr.lt
  go_wp2_with fail
  obtain ⟨v, hv⟩ : ∃ v, v = u.alloc (.cells #[.int .i64 xa, .int .i64 xb, .bool xp, .bool xq, .int .i64 xc] 33) := ⟨_, rfl⟩
  have hxv : Ext u v := by rw [hv]; exact (Mod.refl _ u).alloc _
  have hbs : Blk v u.heap.size 33 #[.int .i64 xa, .int .i64 xb, .bool xp, .bool xq, .int .i64 xc] := by rw [hv]; exact Blk.new _ _ _
  rw [← hv]
  clear hv
  have HBD := Lib.hid (hbd.mod hxv (fun f => f))
  have HBR := Lib.hid (hbr.mod hxv (fun f => f))
  have hx := hxu.ext_trans hxv
  generalize u.heap.size = S at *
  have hle : w.heap.size + 2 ≤ S := by omega
  have n1s : w.heap.size ≠ S := by omega
  have n2s : w.heap.size + 1 ≠ S := by omega
  clear hbd hbr c0 hltd hltr hxu hxv
  have hltd := HBD.out.lt
  have hltr := HBR.out.lt
  have c1 := HBD.out.cell 1
  have c2 := HBD.out.cell 2
  have c3 := HBD.out.cell 3
  simp only [List.getElem?_toArray, List.getElem?_cons_zero, List.getElem?_cons_succ] at c1 c2 c3
  clear c4 c5 c6
  refine (L4.out _).mono ?_
  rintro e v0 ⟨rfl, rfl⟩
  have d0 := Blk.cell hbs 0
  have d1 := Blk.cell hbs 1
  have d2 := Blk.cell hbs 2
  have d3 := Blk.cell hbs 3
  have d4 := Blk.cell hbs 4
  simp only [List.getElem?_toArray, List.getElem?_cons_zero, List.getElem?_cons_succ] at d0 d1 d2 d3 d4
  have f0 := Blk.free hbs 0
  have f1 := Blk.free hbs 1
  have f2 := Blk.free hbs 2
  have f3 := Blk.free hbs 3
  have f4 := Blk.free hbs 4
  have hlts := Blk.lt hbs
  have e0 := Blk.cell HBR.out 0
  have e1 := Blk.cell HBR.out 1
  have e2 := Blk.cell HBR.out 2
  have e3 := Blk.cell HBR.out 3
  have e4 := Blk.cell HBR.out 4
  simp only [List.getElem?_toArray, List.getElem?_cons_zero, List.getElem?_cons_succ] at e0 e1 e2 e3 e4
  have g0 := Blk.free HBR.out 0
  have g1 := Blk.free HBR.out 1
  have g2 := Blk.free HBR.out 2
  have g3 := Blk.free HBR.out 3
  have g4 := Blk.free HBR.out 4
  have hltr2 := Blk.lt HBR.out
  by_cases hc : n4 < 14
  · have hc' : (n4 : Int) < 14 := by omega
    have hR := HR.out
    rw [if_pos hc] at hR
    subst hR
    clear HR
    go_wp2_with fail
    refine (L1.out _).mono ?_
    rintro e v0 ⟨rfl, rfl⟩
    go_upto_region 4 with fail
    have hbs1 : Blk (v0.setCell ⟨S, 0, none⟩ (.int .i64 n1)) S 33 #[.int .i64 n1, .int .i64 xb, .bool xp, .bool xq, .int .i64 xc] := hbs.set 0 (.int .i64 n1)
    have hm1 : Mod (· = S) v0 (v0.setCell ⟨S, 0, none⟩ (.int .i64 n1)) := (Mod.refl (· = S) v0).setCell (p := ⟨S, 0, none⟩) (fun _ => rfl) _
    have HBD1 := Lib.hid (HBD.out.mod hm1 n1s)
    have HBR1 := Lib.hid (HBR.out.mod hm1 n2s)
    have hx1 := hx.trans hm1 (fun i hi e => by omega)
    clear HBD HBR c1 c2 c3 d0 d1 d2 d3 d4 f0 f1 f2 f3 f4 hlts e0 e1 e2 e3 e4 g0 g1 g2 g3 g4 hltr2 hltd hltr hm1 hbs hx
    generalize v0.setCell ⟨S, 0, none⟩ (.int .i64 n1) = v1 at *
    have c2 := HBD1.out.cell 2
    simp only [List.getElem?_toArray, List.getElem?_cons_zero, List.getElem?_cons_succ] at c2
    have hltd := HBD1.out.lt
    have d0 := Blk.cell hbs1 0
    have d1 := Blk.cell hbs1 1
    have d2 := Blk.cell hbs1 2
    have d3 := Blk.cell hbs1 3
    have d4 := Blk.cell hbs1 4
    simp only [List.getElem?_toArray, List.getElem?_cons_zero, List.getElem?_cons_succ] at d0 d1 d2 d3 d4
    have f0 := Blk.free hbs1 0
    have f1 := Blk.free hbs1 1
    have f2 := Blk.free hbs1 2
    have f3 := Blk.free hbs1 3
    have f4 := Blk.free hbs1 4
    have hlts := Blk.lt hbs1
    refine wp_region_ext_tail 9 (by kernel_rfl) (by kernel_rfl) ?_
    simp only [List.take_succ_cons, List.take_zero, List.drop_succ_cons, List.drop_zero]
    repeat (go_big_quiet_step (exact Calls.ext_of_same (L2.out _)))
    refine wpQuiet_nil ?_
    intro we hxe
    have HBD2 := Lib.hid (HBD1.out.mod hxe (fun f => f))
    have HBR2 := Lib.hid (HBR1.out.mod hxe (fun f => f))
    have hx2 := hx1.ext_trans hxe
    clear HBD1 HBR1 c2 hltd d0 d1 d2 d3 d4 f0 f1 f2 f3 f4 hlts hx1
    have hb1 := hbs1.mod hxe (fun f => f)
    clear hbs1
    have d0 := Blk.cell hb1 0
    have d1 := Blk.cell hb1 1
    have d2 := Blk.cell hb1 2
    have d3 := Blk.cell hb1 3
    have d4 := Blk.cell hb1 4
    simp only [List.getElem?_toArray, List.getElem?_cons_zero, List.getElem?_cons_succ] at d0 d1 d2 d3 d4
    have f0 := Blk.free hb1 0
    have f1 := Blk.free hb1 1
    have f2 := Blk.free hb1 2
    have f3 := Blk.free hb1 3
    have f4 := Blk.free hb1 4
    have hlts := Blk.lt hb1
    have c3 := HBD2.out.cell 3
    simp only [List.getElem?_toArray, List.getElem?_cons_zero, List.getElem?_cons_succ] at c3
    have hltd := HBD2.out.lt
    go_wp2_with fail
    have hbs2 : Blk (we.setCell ⟨S, 1, none⟩ (.int .i64 ((n1 : Int) + n2))) S 33 #[.int .i64 n1, .int .i64 ((n1 : Int) + n2), .bool xp, .bool xq, .int .i64 xc] := hb1.set 1 _
    have hm2 : Mod (· = S) we (we.setCell ⟨S, 1, none⟩ (.int .i64 ((n1 : Int) + n2))) := (Mod.refl (· = S) we).setCell (p := ⟨S, 1, none⟩) (fun _ => rfl) _
    have HBR3 := Lib.hid (HBR2.out.mod hm2 n2s)
    have hx3 := hx2.trans hm2 (fun i hi e => by omega)
    clear HBD2 HBR2 hx2 hm2 hb1 c3 d0 d1 d2 d3 d4 f0 f1 f2 f3 f4 hlts hltd
    generalize we.setCell ⟨S, 1, none⟩ (.int .i64 ((n1 : Int) + n2)) = v2 at *
    refine (L3.out _).mono ?_
    rintro e v3 ⟨rfl, rfl⟩
    have d0 := Blk.cell hbs2 0
    have d1 := Blk.cell hbs2 1
    have d2 := Blk.cell hbs2 2
    have d3 := Blk.cell hbs2 3
    have d4 := Blk.cell hbs2 4
    simp only [List.getElem?_toArray, List.getElem?_cons_zero, List.getElem?_cons_succ] at d0 d1 d2 d3 d4
    have f0 := Blk.free hbs2 0
    have f1 := Blk.free hbs2 1
    have f2 := Blk.free hbs2 2
    have f3 := Blk.free hbs2 3
    have f4 := Blk.free hbs2 4
    have hlts := Blk.lt hbs2
    have e0 := Blk.cell HBR3.out 0
    have e1 := Blk.cell HBR3.out 1
    have e2 := Blk.cell HBR3.out 2
    have e3 := Blk.cell HBR3.out 3
    have e4 := Blk.cell HBR3.out 4
    simp only [List.getElem?_toArray, List.getElem?_cons_zero, List.getElem?_cons_succ] at e0 e1 e2 e3 e4
    have g0 := Blk.free HBR3.out 0
    have g1 := Blk.free HBR3.out 1
    have g2 := Blk.free HBR3.out 2
    have g3 := Blk.free HBR3.out 3
    have g4 := Blk.free HBR3.out 4
    have hltr2 := Blk.lt HBR3.out
    go_wp2_with fail
    have hm3 : Mod (· = S) v3 (v3.setCell ⟨S, 4, none⟩ (.int .i64 n3)) := (Mod.refl (· = S) v3).setCell (p := ⟨S, 4, none⟩) (fun _ => rfl) _
    have hb3 := HBR3.out.mod hm3 n2s
    have hx4 := hx3.trans hm3 (fun i hi e => by omega)
    have hres := ((((hb3.set 0 (.int .i64 n1)).set 1 (.int .i64 ((n1 : Int) + n2))).set 2 (.bool xp)).set 3 (.bool xq)).set 4 (.int .i64 n3)
    refine bodyPost_ret (results_cell_row rfl _ _ (w.heap.size + 1) _ #[.int .i64 n1, .int .i64 ((n1 : Int) + n2), .bool xp, .bool xq, .int .i64 n3] (0, 0) _ rfl hres Try.underlying33 rfl rangeSize) rfl ?_
    exact ⟨by simp only [Int.natCast_add], ((((hx4.setCell (by simp) _).setCell (by simp) _).setCell (by simp) _).setCell (by simp) _).setCell (by simp) _⟩
  · have hc' : ¬ (n4 : Int) < 14 := by omega
    have hR := HR.out
    rw [if_neg hc] at hR
    subst hR
    clear HR
    go_wp2_with fail
    have hres := ((((HBR.out.set 0 (.int .i64 xa)).set 1 (.int .i64 xb)).set 2 (.bool xp)).set 3 (.bool xq)).set 4 (.int .i64 xc)
    refine bodyPost_ret (results_cell_row rfl _ _ (w.heap.size + 1) _ #[.int .i64 xa, .int .i64 xb, .bool xp, .bool xq, .int .i64 xc] (0, 0) _ rfl hres Try.underlying33 rfl rangeSize) rfl ?_
    exact ⟨rfl, ((((hx.setCell (by simp) _).setCell (by simp) _).setCell (by simp) _).setCell (by simp) _).setCell (by simp) _⟩
end Go.Proofs.Ytffplppglicibaa

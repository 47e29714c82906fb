/- The document's table of ranges: Add, Pose. Conditions: a table that may be. -/
import Derived.Test.YthlmgoagnfkhdaaGreatGimG35
import Derived.Test.YthlmgoagnfkhdaaGreatGimG36
import Derived.Test.YthlmgoagnfkhdaaGreatGimG05
set_option maxHeartbeats 6400000
set_option maxRecDepth 1000000
set_option linter.unusedVariables false
set_option linter.unusedSimpArgs false
namespace Go.Proofs.YthlmgoagnfkhdaaGreat
open Go.RowKit Go.Gim
theorem Tryz.info66 : (Tryz.prog.info? 66).map (fun i => (i.zero, i.size, i.bytes)) = some (some (.agg #[.int .i64 0, .int .i64 0, .bool false, .bool false, .int .i64 0]), 5, 32) := by kernel_rfl
theorem idsR_len (L : Tb) : (idsR L).length = L.length := by simp [idsR]
theorem RefAt.whereAt {w : World} {B ub : Nat} {v1 v2 : Value} {L : Tb} {last : Int} (h : RefAt w B ub v1 v2 L last) (hn : L.length ≤ 256) {id R : Int} (hR : WhereI (idsR L) id R) :
  Calls Tryz.prog 97 #[.pointer (some ⟨ub, 0, none⟩), .int .i64 id] w fun e w' => e = .returned (.int .i64 R) ∧ w' = w := by
 obtain ⟨a1, c1, hv1, hr1⟩ := h.rdI
 have hb := h.blk
 rw [hv1, ← idsR_len L] at hb
 rw [← idsR_len L] at hr1
 exact rat_any (idsR L) id R hR ub a1 c1 v2 _ w hb hr1 (by rw [idsR_len]; omega)
def RnPost (B ub : Nat) (d : Dn) (w : World) (e : Ending) (w' : World) : Prop :=
 e = .returned (.tuple #[.int .i64 d.n, .int .i64 d.e]) ∧ (∃ v1 v2, RefAt w' B ub v1 v2 d.L d.last) ∧ Mod (RefS B w) w w'
def RcPost (B ub : Nat) (d : Dn) (w : World) (e : Ending) (w' : World) : Prop :=
 e = .returned (.int .i64 d.e) ∧ d.n = 0 ∧ (∃ v1 v2, RefAt w' B ub v1 v2 d.L d.last) ∧ Mod (RefS B w) w w'
theorem radd_no {B ub : Nat} {v1 v2 : Value} {L : Tb} {last : Int} {r : Rg} {w w' : World} {c : Int} (he : addE L r ≠ 0) (hc : addE L r = c) (h : RefAt w' B ub v1 v2 L last) (hx : Ext w w') :
  RnPost B ub (addD L last r) w (.returned (.tuple #[.int .i64 0, .int .i64 c])) w' := by
 unfold addD
 rw [if_neg he, hc]
 exact ⟨rfl, ⟨v1, v2, h⟩, hx.any⟩
theorem radd_yes {B ub : Nat} {v1 v2 : Value} {L : Tb} {last : Int} {r : Rg} {w w' : World} (he : addE L r = 0) (hb : Blk w' ub 86 #[v1, v2, .int .i64 (last + 1)]) (hB : B ≤ ub)
  (h1 : w'.ownsRow B 3 1 v1 (L.length + 1) (inE.cells (idsR L) ++ [.int .i64 (last + 1)])) (h2 : w'.ownsRow B 66 5 v2 (L.length + 1) (rgE.cells (L.map (·.2)) ++ [.int .i64 r.a, .int .i64 r.b, .bool r.p, .bool r.q, .int .i64 r.u])) (hm : Mod (RefS B w) w w') :
  RnPost B ub (addD L last r) w (.returned (.tuple #[.int .i64 (last + 1), .int .i64 0])) w' := by
 unfold addD
 rw [if_pos he]
 refine ⟨rfl, ⟨v1, v2, hb, hB, ?_, ?_⟩, hm⟩
 ·show w'.ownsRow B _ 1 v1 (L ++ [(last + 1, r)]).length (inE.cells (idsR (L ++ [(last + 1, r)])))
  rw [List.length_append, List.length_singleton]
  unfold idsR at h1 ⊢
  rw [List.map_append, inE.cells_append]
  exact h1
 ·show w'.ownsRow B _ 5 v2 (L ++ [(last + 1, r)]).length (rgE.cells ((L ++ [(last + 1, r)]).map (·.2)))
  rw [List.length_append, List.length_singleton, List.map_append, rgE.cells_append]
  exact h2
theorem radd_any (B ub : Nat) (v1 v2 : Value) (L : Tb) (last Bd : Int) (r : Rg) (w : World) (h : RefAt w B ub v1 v2 L last) (hB : B ≤ w.heap.size) (hT : Tok L last Bd) :
  Calls Tryz.prog 66 #[.pointer (some ⟨ub, 0, none⟩), .agg #[.int .i64 r.a, .int .i64 r.b, .bool r.p, .bool r.q, .int .i64 r.u]] w (RnPost B ub (addD L last r) w) := by
 have hl1 : maxLen = 9223372036854775807 := rfl
 have hn := hT.len
 have hl0 := hT.last0
 have hmay := fun w' => rfMay_any (r.a, r.b) 65536 w'
 obtain ⟨ra, rb, rp, rq, ru⟩ := r
 simp only at hmay ⊢
 have HM := Lib.hid hmay
 obtain ⟨a1, c1, hv1, hr1⟩ := h.rdI
 obtain ⟨a2, c2, hv2, hr2⟩ := h.rdR
 have HT := Lib.hid hT
 obtain ⟨N, hN⟩ : ∃ N, N = L.length := ⟨_, rfl⟩
 have HN := Lib.hid hN
 subst hv1 hv2
 have H := Lib.hid h
 rw [← hN] at hn H
 obtain ⟨u, hu'⟩ : ∃ u, u = w.alloc (.cells #[.int .i64 ra, .int .i64 rb, .bool rp, .bool rq, .int .i64 ru] 66) := ⟨_, rfl⟩
 have hxu : Ext w u := by rw [hu']; exact (Mod.refl _ w).alloc _
 have hbu : Blk u w.heap.size 66 #[.int .i64 ra, .int .i64 rb, .bool rp, .bool rq, .int .i64 ru] := by rw [hu']; exact Blk.new _ _ _
 have Hbu := Lib.hid hbu
 clear h hmay hT hr1 hr2 hN
 have d0 := Blk.cell hbu 0
 have d1 := Blk.cell hbu 1
 have d2 := Blk.cell hbu 2
 have d3 := Blk.cell hbu 3
 have d4 := Blk.cell hbu 4
 simp only [List.getElem?_toArray, List.getElem?_cons_zero, List.getElem?_cons_succ] at d0 d1 d2 d3 d4
 have f0 := Blk.free hbu 0
 have f1 := Blk.free hbu 1
 have f2 := Blk.free hbu 2
 have f3 := Blk.free hbu 3
 have f4 := Blk.free hbu 4
 have hlt2 := Blk.lt hbu
 go_enter Tryz.func66, Tryz.ntmps66
 go_upto_region 1 with fail
 rw [← hu']
 clear hu' hbu
 go_wp2_with fail
 refine (HM.out u).mono ?_
 rintro e v ⟨rfl, hxv⟩
 have hx2 := hxu.ext_trans hxv
 have hb2 := Hbu.out.mod hxv (fun f => f)
 clear d0 d1 d2 d3 d4 f0 f1 f2 f3 f4 hlt2 HM
 cases hm : mayS (ra, rb) 65536 with
 | false =>
  have HE := Lib.hid (addE_may (L := L) (r := ⟨ra, rb, rp, rq, ru⟩) hm)
  go_wp2_with fail
  go_ret2
  exact radd_no (by rw [HE.out]; decide) HE.out (H.out.ext hx2) hx2
 | true =>
  by_cases hz : ru = 0
  ·have HE := Lib.hid (addE_top (L := L) (r := ⟨ra, rb, rp, rq, ru⟩) hm hz)
   have d0 := Blk.cell hb2 0
   have d1 := Blk.cell hb2 1
   have d2 := Blk.cell hb2 2
   have d3 := Blk.cell hb2 3
   have d4 := Blk.cell hb2 4
   simp only [List.getElem?_toArray, List.getElem?_cons_zero, List.getElem?_cons_succ] at d0 d1 d2 d3 d4
   have f0 := Blk.free hb2 0
   have f1 := Blk.free hb2 1
   have f2 := Blk.free hb2 2
   have f3 := Blk.free hb2 3
   have f4 := Blk.free hb2 4
   have hlt2 := Blk.lt hb2
   have z1 : (ru != 0) = false := by simpa using hz
   go_upto_region 9 with fail
   clear d0 d1 d2 d3 d4 f0 f1 f2 f3 f4 hlt2 z1
   subst hz
   have h2 := H.out.ext hx2
   have hbU := h2.blk
   have d0 := hbU.cell 0
   have d2 := hbU.cell 2
   simp only [List.getElem?_toArray, List.getElem?_cons_zero, List.getElem?_cons_succ] at d0 d2
   have f2 := hbU.free 2
   have hlb := hbU.lt
   by_cases hfull : 256 ≤ N
   ·have hfull' : (256 : Int) ≤ (N : Int) := by omega
    have HE7 := Lib.hid (show addE L ⟨ra, rb, rp, rq, 0⟩ = 7 by rw [HE.out, ← HN.out, if_pos hfull])
    have Hh2 := Lib.hid h2
    clear h2 hbU hfull
    go_wp2_with fail
    go_ret2
    exact radd_no (by rw [HE7.out]; decide) (by rw [HE7.out]) Hh2.out (hx2)
   ·have hfull' : ¬ (256 : Int) ≤ (N : Int) := by omega
    have HE0 := Lib.hid (show addE L ⟨ra, rb, rp, rq, 0⟩ = 0 by rw [HE.out, ← HN.out, if_neg hfull])
    have Hh2 := Lib.hid h2
    have Hu1 := Lib.hid (show ub ≠ w.heap.size by have := H.out.blk.lt; omega)
    clear h2 HE
    go_upto_region 12 with fail
    obtain ⟨wa, hwa⟩ : ∃ wa, wa = World.setCell v ⟨ub, 2, none⟩ (.int .i64 (last + 1)) := ⟨_, rfl⟩
    have hma : Mod (· = ub) v wa := by rw [hwa]; exact (Mod.refl (· = ub) _).setCell (fun _ => rfl) _
    have hba : Blk wa ub 86 #[.slice a1 N c1, .slice a2 N c2, .int .i64 (last + 1)] := by rw [hwa]; exact hbU.set 2 _
    have HBa := Lib.hid ((hb2).mod hma (fun e => Hu1.out e.symm))
    rw [← hwa]
    clear hwa d0 d2 f2 hlb hbU
    have HIa := Lib.hid (ownsRow_mod Hh2.out.is hma (own_type Hh2.out.is Hh2.out.blk (by decide)))
    have HRa := Lib.hid (ownsRow_mod Hh2.out.rs hma (own_type Hh2.out.rs Hh2.out.blk (by decide)))
    have Hma := Lib.hid hma
    clear hma
    have d0 := hba.cell 0
    have d2 := hba.cell 2
    simp only [List.getElem?_toArray, List.getElem?_cons_zero, List.getElem?_cons_succ] at d0 d2
    have hlb := hba.lt
    have HS := Lib.hid (fun w' (h' : Mod (fun k => (Value.slice a1 N c1).ownBlock = some k) wa w') => (⟨(h'.cell hba.lt (fun e => own_type HIa.out hba (by decide) _ e rfl)).trans d0, (h'.cell hba.lt (fun e => own_type HIa.out hba (by decide) _ e rfl)).trans d2, trivial, trivial⟩ : w'.cell? ⟨ub, 0, none⟩ = some (.slice a1 N c1) ∧ w'.cell? ⟨ub, 2, none⟩ = some (.int .i64 (last + 1)) ∧ True ∧ True))
    have hBw : B ≤ wa.heap.size := by have := (hx2).size; have := Hma.out.size; omega
    clear d0 d2
    refine wp_region_M (fun k => (Value.slice a1 N c1).ownBlock = some k) (by kernel_rfl) ?_
    refine wpM_take 0 45 (v := ?_) rfl rfl (by kernel_rfl) (by kernel_rfl) (by kernel_rfl) (by kernel_rfl) (fun _ _ _ h => h) (by first | exact mod_draw _ | assumption) rfl ?_ ?_
    rotate_left
    ·intro w' hw'
     refine qat_value ?_
     go_simp
     rfl
    simp only [fr1, fr2, fr3, fr4]
    refine wpM_take 1 46 (v := ?_) rfl rfl (by kernel_rfl) (by kernel_rfl) (by kernel_rfl) (by kernel_rfl) (fun _ _ _ h => h) (by first | exact mod_draw _ | assumption) rfl ?_ ?_
    rotate_left
    ·intro w' hw'
     refine qat_value ?_
     go_simp
     rfl
    simp only [fr1, fr2, fr3, fr4]
    refine wpM_take 2 47 (v := ?_) rfl rfl (by kernel_rfl) (by kernel_rfl) (by kernel_rfl) (by kernel_rfl) (fun _ _ _ h => h) (by first | exact mod_draw _ | assumption) rfl ?_ ?_
    rotate_left
    ·intro w' hw'
     refine qat_value ?_
     go_simp
     rfl
    simp only [fr1, fr2, fr3, fr4]
    refine wpM_take 3 48 (v := ?_) rfl rfl (by kernel_rfl) (by kernel_rfl) (by kernel_rfl) (by kernel_rfl) (fun _ _ _ h => h) (by first | exact mod_draw _ | assumption) rfl ?_ ?_
    rotate_left
    ·intro w' hw'
     refine qat_value ?_
     go_simp
     rfl
    simp only [fr1, fr2, fr3, fr4]
    refine wpM_take 4 49 (v := ?_) rfl rfl (by kernel_rfl) (by kernel_rfl) (by kernel_rfl) (by kernel_rfl) (fun _ _ _ h => h) (by first | exact mod_draw _ | assumption) rfl ?_ ?_
    rotate_left
    ·intro w' hw'
     obtain ⟨r0, r1, r2, r3⟩ := HS.out w' hw'
     refine qat_value ?_
     go_simp
     rfl
    simp only [fr1, fr2, fr3, fr4]
    refine wpM_take 5 50 (v := ?_) rfl rfl (by kernel_rfl) (by kernel_rfl) (by kernel_rfl) (by kernel_rfl) (fun _ _ _ h => h) (by first | exact mod_draw _ | assumption) rfl ?_ ?_
    rotate_left
    ·intro w' hw'
     refine qat_value ?_
     go_simp
     rfl
    simp only [fr1, fr2, fr3, fr4]
    refine wpM_take 6 51 (v := ?_) rfl rfl (by kernel_rfl) (by kernel_rfl) (by kernel_rfl) (by kernel_rfl) (fun _ _ _ h => h) (by first | exact mod_draw _ | assumption) rfl ?_ ?_
    rotate_left
    ·intro w' hw'
     refine qat_value ?_
     go_simp
     rfl
    simp only [fr1, fr2, fr3, fr4]
    refine wpM_take 7 52 (v := ?_) rfl rfl (by kernel_rfl) (by kernel_rfl) (by kernel_rfl) (by kernel_rfl) (fun _ _ _ h => h) (by first | exact mod_draw _ | assumption) rfl ?_ ?_
    rotate_left
    ·intro w' hw'
     refine qat_value ?_
     go_simp
     rfl
    simp only [fr1, fr2, fr3, fr4]
    refine wpM_take 8 53 (v := ?_) rfl rfl (by kernel_rfl) (by kernel_rfl) (by kernel_rfl) (by kernel_rfl) (fun _ _ _ h => h) (by first | exact mod_draw _ | assumption) rfl ?_ ?_
    rotate_left
    ·intro w' hw'
     obtain ⟨r0, r1, r2, r3⟩ := HS.out w' hw'
     refine qat_value ?_
     go_simp
     rfl
    simp only [fr1, fr2, fr3, fr4]
    refine wpM_one 9 54 rfl rfl (by kernel_rfl) rfl fun wb hwb => ?_
    have hmb : Ext wa wb := (ext_draw wa).ext_trans hwb
    refine ⟨.slice (some ⟨wb.heap.size, 0, none⟩) 1 1, wb.alloc (.cells #[.int .i64 (last + 1)] 3), by go_simp, .inr ((hmb.alloc _).any), ?_⟩
    simp only [fr1, fr2, fr3, fr4]
    refine wpM_append 10 55 rfl rfl (by kernel_rfl) rfl _ _ 52 rfl B 3 _ 1 8 Tryz.info3 Tryz.underlying52 rfl (by decide) (.slice a1 N c1) L.length (inE.cells (idsR L)) rfl (some ⟨wb.heap.size, 0, none⟩) 1 1 [.int .i64 (last + 1)] rfl (inE.one (last + 1)) (by have := HN.out; omega) (by have := HN.out; omega) (by have := hmb.size; simp; omega) (ownsRow_mod HIa.out (hmb.alloc _) (fun _ _ f => f)) (by simpa using Reads.new wb 3 #[.int .i64 (last + 1)] 1 1 rfl) ((hmb.alloc _).any) (fun _ e _ => e) ?_
    intro wc v1' wd hwc hown1 hmd hk1
    simp only [fr1, fr2, fr3, fr4]
    have hmd' : Mod (fun k => (Value.slice a1 N c1).ownBlock = some k) wa wd := (((hmb.alloc _).ext_trans hwc).any).trans hmd (fun _ _ e => e)
    have hbd := hba.mod hmd' (fun e => own_type HIa.out hba (by decide) _ e rfl)
    have HRd := Lib.hid (ownsRow_mod HRa.out hmd' (fun k hk e => own_apart HRa.out HIa.out (by decide) k hk e))
    have HBd := Lib.hid (HBa.out.mod hmd' (fun e => own_type HIa.out HBa.out (by decide) _ e rfl))
    obtain ⟨a9, c9, hv9, _, _⟩ := ownsRow_shape hown1
    subst hv9
    have Hown1 := Lib.hid hown1
    clear hown1 hk1
    refine wpM_one 11 56 rfl rfl (by kernel_rfl) rfl fun we1 he1 => ?_
    refine ⟨.pointer (some ⟨ub, 0, none⟩), we1, by go_simp, .inr (hmd'.then he1), ?_⟩
    simp only [fr1, fr2, fr3, fr4]
    refine wpM_one 12 57 rfl rfl (by kernel_rfl) rfl fun we2 he2 => ?_
    refine ⟨.pointer (some ⟨ub, 0, none⟩), we2, by go_simp, .inr ((hmd'.then he1).then he2), ?_⟩
    simp only [fr1, fr2, fr3, fr4]
    refine wpM_put 13 rfl rfl (by kernel_rfl) rfl fun wf hwf0 => ?_
    have hwf : Ext wd wf := (he1.ext_trans he2).ext_trans hwf0
    clear he1 he2 hwf0
    have hbf := hbd.mod hwf (fun f => f)
    have hff := hbf.free 0
    have hcf := hbf.cell 0
    simp only [List.setIfInBounds_toArray, List.set_cons_zero, List.set_cons_succ, List.getElem?_toArray, List.getElem?_cons_zero, List.getElem?_cons_succ] at hcf
    have hlf := hbf.lt
    refine ⟨wf.setCell ⟨ub, 0, none⟩ (.slice a9 (L.length + 1) c9), by go_simp, .inl rfl, ?_⟩
    refine wpM_done (by kernel_rfl) (fun wg hwg => ?_) _
    have hbg := (hbf.set 0 (.slice a9 (L.length + 1) c9)).mod hwg (fun f => f)
    have hsf : Mod (· = ub) wf (wf.setCell ⟨ub, 0, none⟩ (.slice a9 (L.length + 1) c9)) := (Mod.refl (· = ub) wf).setCell (fun _ => rfl) _
    have HIf := ownsRow_mod Hown1.out hwf (fun _ _ f => f)
    have HRf := ownsRow_mod HRd.out hwf (fun _ _ f => f)
    have HIg := Lib.hid (ownsRow_mod (ownsRow_mod HIf hsf (fun k hk e => own_type HIf hbf (by decide) k hk e)) hwg (fun _ _ f => f))
    have HRg := Lib.hid (ownsRow_mod (ownsRow_mod HRf hsf (fun k hk e => own_type HRf hbf (by decide) k hk e)) hwg (fun _ _ f => f))
    have HBg := Lib.hid (((HBd.out.mod hwf (fun f => f)).mod hsf (fun e => Hu1.out e.symm)).mod hwg (fun f => f))
    have HMg := Lib.hid (RefS.trans (RefS.trans (RefS.trans (RefS.trans (RefS.trans (Mod.any (S := RefS B w) (hx2)) (refs_blk Hh2.out.blk (.inr (.inr rfl)) H.out.base Hma.out)) (refs_own HIa.out (.inl rfl) (Nat.le_refl _) hmd')) (Mod.any (S := RefS B wd) hwf)) (refs_blk hbf (.inr (.inr rfl)) H.out.base hsf)) (Mod.any (S := RefS B _) hwg))
    have hBg : B ≤ wg.heap.size := by have := hwg.size; have := hsf.size; have := hwf.size; have := hmd'.size; omega
    clear HIf HRf HBd HRd Hown1 hbf hff hcf hlf hwf hmd hwc hmb hwb hbd hmd' hba HIa HRa HBa HS hlb hBw hwg hsf
    go_upto_region 13 with fail
    have d1 := hbg.cell 1
    simp only [List.setIfInBounds_toArray, List.set_cons_zero, List.getElem?_toArray, List.getElem?_cons_zero, List.getElem?_cons_succ] at d1
    have HS := Lib.hid (fun w' (h' : Mod (fun k => (Value.slice a2 N c2).ownBlock = some k) wg w') => (⟨(h'.cell hbg.lt (fun e => own_type HRg.out hbg (by decide) _ e rfl)).trans d1,
      (h'.cell HBg.out.lt (fun e => Nat.lt_irrefl _ (H.out.rs.lt _ e).2)).trans (HBg.out.cell 0), (h'.cell HBg.out.lt (fun e => Nat.lt_irrefl _ (H.out.rs.lt _ e).2)).trans (HBg.out.cell 1),
      (h'.cell HBg.out.lt (fun e => Nat.lt_irrefl _ (H.out.rs.lt _ e).2)).trans (HBg.out.cell 2), (h'.cell HBg.out.lt (fun e => Nat.lt_irrefl _ (H.out.rs.lt _ e).2)).trans (HBg.out.cell 3), (h'.cell HBg.out.lt (fun e => Nat.lt_irrefl _ (H.out.rs.lt _ e).2)).trans (HBg.out.cell 4)⟩ :
     w'.cell? ⟨ub, 1, none⟩ = some (.slice a2 N c2) ∧ w'.cell? ⟨w.heap.size, 0, none⟩ = some (.int .i64 ra) ∧ w'.cell? ⟨w.heap.size, 1, none⟩ = some (.int .i64 rb) ∧ w'.cell? ⟨w.heap.size, 2, none⟩ = some (.bool rp) ∧ w'.cell? ⟨w.heap.size, 3, none⟩ = some (.bool rq) ∧ w'.cell? ⟨w.heap.size, 4, none⟩ = some (.int .i64 0)))
    clear d1
    refine wp_region_M (fun k => (Value.slice a2 N c2).ownBlock = some k) (by kernel_rfl) ?_
    refine wpM_take 0 58 (v := ?_) rfl rfl (by kernel_rfl) (by kernel_rfl) (by kernel_rfl) (by kernel_rfl) (fun _ _ _ h => h) (by first | exact mod_draw _ | assumption) rfl ?_ ?_
    rotate_left
    ·intro w' hw'
     refine qat_value ?_
     go_simp
     rfl
    simp only [fr1, fr2, fr3, fr4]
    refine wpM_take 1 59 (v := ?_) rfl rfl (by kernel_rfl) (by kernel_rfl) (by kernel_rfl) (by kernel_rfl) (fun _ _ _ h => h) (by first | exact mod_draw _ | assumption) rfl ?_ ?_
    rotate_left
    ·intro w' hw'
     refine qat_value ?_
     go_simp
     rfl
    simp only [fr1, fr2, fr3, fr4]
    refine wpM_take 2 60 (v := ?_) rfl rfl (by kernel_rfl) (by kernel_rfl) (by kernel_rfl) (by kernel_rfl) (fun _ _ _ h => h) (by first | exact mod_draw _ | assumption) rfl ?_ ?_
    rotate_left
    ·intro w' hw'
     refine qat_value ?_
     go_simp
     rfl
    simp only [fr1, fr2, fr3, fr4]
    refine wpM_take 3 61 (v := ?_) rfl rfl (by kernel_rfl) (by kernel_rfl) (by kernel_rfl) (by kernel_rfl) (fun _ _ _ h => h) (by first | exact mod_draw _ | assumption) rfl ?_ ?_
    rotate_left
    ·intro w' hw'
     refine qat_value ?_
     go_simp
     rfl
    simp only [fr1, fr2, fr3, fr4]
    refine wpM_take 4 62 (v := ?_) rfl rfl (by kernel_rfl) (by kernel_rfl) (by kernel_rfl) (by kernel_rfl) (fun _ _ _ h => h) (by first | exact mod_draw _ | assumption) rfl ?_ ?_
    rotate_left
    ·intro w' hw'
     obtain ⟨r0, r1, r2, r3, r4, r5⟩ := HS.out w' hw'
     refine qat_value ?_
     go_simp
     rfl
    simp only [fr1, fr2, fr3, fr4]
    refine wpM_take 5 63 (v := ?_) rfl rfl (by kernel_rfl) (by kernel_rfl) (by kernel_rfl) (by kernel_rfl) (fun _ _ _ h => h) (by first | exact mod_draw _ | assumption) rfl ?_ ?_
    rotate_left
    ·intro w' hw'
     obtain ⟨r0, r1, r2, r3, r4, r5⟩ := HS.out w' hw'
     refine qat_value ?_
     go_simp
     rfl
    simp only [fr1, fr2, fr3, fr4]
    refine wpM_one 6 64 rfl rfl (by kernel_rfl) rfl fun wb hwb => ?_
    have hmb : Ext wg wb := (ext_draw wg).ext_trans hwb
    refine ⟨.slice (some ⟨wb.heap.size, 0, none⟩) 1 1, wb.alloc (.cells #[.int .i64 ra, .int .i64 rb, .bool rp, .bool rq, .int .i64 0] 66), by go_simp, .inr ((hmb.alloc _).any), ?_⟩
    simp only [fr1, fr2, fr3, fr4]
    refine wpM_append 7 65 rfl rfl (by kernel_rfl) rfl _ _ 84 rfl B 66 _ 5 32 Tryz.info66 Tryz.underlying84 rfl (by decide) (.slice a2 N c2) L.length (rgE.cells (L.map (·.2))) rfl (some ⟨wb.heap.size, 0, none⟩) 1 1 [.int .i64 ra, .int .i64 rb, .bool rp, .bool rq, .int .i64 0] rfl (rgE.one ⟨ra, rb, rp, rq, 0⟩) (by have := HN.out; omega) (by have := HN.out; omega) (by have := hmb.size; simp; omega) (ownsRow_mod HRg.out (hmb.alloc _) (fun _ _ f => f)) (by simpa using Reads.new wb 66 #[.int .i64 ra, .int .i64 rb, .bool rp, .bool rq, .int .i64 0] 5 1 rfl) ((hmb.alloc _).any) (fun _ e _ => e) ?_
    intro wc v2' wd hwc hown2 hmd hk2
    simp only [fr1, fr2, fr3, fr4]
    have hmd' : Mod (fun k => (Value.slice a2 N c2).ownBlock = some k) wg wd := (((hmb.alloc _).ext_trans hwc).any).trans hmd (fun _ _ e => e)
    have hbd := hbg.mod hmd' (fun e => own_type HRg.out hbg (by decide) _ e rfl)
    have HId := Lib.hid (ownsRow_mod HIg.out hmd' (fun k hk e => own_apart HIg.out HRg.out (by decide) k hk e))
    obtain ⟨a8, c8, hv8, _, _⟩ := ownsRow_shape hown2
    subst hv8
    have Hown2 := Lib.hid hown2
    clear hown2 hk2
    refine wpM_one 8 66 rfl rfl (by kernel_rfl) rfl fun we1 he1 => ?_
    refine ⟨.pointer (some ⟨ub, 0, none⟩), we1, by go_simp, .inr (hmd'.then he1), ?_⟩
    simp only [fr1, fr2, fr3, fr4]
    refine wpM_one 9 67 rfl rfl (by kernel_rfl) rfl fun we2 he2 => ?_
    refine ⟨.pointer (some ⟨ub, 1, none⟩), we2, by go_simp, .inr ((hmd'.then he1).then he2), ?_⟩
    simp only [fr1, fr2, fr3, fr4]
    refine wpM_put 10 rfl rfl (by kernel_rfl) rfl fun wf hwf0 => ?_
    have hwf : Ext wd wf := (he1.ext_trans he2).ext_trans hwf0
    clear he1 he2 hwf0
    have hbf := hbd.mod hwf (fun f => f)
    have hff := hbf.free 1
    have hcf := hbf.cell 1
    simp only [List.setIfInBounds_toArray, List.set_cons_zero, List.set_cons_succ, List.getElem?_toArray, List.getElem?_cons_zero, List.getElem?_cons_succ] at hcf
    have hlf := hbf.lt
    refine ⟨wf.setCell ⟨ub, 1, none⟩ (.slice a8 (L.length + 1) c8), by go_simp, .inl rfl, ?_⟩
    refine wpM_done (by kernel_rfl) (fun wh hwh => ?_) _
    have hbh := (hbf.set 1 (.slice a8 (L.length + 1) c8)).mod hwh (fun f => f)
    have hsf : Mod (· = ub) wf (wf.setCell ⟨ub, 1, none⟩ (.slice a8 (L.length + 1) c8)) := (Mod.refl (· = ub) wf).setCell (fun _ => rfl) _
    have HIf := ownsRow_mod HId.out hwf (fun _ _ f => f)
    have HRf := ownsRow_mod Hown2.out hwf (fun _ _ f => f)
    have HIh := Lib.hid (ownsRow_mod (ownsRow_mod HIf hsf (fun k hk e => own_type HIf hbf (by decide) k hk e)) hwh (fun _ _ f => f))
    have HRh := Lib.hid (ownsRow_mod (ownsRow_mod HRf hsf (fun k hk e => own_type HRf hbf (by decide) k hk e)) hwh (fun _ _ f => f))
    have HMh := Lib.hid (RefS.trans (RefS.trans (RefS.trans (RefS.trans HMg.out (refs_own HRg.out (.inr (.inl rfl)) (Nat.le_refl _) hmd')) (Mod.any (S := RefS B wd) hwf)) (refs_blk hbf (.inr (.inr rfl)) H.out.base hsf)) (Mod.any (S := RefS B _) hwh))
    clear HIf HRf Hown2 hbf hff hcf hlf hwf hmd hwc hmb hwb hbd hmd' HIg HRg HBg HS hwh hsf HMg HId
    simp only [List.setIfInBounds_toArray, List.set_cons_zero, List.set_cons_succ] at hbh
    have d2 := hbh.cell 2
    simp only [List.getElem?_toArray, List.getElem?_cons_zero, List.getElem?_cons_succ] at d2
    have hlh := hbh.lt
    go_wp2_with fail
    go_ret2
    exact radd_yes HE0.out hbh H.out.base HIh.out HRh.out HMh.out
  ·have z1 : (ru != 0) = true := by simpa using hz
   have Hz := Lib.hid hz
   cases hgo : getR L ru with
   | none =>
    have HE := Lib.hid (addE_none (L := L) (r := ⟨ra, rb, rp, rq, ru⟩) hm hz hgo)
    have Hat := Lib.hid ((H.out.ext hx2).whereAt (by rw [← HN.out]; exact hn) (whereI_no hgo))
    have d0 := Blk.cell hb2 0
    have d1 := Blk.cell hb2 1
    have d2 := Blk.cell hb2 2
    have d3 := Blk.cell hb2 3
    have d4 := Blk.cell hb2 4
    simp only [List.getElem?_toArray, List.getElem?_cons_zero, List.getElem?_cons_succ] at d0 d1 d2 d3 d4
    have f0 := Blk.free hb2 0
    have f1 := Blk.free hb2 1
    have f2 := Blk.free hb2 2
    have f3 := Blk.free hb2 3
    have f4 := Blk.free hb2 4
    have hlt2 := Blk.lt hb2
    clear hz hgo
    go_wp2_with fail
    refine Hat.out.mono ?_
    rintro e v5 ⟨rfl, rfl⟩
    go_wp2_with fail
    go_ret2
    exact radd_no (by rw [HE.out]; decide) HE.out (H.out.ext hx2) hx2
   | some up =>
    obtain ⟨K, hK⟩ := getR_place hgo
    have hKl := (List.getElem?_eq_some_iff.1 hK).1
    have Hat := Lib.hid ((H.out.ext hx2).whereAt (by rw [← HN.out]; exact hn) (whereI_at HT.out.once hK))
    have hmk : (L.map (·.2))[K]? = some up := by rw [List.getElem?_map, hK]; rfl
    obtain ⟨gb, gc, hg2⟩ := Enc.owns_some (E := rgE) H.out.rs (by omega)
    injection hg2 with e1 e2 e3
    subst e1
    subst e3
    clear e2
    have h3 := H.out.ext hx2
    have h3r := h3.rs
    rw [HN.out] at h3r
    have hc0 := Enc.owns_cell (E := rgE) h3r hmk (j := 0) rfl
    have hc1 := Enc.owns_cell (E := rgE) h3r hmk (j := 1) rfl
    have hgl := (Enc.owns_block (E := rgE) h3r).2
    rw [show rgE.k = 5 from rfl] at hc0 hc1
    rw [Nat.add_zero] at hc0
    have hb1 := h3.blk.cell 1
    simp only [List.getElem?_toArray, List.getElem?_cons_zero, List.getElem?_cons_succ] at hb1
    have hlb := h3.blk.lt
    obtain ⟨ua, ub2, uc, ud, ue⟩ := up
    simp only at hc0 hc1 Hat
    have HW := Lib.hid (fun w' => rfWithin_any (ra, rb) (ua, ub2) w')
    have Hm := Lib.hid hm
    have HG := Lib.hid hgo
    have hKN : (K : Int) < (N : Int) := by have := HN.out; omega
    have hK0 : (0 : Int) ≤ (K : Int) := by omega
    have hKneg : ¬ (K : Int) < 0 := by omega
    have d0 := Blk.cell hb2 0
    have d1 := Blk.cell hb2 1
    have d2 := Blk.cell hb2 2
    have d3 := Blk.cell hb2 3
    have d4 := Blk.cell hb2 4
    simp only [List.getElem?_toArray, List.getElem?_cons_zero, List.getElem?_cons_succ] at d0 d1 d2 d3 d4
    have f0 := Blk.free hb2 0
    have f1 := Blk.free hb2 1
    have f2 := Blk.free hb2 2
    have f3 := Blk.free hb2 3
    have f4 := Blk.free hb2 4
    have hlt2 := Blk.lt hb2
    clear hz hgo hm hK hmk h3 h3r
    go_wp2_with fail
    refine Hat.out.mono ?_
    rintro e v5 ⟨rfl, rfl⟩
    go_upto_region 7 with fail
    cases hw : withinS (ra, rb) (ua, ub2) with
    | false =>
     rw [hw] at HW
     have HE := Lib.hid (addE_out (L := L) (r := ⟨ra, rb, rp, rq, ru⟩) Hm.out Hz.out HG.out hw)
     refine wp_region_ext_lit (by kernel_rfl) (by kernel_rfl) ?_
     repeat (go_big_quiet_step (exact Calls.ext_of (HW.out _)))
     refine wpQuiet_nil ?_
     intro we hxe
     have hx5 := hx2.ext_trans hxe
     clear d0 d1 d2 d3 d4 f0 f1 f2 f3 f4 hlt2 hb1 hlb hc0 hc1 hgl
     go_wp2_with fail
     go_ret2
     exact radd_no (by rw [HE.out]; decide) HE.out (H.out.ext hx5) hx5
    | true =>
     rw [hw] at HW
     have HE := Lib.hid (addE_in (L := L) (r := ⟨ra, rb, rp, rq, ru⟩) Hm.out Hz.out HG.out hw)
     refine wp_region_ext_lit (by kernel_rfl) (by kernel_rfl) ?_
     repeat (go_big_quiet_step (exact Calls.ext_of (HW.out _)))
     refine wpQuiet_nil ?_
     intro we hxe
     have hx5 := hx2.ext_trans hxe
     have hb5 := hb2.mod hxe (fun f => f)
     clear d0 d1 d2 d3 d4 f0 f1 f2 f3 f4 hlt2 hb1 hlb hc0 hc1 hgl z1 hb2 hx2 hxe
     obtain ⟨a2, ha2⟩ : ∃ a2 : Option Addr, a2 = some ⟨gb, 0, none⟩ := ⟨_, rfl⟩
     rw [← ha2] at H
     clear ha2
     have h2 := H.out.ext hx5
     have hbU := h2.blk
     have d0 := hbU.cell 0
     have d2 := hbU.cell 2
     simp only [List.getElem?_toArray, List.getElem?_cons_zero, List.getElem?_cons_succ] at d0 d2
     have f2 := hbU.free 2
     have hlb := hbU.lt
     by_cases hfull : 256 ≤ N
     ·have hfull' : (256 : Int) ≤ (N : Int) := by omega
      have HE7 := Lib.hid (show addE L ⟨ra, rb, rp, rq, ru⟩ = 7 by rw [HE.out, ← HN.out, if_pos hfull])
      have Hh2 := Lib.hid h2
      clear h2 hbU hfull
      go_wp2_with fail
      go_ret2
      exact radd_no (by rw [HE7.out]; decide) (by rw [HE7.out]) Hh2.out (hx5)
     ·have hfull' : ¬ (256 : Int) ≤ (N : Int) := by omega
      have HE0 := Lib.hid (show addE L ⟨ra, rb, rp, rq, ru⟩ = 0 by rw [HE.out, ← HN.out, if_neg hfull])
      have Hh2 := Lib.hid h2
      have Hu1 := Lib.hid (show ub ≠ w.heap.size by have := H.out.blk.lt; omega)
      clear h2 HE
      go_upto_region 12 with fail
      obtain ⟨wa, hwa⟩ : ∃ wa, wa = World.setCell we ⟨ub, 2, none⟩ (.int .i64 (last + 1)) := ⟨_, rfl⟩
      have hma : Mod (· = ub) we wa := by rw [hwa]; exact (Mod.refl (· = ub) _).setCell (fun _ => rfl) _
      have hba : Blk wa ub 86 #[.slice a1 N c1, .slice a2 N c2, .int .i64 (last + 1)] := by rw [hwa]; exact hbU.set 2 _
      have HBa := Lib.hid ((hb5).mod hma (fun e => Hu1.out e.symm))
      rw [← hwa]
      clear hwa d0 d2 f2 hlb hbU
      have HIa := Lib.hid (ownsRow_mod Hh2.out.is hma (own_type Hh2.out.is Hh2.out.blk (by decide)))
      have HRa := Lib.hid (ownsRow_mod Hh2.out.rs hma (own_type Hh2.out.rs Hh2.out.blk (by decide)))
      have Hma := Lib.hid hma
      clear hma
      have d0 := hba.cell 0
      have d2 := hba.cell 2
      simp only [List.getElem?_toArray, List.getElem?_cons_zero, List.getElem?_cons_succ] at d0 d2
      have hlb := hba.lt
      have HS := Lib.hid (fun w' (h' : Mod (fun k => (Value.slice a1 N c1).ownBlock = some k) wa w') => (⟨(h'.cell hba.lt (fun e => own_type HIa.out hba (by decide) _ e rfl)).trans d0, (h'.cell hba.lt (fun e => own_type HIa.out hba (by decide) _ e rfl)).trans d2, trivial, trivial⟩ : w'.cell? ⟨ub, 0, none⟩ = some (.slice a1 N c1) ∧ w'.cell? ⟨ub, 2, none⟩ = some (.int .i64 (last + 1)) ∧ True ∧ True))
      have hBw : B ≤ wa.heap.size := by have := (hx5).size; have := Hma.out.size; omega
      clear d0 d2
      refine wp_region_M (fun k => (Value.slice a1 N c1).ownBlock = some k) (by kernel_rfl) ?_
      refine wpM_take 0 45 (v := ?_) rfl rfl (by kernel_rfl) (by kernel_rfl) (by kernel_rfl) (by kernel_rfl) (fun _ _ _ h => h) (by first | exact mod_draw _ | assumption) rfl ?_ ?_
      rotate_left
      ·intro w' hw'
       refine qat_value ?_
       go_simp
       rfl
      simp only [fr1, fr2, fr3, fr4]
      refine wpM_take 1 46 (v := ?_) rfl rfl (by kernel_rfl) (by kernel_rfl) (by kernel_rfl) (by kernel_rfl) (fun _ _ _ h => h) (by first | exact mod_draw _ | assumption) rfl ?_ ?_
      rotate_left
      ·intro w' hw'
       refine qat_value ?_
       go_simp
       rfl
      simp only [fr1, fr2, fr3, fr4]
      refine wpM_take 2 47 (v := ?_) rfl rfl (by kernel_rfl) (by kernel_rfl) (by kernel_rfl) (by kernel_rfl) (fun _ _ _ h => h) (by first | exact mod_draw _ | assumption) rfl ?_ ?_
      rotate_left
      ·intro w' hw'
       refine qat_value ?_
       go_simp
       rfl
      simp only [fr1, fr2, fr3, fr4]
      refine wpM_take 3 48 (v := ?_) rfl rfl (by kernel_rfl) (by kernel_rfl) (by kernel_rfl) (by kernel_rfl) (fun _ _ _ h => h) (by first | exact mod_draw _ | assumption) rfl ?_ ?_
      rotate_left
      ·intro w' hw'
       refine qat_value ?_
       go_simp
       rfl
      simp only [fr1, fr2, fr3, fr4]
      refine wpM_take 4 49 (v := ?_) rfl rfl (by kernel_rfl) (by kernel_rfl) (by kernel_rfl) (by kernel_rfl) (fun _ _ _ h => h) (by first | exact mod_draw _ | assumption) rfl ?_ ?_
      rotate_left
      ·intro w' hw'
       obtain ⟨r0, r1, r2, r3⟩ := HS.out w' hw'
       refine qat_value ?_
       go_simp
       rfl
      simp only [fr1, fr2, fr3, fr4]
      refine wpM_take 5 50 (v := ?_) rfl rfl (by kernel_rfl) (by kernel_rfl) (by kernel_rfl) (by kernel_rfl) (fun _ _ _ h => h) (by first | exact mod_draw _ | assumption) rfl ?_ ?_
      rotate_left
      ·intro w' hw'
       refine qat_value ?_
       go_simp
       rfl
      simp only [fr1, fr2, fr3, fr4]
      refine wpM_take 6 51 (v := ?_) rfl rfl (by kernel_rfl) (by kernel_rfl) (by kernel_rfl) (by kernel_rfl) (fun _ _ _ h => h) (by first | exact mod_draw _ | assumption) rfl ?_ ?_
      rotate_left
      ·intro w' hw'
       refine qat_value ?_
       go_simp
       rfl
      simp only [fr1, fr2, fr3, fr4]
      refine wpM_take 7 52 (v := ?_) rfl rfl (by kernel_rfl) (by kernel_rfl) (by kernel_rfl) (by kernel_rfl) (fun _ _ _ h => h) (by first | exact mod_draw _ | assumption) rfl ?_ ?_
      rotate_left
      ·intro w' hw'
       refine qat_value ?_
       go_simp
       rfl
      simp only [fr1, fr2, fr3, fr4]
      refine wpM_take 8 53 (v := ?_) rfl rfl (by kernel_rfl) (by kernel_rfl) (by kernel_rfl) (by kernel_rfl) (fun _ _ _ h => h) (by first | exact mod_draw _ | assumption) rfl ?_ ?_
      rotate_left
      ·intro w' hw'
       obtain ⟨r0, r1, r2, r3⟩ := HS.out w' hw'
       refine qat_value ?_
       go_simp
       rfl
      simp only [fr1, fr2, fr3, fr4]
      refine wpM_one 9 54 rfl rfl (by kernel_rfl) rfl fun wb hwb => ?_
      have hmb : Ext wa wb := (ext_draw wa).ext_trans hwb
      refine ⟨.slice (some ⟨wb.heap.size, 0, none⟩) 1 1, wb.alloc (.cells #[.int .i64 (last + 1)] 3), by go_simp, .inr ((hmb.alloc _).any), ?_⟩
      simp only [fr1, fr2, fr3, fr4]
      refine wpM_append 10 55 rfl rfl (by kernel_rfl) rfl _ _ 52 rfl B 3 _ 1 8 Tryz.info3 Tryz.underlying52 rfl (by decide) (.slice a1 N c1) L.length (inE.cells (idsR L)) rfl (some ⟨wb.heap.size, 0, none⟩) 1 1 [.int .i64 (last + 1)] rfl (inE.one (last + 1)) (by have := HN.out; omega) (by have := HN.out; omega) (by have := hmb.size; simp; omega) (ownsRow_mod HIa.out (hmb.alloc _) (fun _ _ f => f)) (by simpa using Reads.new wb 3 #[.int .i64 (last + 1)] 1 1 rfl) ((hmb.alloc _).any) (fun _ e _ => e) ?_
      intro wc v1' wd hwc hown1 hmd hk1
      simp only [fr1, fr2, fr3, fr4]
      have hmd' : Mod (fun k => (Value.slice a1 N c1).ownBlock = some k) wa wd := (((hmb.alloc _).ext_trans hwc).any).trans hmd (fun _ _ e => e)
      have hbd := hba.mod hmd' (fun e => own_type HIa.out hba (by decide) _ e rfl)
      have HRd := Lib.hid (ownsRow_mod HRa.out hmd' (fun k hk e => own_apart HRa.out HIa.out (by decide) k hk e))
      have HBd := Lib.hid (HBa.out.mod hmd' (fun e => own_type HIa.out HBa.out (by decide) _ e rfl))
      obtain ⟨a9, c9, hv9, _, _⟩ := ownsRow_shape hown1
      subst hv9
      have Hown1 := Lib.hid hown1
      clear hown1 hk1
      refine wpM_one 11 56 rfl rfl (by kernel_rfl) rfl fun we1 he1 => ?_
      refine ⟨.pointer (some ⟨ub, 0, none⟩), we1, by go_simp, .inr (hmd'.then he1), ?_⟩
      simp only [fr1, fr2, fr3, fr4]
      refine wpM_one 12 57 rfl rfl (by kernel_rfl) rfl fun we2 he2 => ?_
      refine ⟨.pointer (some ⟨ub, 0, none⟩), we2, by go_simp, .inr ((hmd'.then he1).then he2), ?_⟩
      simp only [fr1, fr2, fr3, fr4]
      refine wpM_put 13 rfl rfl (by kernel_rfl) rfl fun wf hwf0 => ?_
      have hwf : Ext wd wf := (he1.ext_trans he2).ext_trans hwf0
      clear he1 he2 hwf0
      have hbf := hbd.mod hwf (fun f => f)
      have hff := hbf.free 0
      have hcf := hbf.cell 0
      simp only [List.setIfInBounds_toArray, List.set_cons_zero, List.set_cons_succ, List.getElem?_toArray, List.getElem?_cons_zero, List.getElem?_cons_succ] at hcf
      have hlf := hbf.lt
      refine ⟨wf.setCell ⟨ub, 0, none⟩ (.slice a9 (L.length + 1) c9), by go_simp, .inl rfl, ?_⟩
      refine wpM_done (by kernel_rfl) (fun wg hwg => ?_) _
      have hbg := (hbf.set 0 (.slice a9 (L.length + 1) c9)).mod hwg (fun f => f)
      have hsf : Mod (· = ub) wf (wf.setCell ⟨ub, 0, none⟩ (.slice a9 (L.length + 1) c9)) := (Mod.refl (· = ub) wf).setCell (fun _ => rfl) _
      have HIf := ownsRow_mod Hown1.out hwf (fun _ _ f => f)
      have HRf := ownsRow_mod HRd.out hwf (fun _ _ f => f)
      have HIg := Lib.hid (ownsRow_mod (ownsRow_mod HIf hsf (fun k hk e => own_type HIf hbf (by decide) k hk e)) hwg (fun _ _ f => f))
      have HRg := Lib.hid (ownsRow_mod (ownsRow_mod HRf hsf (fun k hk e => own_type HRf hbf (by decide) k hk e)) hwg (fun _ _ f => f))
      have HBg := Lib.hid (((HBd.out.mod hwf (fun f => f)).mod hsf (fun e => Hu1.out e.symm)).mod hwg (fun f => f))
      have HMg := Lib.hid (RefS.trans (RefS.trans (RefS.trans (RefS.trans (RefS.trans (Mod.any (S := RefS B w) (hx5)) (refs_blk Hh2.out.blk (.inr (.inr rfl)) H.out.base Hma.out)) (refs_own HIa.out (.inl rfl) (Nat.le_refl _) hmd')) (Mod.any (S := RefS B wd) hwf)) (refs_blk hbf (.inr (.inr rfl)) H.out.base hsf)) (Mod.any (S := RefS B _) hwg))
      have hBg : B ≤ wg.heap.size := by have := hwg.size; have := hsf.size; have := hwf.size; have := hmd'.size; omega
      clear HIf HRf HBd HRd Hown1 hbf hff hcf hlf hwf hmd hwc hmb hwb hbd hmd' hba HIa HRa HBa HS hlb hBw hwg hsf
      go_upto_region 13 with fail
      have d1 := hbg.cell 1
      simp only [List.setIfInBounds_toArray, List.set_cons_zero, List.getElem?_toArray, List.getElem?_cons_zero, List.getElem?_cons_succ] at d1
      have HS := Lib.hid (fun w' (h' : Mod (fun k => (Value.slice a2 N c2).ownBlock = some k) wg w') => (⟨(h'.cell hbg.lt (fun e => own_type HRg.out hbg (by decide) _ e rfl)).trans d1,
        (h'.cell HBg.out.lt (fun e => Nat.lt_irrefl _ (H.out.rs.lt _ e).2)).trans (HBg.out.cell 0), (h'.cell HBg.out.lt (fun e => Nat.lt_irrefl _ (H.out.rs.lt _ e).2)).trans (HBg.out.cell 1),
        (h'.cell HBg.out.lt (fun e => Nat.lt_irrefl _ (H.out.rs.lt _ e).2)).trans (HBg.out.cell 2), (h'.cell HBg.out.lt (fun e => Nat.lt_irrefl _ (H.out.rs.lt _ e).2)).trans (HBg.out.cell 3), (h'.cell HBg.out.lt (fun e => Nat.lt_irrefl _ (H.out.rs.lt _ e).2)).trans (HBg.out.cell 4)⟩ :
       w'.cell? ⟨ub, 1, none⟩ = some (.slice a2 N c2) ∧ w'.cell? ⟨w.heap.size, 0, none⟩ = some (.int .i64 ra) ∧ w'.cell? ⟨w.heap.size, 1, none⟩ = some (.int .i64 rb) ∧ w'.cell? ⟨w.heap.size, 2, none⟩ = some (.bool rp) ∧ w'.cell? ⟨w.heap.size, 3, none⟩ = some (.bool rq) ∧ w'.cell? ⟨w.heap.size, 4, none⟩ = some (.int .i64 ru)))
      clear d1
      refine wp_region_M (fun k => (Value.slice a2 N c2).ownBlock = some k) (by kernel_rfl) ?_
      refine wpM_take 0 58 (v := ?_) rfl rfl (by kernel_rfl) (by kernel_rfl) (by kernel_rfl) (by kernel_rfl) (fun _ _ _ h => h) (by first | exact mod_draw _ | assumption) rfl ?_ ?_
      rotate_left
      ·intro w' hw'
       refine qat_value ?_
       go_simp
       rfl
      simp only [fr1, fr2, fr3, fr4]
      refine wpM_take 1 59 (v := ?_) rfl rfl (by kernel_rfl) (by kernel_rfl) (by kernel_rfl) (by kernel_rfl) (fun _ _ _ h => h) (by first | exact mod_draw _ | assumption) rfl ?_ ?_
      rotate_left
      ·intro w' hw'
       refine qat_value ?_
       go_simp
       rfl
      simp only [fr1, fr2, fr3, fr4]
      refine wpM_take 2 60 (v := ?_) rfl rfl (by kernel_rfl) (by kernel_rfl) (by kernel_rfl) (by kernel_rfl) (fun _ _ _ h => h) (by first | exact mod_draw _ | assumption) rfl ?_ ?_
      rotate_left
      ·intro w' hw'
       refine qat_value ?_
       go_simp
       rfl
      simp only [fr1, fr2, fr3, fr4]
      refine wpM_take 3 61 (v := ?_) rfl rfl (by kernel_rfl) (by kernel_rfl) (by kernel_rfl) (by kernel_rfl) (fun _ _ _ h => h) (by first | exact mod_draw _ | assumption) rfl ?_ ?_
      rotate_left
      ·intro w' hw'
       refine qat_value ?_
       go_simp
       rfl
      simp only [fr1, fr2, fr3, fr4]
      refine wpM_take 4 62 (v := ?_) rfl rfl (by kernel_rfl) (by kernel_rfl) (by kernel_rfl) (by kernel_rfl) (fun _ _ _ h => h) (by first | exact mod_draw _ | assumption) rfl ?_ ?_
      rotate_left
      ·intro w' hw'
       obtain ⟨r0, r1, r2, r3, r4, r5⟩ := HS.out w' hw'
       refine qat_value ?_
       go_simp
       rfl
      simp only [fr1, fr2, fr3, fr4]
      refine wpM_take 5 63 (v := ?_) rfl rfl (by kernel_rfl) (by kernel_rfl) (by kernel_rfl) (by kernel_rfl) (fun _ _ _ h => h) (by first | exact mod_draw _ | assumption) rfl ?_ ?_
      rotate_left
      ·intro w' hw'
       obtain ⟨r0, r1, r2, r3, r4, r5⟩ := HS.out w' hw'
       refine qat_value ?_
       go_simp
       rfl
      simp only [fr1, fr2, fr3, fr4]
      refine wpM_one 6 64 rfl rfl (by kernel_rfl) rfl fun wb hwb => ?_
      have hmb : Ext wg wb := (ext_draw wg).ext_trans hwb
      refine ⟨.slice (some ⟨wb.heap.size, 0, none⟩) 1 1, wb.alloc (.cells #[.int .i64 ra, .int .i64 rb, .bool rp, .bool rq, .int .i64 ru] 66), by go_simp, .inr ((hmb.alloc _).any), ?_⟩
      simp only [fr1, fr2, fr3, fr4]
      refine wpM_append 7 65 rfl rfl (by kernel_rfl) rfl _ _ 84 rfl B 66 _ 5 32 Tryz.info66 Tryz.underlying84 rfl (by decide) (.slice a2 N c2) L.length (rgE.cells (L.map (·.2))) rfl (some ⟨wb.heap.size, 0, none⟩) 1 1 [.int .i64 ra, .int .i64 rb, .bool rp, .bool rq, .int .i64 ru] rfl (rgE.one ⟨ra, rb, rp, rq, ru⟩) (by have := HN.out; omega) (by have := HN.out; omega) (by have := hmb.size; simp; omega) (ownsRow_mod HRg.out (hmb.alloc _) (fun _ _ f => f)) (by simpa using Reads.new wb 66 #[.int .i64 ra, .int .i64 rb, .bool rp, .bool rq, .int .i64 ru] 5 1 rfl) ((hmb.alloc _).any) (fun _ e _ => e) ?_
      intro wc v2' wd hwc hown2 hmd hk2
      simp only [fr1, fr2, fr3, fr4]
      have hmd' : Mod (fun k => (Value.slice a2 N c2).ownBlock = some k) wg wd := (((hmb.alloc _).ext_trans hwc).any).trans hmd (fun _ _ e => e)
      have hbd := hbg.mod hmd' (fun e => own_type HRg.out hbg (by decide) _ e rfl)
      have HId := Lib.hid (ownsRow_mod HIg.out hmd' (fun k hk e => own_apart HIg.out HRg.out (by decide) k hk e))
      obtain ⟨a8, c8, hv8, _, _⟩ := ownsRow_shape hown2
      subst hv8
      have Hown2 := Lib.hid hown2
      clear hown2 hk2
      refine wpM_one 8 66 rfl rfl (by kernel_rfl) rfl fun we1 he1 => ?_
      refine ⟨.pointer (some ⟨ub, 0, none⟩), we1, by go_simp, .inr (hmd'.then he1), ?_⟩
      simp only [fr1, fr2, fr3, fr4]
      refine wpM_one 9 67 rfl rfl (by kernel_rfl) rfl fun we2 he2 => ?_
      refine ⟨.pointer (some ⟨ub, 1, none⟩), we2, by go_simp, .inr ((hmd'.then he1).then he2), ?_⟩
      simp only [fr1, fr2, fr3, fr4]
      refine wpM_put 10 rfl rfl (by kernel_rfl) rfl fun wf hwf0 => ?_
      have hwf : Ext wd wf := (he1.ext_trans he2).ext_trans hwf0
      clear he1 he2 hwf0
      have hbf := hbd.mod hwf (fun f => f)
      have hff := hbf.free 1
      have hcf := hbf.cell 1
      simp only [List.setIfInBounds_toArray, List.set_cons_zero, List.set_cons_succ, List.getElem?_toArray, List.getElem?_cons_zero, List.getElem?_cons_succ] at hcf
      have hlf := hbf.lt
      refine ⟨wf.setCell ⟨ub, 1, none⟩ (.slice a8 (L.length + 1) c8), by go_simp, .inl rfl, ?_⟩
      refine wpM_done (by kernel_rfl) (fun wh hwh => ?_) _
      have hbh := (hbf.set 1 (.slice a8 (L.length + 1) c8)).mod hwh (fun f => f)
      have hsf : Mod (· = ub) wf (wf.setCell ⟨ub, 1, none⟩ (.slice a8 (L.length + 1) c8)) := (Mod.refl (· = ub) wf).setCell (fun _ => rfl) _
      have HIf := ownsRow_mod HId.out hwf (fun _ _ f => f)
      have HRf := ownsRow_mod Hown2.out hwf (fun _ _ f => f)
      have HIh := Lib.hid (ownsRow_mod (ownsRow_mod HIf hsf (fun k hk e => own_type HIf hbf (by decide) k hk e)) hwh (fun _ _ f => f))
      have HRh := Lib.hid (ownsRow_mod (ownsRow_mod HRf hsf (fun k hk e => own_type HRf hbf (by decide) k hk e)) hwh (fun _ _ f => f))
      have HMh := Lib.hid (RefS.trans (RefS.trans (RefS.trans (RefS.trans HMg.out (refs_own HRg.out (.inr (.inl rfl)) (Nat.le_refl _) hmd')) (Mod.any (S := RefS B wd) hwf)) (refs_blk hbf (.inr (.inr rfl)) H.out.base hsf)) (Mod.any (S := RefS B _) hwh))
      clear HIf HRf Hown2 hbf hff hcf hlf hwf hmd hwc hmb hwb hbd hmd' HIg HRg HBg HS hwh hsf HMg HId
      simp only [List.setIfInBounds_toArray, List.set_cons_zero, List.set_cons_succ] at hbh
      have d2 := hbh.cell 2
      simp only [List.getElem?_toArray, List.getElem?_cons_zero, List.getElem?_cons_succ] at d2
      have hlh := hbh.lt
      go_wp2_with fail
      go_ret2
      exact radd_yes HE0.out hbh H.out.base HIh.out HRh.out HMh.out
end Go.Proofs.YthlmgoagnfkhdaaGreat

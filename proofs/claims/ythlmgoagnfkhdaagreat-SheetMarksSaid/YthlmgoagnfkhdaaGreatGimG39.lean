/- The document's table of ranges: Move. Conditions: a table that may be; fewer than 20 edits of at most 100000 bytes each, in none of the table's blocks. -/
import Derived.Test.YthlmgoagnfkhdaaGreatGimG38
import Derived.Test.YthlmgoagnfkhdaaGreatGimG37
import Derived.Test.YthlmgoagnfkhdaaGreatGimG01
set_option maxHeartbeats 6400000
set_option maxRecDepth 1000000
set_option linter.unusedVariables false
set_option linter.unusedSimpArgs false
namespace Go.Proofs.YthlmgoagnfkhdaaGreat
open Go.RowKit Go.Gim
theorem moveTo_here (es : List Ed) {L : Tb} (ho : Once L) {k j : Nat} {x : Int × Rg} (hkj : k ≤ j) (hx : L[j]? = some x) : (moveTo es L k)[j]? = some x := by
 have hg := moveTo_rest es ho k j x hkj hx
 have hl := moveTo_len es L k
 have hj := (List.getElem?_eq_some_iff.1 hx).1
 have hy : (moveTo es L k)[j]? = some ((moveTo es L k)[j]'(by omega)) := List.getElem?_eq_getElem _
 have hi : (idsR (moveTo es L k))[j]? = (idsR L)[j]? := by rw [moveTo_ids]
 unfold idsR at hi
 rw [List.getElem?_map, List.getElem?_map, hy, hx] at hi
 have hi' : ((moveTo es L k)[j]'(by omega)).1 = x.1 := by simpa using hi
 have ho2 : Once (moveTo es L k) := by rw [once_ids, moveTo_ids]; exact once_ids.1 ho
 have hg2 := getR_of_mem ho2 (show (x.1, ((moveTo es L k)[j]'(by omega)).2) ∈ moveTo es L k by rw [← hi']; exact List.getElem_mem _)
 rw [hg] at hg2
 rw [hy]
 refine congrArg some (Prod.ext hi' (Option.some.inj hg2).symm)
theorem moveTo_once (es : List Ed) {L : Tb} (ho : Once L) (k : Nat) : Once (moveTo es L k) := by rw [once_ids, moveTo_ids]; exact once_ids.1 ho
theorem owns_put5 {w : World} {B g c n : Nat} {T : TypeId} {l : List Rg} (h : w.ownsRow B T 5 (.slice (some ⟨g, 0, none⟩) n c) n (rgE.cells l)) {k : Nat} {x : Rg} (hx : l[k]? = some x) (y : Rg) :
  (((((w.setCell ⟨g, k * 5, none⟩ (.int .i64 y.a)).setCell ⟨g, k * 5 + 1, none⟩ (.int .i64 y.b)).setCell ⟨g, k * 5 + 2, none⟩ (.bool y.p)).setCell ⟨g, k * 5 + 3, none⟩ (.bool y.q)).setCell ⟨g, k * 5 + 4, none⟩ (.int .i64 y.u)).ownsRow B T 5 (.slice (some ⟨g, 0, none⟩) n c) n (rgE.cells (l.set k y)) := by
 have hk := (List.getElem?_eq_some_iff.1 hx).1
 have h0 := Enc.owns_set (E := rgE) h hx (j := 0) (by decide) (v := .int .i64 y.a) ⟨y.a, x.b, x.p, x.q, x.u⟩ rfl
 have h1 := Enc.owns_set2 (E := rgE) h0 hk (j := 1) (by decide) (v := .int .i64 y.b) (y := ⟨y.a, y.b, x.p, x.q, x.u⟩) rfl
 have h2 := Enc.owns_set2 (E := rgE) h1 hk (j := 2) (by decide) (v := .bool y.p) (y := ⟨y.a, y.b, y.p, x.q, x.u⟩) rfl
 have h3 := Enc.owns_set2 (E := rgE) h2 hk (j := 3) (by decide) (v := .bool y.q) (y := ⟨y.a, y.b, y.p, y.q, x.u⟩) rfl
 exact Enc.owns_set2 (E := rgE) h3 hk (j := 4) (by decide) (v := .int .i64 y.u) (y := y) rfl
theorem rmove_any (B ub : Nat) (v1 v2 : Value) (L : Tb) (last Bd : Int) (es : List Ed) (ao : Option Addr) (cap : Nat) (w : World) (h : RefAt w B ub v1 v2 L last) (hB : B ≤ w.heap.size) (hT : Tok L last Bd) (hBd : 65536 ≤ Bd) (hBd2 : Bd ≤ 900000000)
  (hr : Reads w 3 ao es.length (edE.cells es)) (hn : es.length ≤ 19) (ht : ∀ e ∈ es, e.t.size ≤ 100000) (hfar : 0 < es.length → ∀ a, ao = some a → ¬ RefS B w a.block) :
  Calls Tryz.prog 90 #[.pointer (some ⟨ub, 0, none⟩), .slice ao es.length cap] w (RcPost B ub (moveD L last es) w) := by
 have HRg := Lib.hid (rfRanged_any 65536 ao cap es w hr (by omega))
 have Hr := Lib.hid hr
 have Hfar := Lib.hid hfar
 have HT := Lib.hid hT
 by_cases hz : rangedE 65536 es = 0
 ·have Hok := Lib.hid (ranged_ok hz ht)
  have HD := Lib.hid (show moveD L last es = ⟨moveT es L, last, 0, 0⟩ by unfold moveD; rw [if_pos hz])
  rw [HD.out]
  rw [hz] at HRg
  obtain ⟨a1, c1, hv1, hr1⟩ := h.rdI
  obtain ⟨a2, c2, hv2, hr2⟩ := h.rdR
  obtain ⟨N, hN⟩ : ∃ N, N = L.length := ⟨_, rfl⟩
  have HN := Lib.hid hN
  have hNl : N ≤ 256 := by rw [hN]; exact hT.len
  subst hv1 hv2
  have H := Lib.hid h
  rw [← hN] at H
  clear h hT hr ht hfar hz hr1 hr2 HD hN
  go_enter Tryz.func90, Tryz.ntmps90
  go_wp2_with fail
  refine HRg.out.mono ?_
  rintro e w1 ⟨rfl, hx1⟩
  have H1 := Lib.hid (H.out.ext hx1)
  clear HRg
  go_wp2_with fail
  go_loopw [6] (fun i wr => ∃ k : Nat, k ≤ N ∧ i = .int .i64 k ∧ Hid (RefAt wr B ub (.slice a1 N c1) (.slice a2 N c2) (moveTo es L k) last) ∧ Mod (fun j => (Value.slice a2 N c2).ownBlock = some j) w1 wr) (fun i _ => N - (intOf i).toNat)
  case atStart => exact ⟨0, by omega, rfl, H1, Mod.refl _ _⟩
  case round =>
   obtain ⟨k, hk, rfl, HTA, hmr⟩ := hrel
   by_cases hlt : k < N
   ·have hlt' : (k : Int) < (N : Int) := by omega
    have hk0 : (0 : Int) ≤ (k : Int) := by omega
    have hmL : k < L.length := by rw [← HN.out]; exact hlt
    have hkL : L[k]? = some (L[k]'hmL) := List.getElem?_eq_getElem _
    have hst := moveTo_step es hkL
    have hhr := moveTo_here es HT.out.once (Nat.le_refl k) hkL
    have hbd := HT.out.bd _ (List.getElem_mem hmL)
    have hup := HT.out.up _ (List.getElem_mem hmL)
    have hon := moveTo_once es HT.out.once k
    have hlen := moveTo_len es L k
    have hids := moveTo_ids es L k
    have hzero : getR (moveTo es L k) 0 = none := by
     refine getR_none_of fun y hy => ?_
     have h1 : y.1 ∈ idsR (moveTo es L k) := List.mem_map.2 ⟨y, hy, rfl⟩
     rw [hids] at h1
     obtain ⟨z, hz, e⟩ := List.mem_map.1 h1
     have := HT.out.ids z hz
     omega
    have hsome : ∀ u, (getR L u).isSome = true → (getR (moveTo es L k) u).isSome = true := fun u hu => by
     rw [getR_isSome, hids, ← getR_isSome]; exact hu
    generalize L[k]'hmL = x at *
    obtain ⟨id, ra, rb, rp, rq, ru⟩ := x
    simp only at hst hbd hup
    generalize moveTo es L k = T at *
    have hmk : (T.map (·.2))[k]? = some ⟨ra, rb, rp, rq, ru⟩ := by rw [List.getElem?_map, hhr]; rfl
    have HM := Lib.hid (setR_map hon hhr (movedR es T ⟨ra, rb, rp, rq, ru⟩))
    obtain ⟨gb, gc, hg2⟩ := Enc.owns_some (E := rgE) HTA.out.rs (by omega)
    injection hg2 with e1 e2 e3
    subst e1
    subst e3
    have Hln := Lib.hid (show T.length = N by omega)
    have h3r := HTA.out.rs
    rw [Hln.out] at h3r
    obtain ⟨r0, r1, r2, r3, r4⟩ := reads_rg (Reads.own h3r) hmk
    simp only [Nat.zero_add] at r0 r1 r2 r3 r4
    have Hrs := Lib.hid h3r
    have hgl := (Enc.owns_block (E := rgE) h3r).2
    have d0 := HTA.out.blk.cell 0
    have d1 := HTA.out.blk.cell 1
    simp only [List.getElem?_toArray, List.getElem?_cons_zero, List.getElem?_cons_succ] at d0 d1
    have hlb := HTA.out.blk.lt
    have Hst := Lib.hid hst
    have Hmk := Lib.hid hmk
    have Hup := Lib.hid hup
    have Hbd := Lib.hid hbd
    have Hon := Lib.hid hon
    have Hz := Lib.hid hzero
    have Hsm := Lib.hid hsome
    have HMv := Lib.hid (fun (right : Bool) (o : Int) w' (h' : Ext wr w') (o0 : 0 ≤ o) (o1 : o ≤ 1000000000) => rfMove_any right o ao cap es w' (reads_mod0 (Hr.out.mod hx1 (fun _ _ f => f)) (hmr.trans h' (fun _ _ f => f.elim)) (fun hz a ha e => Hfar.out hz a ha (by
     have h4 := RefS.own H.out.rs (.inr (.inl rfl)) (Nat.le_refl _) _ e
     exact h4))) (by omega) Hok.out o0 o1)
    clear hst hhr hkL hup hlen hon hids hzero hsome hmk h3r e2
    go_upto_region 8 with fail
    obtain ⟨u, hu⟩ : ∃ u, u = wr.alloc (.cells #[.int .i64 ra, .int .i64 rb, .bool rp, .bool rq, .int .i64 ru] 66) := ⟨_, rfl⟩
    have hxu : Ext wr u := by rw [hu]; exact (Mod.refl _ wr).alloc _
    have hbu : Blk u wr.heap.size 66 #[.int .i64 ra, .int .i64 rb, .bool rp, .bool rq, .int .i64 ru] := by rw [hu]; exact Blk.new _ _ _
    rw [← hu]
    clear hu r0 r1 r2 r3 r4 d0 d1 hlb hgl
    have d0 := Blk.cell hbu 0
    have d1 := Blk.cell hbu 1
    have d2 := Blk.cell hbu 2
    have d3 := Blk.cell hbu 3
    have d4 := Blk.cell hbu 4
    simp only [List.getElem?_toArray, List.getElem?_cons_zero, List.getElem?_cons_succ] at d0 d1 d2 d3 d4
    have f0 := Blk.free hbu 0
    have f1 := Blk.free hbu 1
    have f2 := Blk.free hbu 2
    have f3 := Blk.free hbu 3
    have f4 := Blk.free hbu 4
    have hlt2 := Blk.lt hbu
    have HMa := Lib.hid (HMv.out rp ra u hxu (by omega) (by omega))
    generalize hP : moveE rp es ra = P at *
    have HP := Lib.hid hP
    clear hP
    go_wp2_with fail
    refine HMa.out.mono ?_
    rintro e u2 ⟨rfl, hxa⟩
    have hb2 := hbu.mod hxa (fun f => f)
    have hx2 := hxu.ext_trans hxa
    clear d0 d1 d2 d3 d4 f0 f1 f2 f3 f4 hlt2 HMa hbu hxu hxa
    have d0 := Blk.cell hb2 0
    have d1 := Blk.cell hb2 1
    have d2 := Blk.cell hb2 2
    have d3 := Blk.cell hb2 3
    have d4 := Blk.cell hb2 4
    simp only [List.getElem?_toArray, List.getElem?_cons_zero, List.getElem?_cons_succ] at d0 d1 d2 d3 d4
    have f0 := Blk.free hb2 0
    have f1 := Blk.free hb2 1
    have f2 := Blk.free hb2 2
    have f3 := Blk.free hb2 3
    have f4 := Blk.free hb2 4
    have hlt2 := Blk.lt hb2
    go_upto_region 9 with fail
    obtain ⟨u3, hu3⟩ : ∃ u3, u3 = u2.setCell ⟨wr.heap.size, 0, none⟩ (.int .i64 P) := ⟨_, rfl⟩
    have hx3 : Ext wr u3 := by rw [hu3]; exact hx2.setCell (p := ⟨wr.heap.size, 0, none⟩) (fun h => absurd h (Nat.lt_irrefl _)) _
    have hb3 : Blk u3 wr.heap.size 66 #[.int .i64 P, .int .i64 rb, .bool rp, .bool rq, .int .i64 ru] := by rw [hu3]; exact hb2.set 0 _
    rw [← hu3]
    clear d0 d1 d2 d3 d4 f0 f1 f2 f3 f4 hlt2 hu3 hb2 hx2
    have d0 := Blk.cell hb3 0
    have d1 := Blk.cell hb3 1
    have d2 := Blk.cell hb3 2
    have d3 := Blk.cell hb3 3
    have d4 := Blk.cell hb3 4
    simp only [List.getElem?_toArray, List.getElem?_cons_zero, List.getElem?_cons_succ] at d0 d1 d2 d3 d4
    have f0 := Blk.free hb3 0
    have f1 := Blk.free hb3 1
    have f2 := Blk.free hb3 2
    have f3 := Blk.free hb3 3
    have f4 := Blk.free hb3 4
    have hlt2 := Blk.lt hb3
    have HMb := Lib.hid (HMv.out rq rb u3 hx3 (by omega) (by omega))
    generalize hQ : moveE rq es rb = Q at *
    have HQ := Lib.hid hQ
    clear hQ HMv
    go_wp2_with fail
    refine HMb.out.mono ?_
    rintro e u4 ⟨rfl, hxb⟩
    have hb4 := hb3.mod hxb (fun f => f)
    have hx4 := hx3.ext_trans hxb
    clear d0 d1 d2 d3 d4 f0 f1 f2 f3 f4 hlt2 HMb hb3 hx3 hxb
    have d0 := Blk.cell hb4 0
    have d1 := Blk.cell hb4 1
    have d2 := Blk.cell hb4 2
    have d3 := Blk.cell hb4 3
    have d4 := Blk.cell hb4 4
    simp only [List.getElem?_toArray, List.getElem?_cons_zero, List.getElem?_cons_succ] at d0 d1 d2 d3 d4
    have f0 := Blk.free hb4 0
    have f1 := Blk.free hb4 1
    have f2 := Blk.free hb4 2
    have f3 := Blk.free hb4 3
    have f4 := Blk.free hb4 4
    have hlt2 := Blk.lt hb4
    go_upto_region 11 with fail
    obtain ⟨v, hv⟩ : ∃ v, v = ((u4.setCell ⟨wr.heap.size, 1, none⟩ (.int .i64 Q)).setCell ⟨wr.heap.size, 0, none⟩ (.int .i64 (min P Q))) := ⟨_, rfl⟩
    have hbv : Blk v wr.heap.size 66 #[.int .i64 (min P Q), .int .i64 Q, .bool rp, .bool rq, .int .i64 ru] := by rw [hv]; exact (hb4.set 1 _).set 0 _
    have hxv : Ext wr v := by rw [hv]; exact (hx4.setCell (p := ⟨wr.heap.size, 1, none⟩) (fun h => absurd h (Nat.lt_irrefl _)) _).setCell (p := ⟨wr.heap.size, 0, none⟩) (fun h => absurd h (Nat.lt_irrefl _)) _
    rw [← hv]
    clear hv d0 d1 d2 d3 d4 f0 f1 f2 f3 f4 hlt2 hb4 hx4
    by_cases hu : ru = 0
    ·subst hu
     have HE := Lib.hid (show movedR es T ⟨ra, rb, rp, rq, 0⟩ = ⟨min P Q, Q, rp, rq, 0⟩ by
      unfold movedR
      rw [show getR T 0 = none from Hz.out]
      simp only [HP.out, HQ.out])
     obtain ⟨ru, hru⟩ : ∃ ru : Int, ru = 0 := ⟨_, rfl⟩
     have hu1 : (ru != 0) = false := by simpa using hru
     rw [← hru] at hbv HE Hmk Hst HM
     clear hru
     have hTV := HTA.out.ext hxv
     have d1' := hTV.blk.cell 1
     simp only [List.getElem?_toArray, List.getElem?_cons_zero, List.getElem?_cons_succ] at d1'
     have hlb := hTV.blk.lt
     have d0 := Blk.cell hbv 0
     have d1 := Blk.cell hbv 1
     have d2 := Blk.cell hbv 2
     have d3 := Blk.cell hbv 3
     have d4 := Blk.cell hbv 4
     simp only [List.getElem?_toArray, List.getElem?_cons_zero, List.getElem?_cons_succ] at d0 d1 d2 d3 d4
     have f0 := Blk.free hbv 0
     have f1 := Blk.free hbv 1
     have f2 := Blk.free hbv 2
     have f3 := Blk.free hbv 3
     have f4 := Blk.free hbv 4
     have hlt2 := Blk.lt hbv
     have h3v := ownsRow_mod Hrs.out (hxv) (fun _ _ f => f)
     have hgl := (Enc.owns_block (E := rgE) h3v).2
     go_upto_region 15 with fail
     refine wp_region_ext_tail 7 (by kernel_rfl) (by kernel_rfl) ?_
     simp only [List.take_succ_cons, List.take_zero, List.drop_succ_cons, List.drop_zero]
     repeat (go_big_quiet_step (fail))
     refine wpQuiet_nil ?_
     intro we hxe
     have hTE := hTV.ext hxe
     have h3e := ownsRow_mod h3v hxe (fun _ _ f => f)
     have hge := (Enc.owns_block (E := rgE) h3e).2
     obtain ⟨r0, r1, r2, r3, r4⟩ := reads_rg (Reads.own h3e) Hmk.out
     simp only [Nat.zero_add] at r0 r1 r2 r3 r4
     have g0 := Enc.owns_free (E := rgE) h3e (k * 5)
     have g1 := Enc.owns_free (E := rgE) h3e (k * 5 + 1)
     have g2 := Enc.owns_free (E := rgE) h3e (k * 5 + 2)
     have g3 := Enc.owns_free (E := rgE) h3e (k * 5 + 3)
     have g4 := Enc.owns_free (E := rgE) h3e (k * 5 + 4)
     have Hfin := Lib.hid (owns_put5 h3e Hmk.out ⟨min P Q, Q, rp, rq, ru⟩)
     have HTE := Lib.hid hTE
     have hxwe := (hxv).ext_trans hxe
     clear d0 d1 d2 d3 d4 f0 f1 f2 f3 f4 hlt2 d1' hlb hgl hTV h3v hTE h3e
     go_wp2_with fail
     go_roundw
     case rel =>
      have hm : Mod (· = gb) we (((((we.setCell ⟨gb, k * 5, none⟩ (.int .i64 (min P Q))).setCell ⟨gb, k * 5 + 1, none⟩ (.int .i64 (Q))).setCell ⟨gb, k * 5 + 2, none⟩ (.bool rp)).setCell ⟨gb, k * 5 + 3, none⟩ (.bool rq)).setCell ⟨gb, k * 5 + 4, none⟩ (.int .i64 ru)) := (((((Mod.refl (· = gb) we).setCell (fun _ => rfl) _).setCell (fun _ => rfl) _).setCell (fun _ => rfl) _).setCell (fun _ => rfl) _).setCell (fun _ => rfl) _
      have hMM : (moveTo es L (k + 1)).map (·.2) = (T.map (·.2)).set k ⟨min P Q, Q, rp, rq, ru⟩ := by rw [Hst.out, HM.out, HE.out]
      have hII : idsR (moveTo es L (k + 1)) = idsR T := by rw [Hst.out, setR_ids]
      have hLL : (moveTo es L (k + 1)).length = N := by rw [Hst.out, setR_len, Hln.out]
      refine ⟨k + 1, by omega, by go_num, Lib.hid ⟨HTE.out.blk.mod hm (fun e => own_type HTE.out.rs HTE.out.blk (by decide) gb rfl e.symm), HTE.out.base, ?_, ?_⟩, (hmr.then hxwe).trans hm (fun i _ e => by rw [e]; rfl)⟩
      ·rw [hII, hLL]
       have h5 := HTE.out.is
       rw [Hln.out] at h5
       exact ownsRow_mod h5 hm (fun i hi e => own_apart h5 HTE.out.rs (by decide) i hi (by rw [e]; rfl))
      ·rw [hMM, hLL]; exact Hfin.out
     case measure => simp [intOf]; omega
    ·have hu1 : (ru != 0) = true := by simpa using hu
     obtain ⟨up, hgu⟩ := Option.isSome_iff_exists.1 (Hsm.out ru (Hup.out.resolve_left hu).2)
     obtain ⟨K, hK⟩ := getR_place hgu
     have hKl := (List.getElem?_eq_some_iff.1 hK).1
     have HAt := Lib.hid (fun w' (h' : Ext v w') => Calls.same_ext ((HTA.out.ext (hxv.ext_trans h')).whereAt (by rw [Hln.out]; exact hNl) (whereI_at Hon.out hK)))
     have hKm : (T.map (·.2))[K]? = some up := by rw [List.getElem?_map, hK]; rfl
     obtain ⟨ua, ub2, uc, ud, ue⟩ := up
     simp only at HAt
     have HE := Lib.hid (show movedR es T ⟨ra, rb, rp, rq, ru⟩ = ⟨min (max (min P Q) ua) ub2, min (max Q ua) ub2, rp, rq, ru⟩ by
      unfold movedR
      rw [show getR T ru = some ⟨ua, ub2, uc, ud, ue⟩ from hgu]
      simp only [HP.out, HQ.out, clampI])
     have HS := Lib.hid (fun w' (h' : Ext v w') => by
      have h3v := ownsRow_mod Hrs.out (hxv.ext_trans h') (fun _ _ f => f)
      obtain ⟨r0, r1, r2, r3, r4⟩ := reads_rg (Reads.own h3v) hKm
      simp only [Nat.zero_add] at r0 r1 r2 r3 r4
      exact (⟨(HTA.out.ext (hxv.ext_trans h')).blk.cell 1, (hbv.mod h' (fun f => f)).cell 4, r0, r1, r2, r3, r4⟩ :
       w'.cell? ⟨ub, 1, none⟩ = some (.slice (some ⟨gb, 0, none⟩) N c2) ∧ w'.cell? ⟨wr.heap.size, 4, none⟩ = some (.int .i64 ru) ∧ w'.cell? ⟨gb, K * 5, none⟩ = some (.int .i64 ua) ∧ w'.cell? ⟨gb, K * 5 + 1, none⟩ = some (.int .i64 ub2) ∧ w'.cell? ⟨gb, K * 5 + 2, none⟩ = some (.bool uc) ∧ w'.cell? ⟨gb, K * 5 + 3, none⟩ = some (.bool ud) ∧ w'.cell? ⟨gb, K * 5 + 4, none⟩ = some (.int .i64 ue)))
     have hKN : (K : Int) < (N : Int) := by have := Hln.out; omega
     have hK0 : (0 : Int) ≤ (K : Int) := by omega
     have d0 := Blk.cell hbv 0
     have d1 := Blk.cell hbv 1
     have d2 := Blk.cell hbv 2
     have d3 := Blk.cell hbv 3
     have d4 := Blk.cell hbv 4
     simp only [List.getElem?_toArray, List.getElem?_cons_zero, List.getElem?_cons_succ] at d0 d1 d2 d3 d4
     have f0 := Blk.free hbv 0
     have f1 := Blk.free hbv 1
     have f2 := Blk.free hbv 2
     have f3 := Blk.free hbv 3
     have f4 := Blk.free hbv 4
     have hlt2 := Blk.lt hbv
     clear hgu hK hKm hu
     go_upto_region 12 with fail
     clear d0 d1 d2 d3 d4 f0 f1 f2 f3 f4 hlt2 hu1
     refine wp_region_E (by kernel_rfl) ?_
     refine wpE_t 0 60 (v := ?_) (fun w' hw' => qat_value ?_) ?_
     rotate_left
     ·go_simp
      rfl
     simp only [fr1, fr2, fr3, fr4]
     refine wpE_t 1 61 (v := ?_) (fun w' hw' => qat_value ?_) ?_
     rotate_left
     ·go_simp
      rfl
     simp only [fr1, fr2, fr3, fr4]
     refine wpE_t 2 62 (v := ?_) (fun w' hw' => qat_value ?_) ?_
     rotate_left
     ·go_simp
      rfl
     simp only [fr1, fr2, fr3, fr4]
     refine wpE_t 3 63 (v := ?_) (fun w' hw' => ?_) ?_
     rotate_left
     ·obtain ⟨r0, r1, r2, r3, r4, r5, r6⟩ := HS.out w' hw'
      refine qat_value ?_
      go_simp
      rfl
     simp only [fr1, fr2, fr3, fr4]
     refine wpE_t 4 64 (v := ?_) (fun w' hw' => qat_value ?_) ?_
     rotate_left
     ·go_simp
      rfl
     simp only [fr1, fr2, fr3, fr4]
     refine wpE_t 5 65 (v := ?_) (fun w' hw' => qat_value ?_) ?_
     rotate_left
     ·go_simp
      rfl
     simp only [fr1, fr2, fr3, fr4]
     refine wpE_t 6 66 (v := ?_) (fun w' hw' => ?_) ?_
     rotate_left
     ·obtain ⟨r0, r1, r2, r3, r4, r5, r6⟩ := HS.out w' hw'
      refine qat_value ?_
      go_simp
      rfl
     simp only [fr1, fr2, fr3, fr4]
     refine wpE_t 7 67 (v := ?_) (fun w' hw' => ?_) ?_
     rotate_left
     ·refine qat_enter (by go_simp; exact ⟨rfl, rfl⟩) ?_
      exact HAt.out _ hw'
     simp only [fr1, fr2, fr3, fr4]
     refine wpE_t 8 68 (v := ?_) (fun w' hw' => qat_value ?_) ?_
     rotate_left
     ·go_simp
      rfl
     simp only [fr1, fr2, fr3, fr4]
     refine wpE_t 9 69 (v := ?_) (fun w' hw' => ?_) ?_
     rotate_left
     ·obtain ⟨r0, r1, r2, r3, r4, r5, r6⟩ := HS.out w' hw'
      refine qat_value ?_
      go_simp
      rfl
     simp only [fr1, fr2, fr3, fr4]
     refine wpE_boxT (x := #[.int .i64 ua, .int .i64 ub2, .bool uc, .bool ud, .int .i64 ue]) box_rg 10 11 8 69 rfl rfl ⟨rfl, rfl⟩ ⟨rfl, rfl⟩ ⟨rfl, rfl⟩ (by kernel_rfl) (by kernel_rfl) ⟨by simp, by decide⟩ rfl rfl (by intro u hu; simp at hu; rcases hu with rfl | rfl | rfl | rfl | rfl <;> rfl) (ext_draw _) ?_
     intro w22 pb hx22 hpb hbp
     simp only [fr1, fr2, fr3, fr4]
     refine wpE_done (by kernel_rfl) (fun w6 hu6 => ?_) _
     have hx6 := hx22.ext_trans hu6
     have hbp6 := hbp.mod hu6 (fun f => f)
     have hxw6 := hxv.ext_trans hx6
     have hb6 := hbv.mod hx6 (fun f => f)
     have hne : pb ≠ wr.heap.size := by have := hbv.lt; omega
     clear HS hbp hpb hx22 hu6 hbv hxv hx6 HAt
     have d0 := Blk.cell hb6 0
     have d1 := Blk.cell hb6 1
     have d2 := Blk.cell hb6 2
     have d3 := Blk.cell hb6 3
     have d4 := Blk.cell hb6 4
     simp only [List.getElem?_toArray, List.getElem?_cons_zero, List.getElem?_cons_succ] at d0 d1 d2 d3 d4
     have f0 := Blk.free hb6 0
     have f1 := Blk.free hb6 1
     have f2 := Blk.free hb6 2
     have f3 := Blk.free hb6 3
     have f4 := Blk.free hb6 4
     have hlt2 := Blk.lt hb6
     have e0 : w6.cell? ⟨pb, 0, none⟩ = some (.int .i64 ua) := hbp6.cell 0
     have e1 : w6.cell? ⟨pb, 1, none⟩ = some (.int .i64 ub2) := hbp6.cell 1
     have hlt3 := hbp6.lt
     have hne2 : ¬ wr.heap.size = pb := fun e => hne e.symm
     go_upto_region 15 with fail
     obtain ⟨v9, hv⟩ : ∃ v, v = (w6.setCell ⟨wr.heap.size, 0, none⟩ (.int .i64 (min (max (min P Q) ua) ub2))).setCell ⟨wr.heap.size, 1, none⟩ (.int .i64 (min (max Q ua) ub2)) := ⟨_, rfl⟩
     have hb9 : Blk v9 wr.heap.size 66 #[.int .i64 (min (max (min P Q) ua) ub2), .int .i64 (min (max Q ua) ub2), .bool rp, .bool rq, .int .i64 ru] := by rw [hv]; exact (hb6.set 0 _).set 1 _
     have hx9 : Ext wr v9 := by rw [hv]; exact (hxw6.setCell (p := ⟨wr.heap.size, 0, none⟩) (fun h => absurd h (Nat.lt_irrefl _)) _).setCell (p := ⟨wr.heap.size, 1, none⟩) (fun h => absurd h (Nat.lt_irrefl _)) _
     rw [← hv]
     clear hv d0 d1 d2 d3 d4 f0 f1 f2 f3 f4 hlt2 e0 e1 hlt3 hb6 hbp6 hne hne2
     have hTV := HTA.out.ext hx9
     have d1' := hTV.blk.cell 1
     simp only [List.getElem?_toArray, List.getElem?_cons_zero, List.getElem?_cons_succ] at d1'
     have hlb := hTV.blk.lt
     have d0 := Blk.cell hb9 0
     have d1 := Blk.cell hb9 1
     have d2 := Blk.cell hb9 2
     have d3 := Blk.cell hb9 3
     have d4 := Blk.cell hb9 4
     simp only [List.getElem?_toArray, List.getElem?_cons_zero, List.getElem?_cons_succ] at d0 d1 d2 d3 d4
     have f0 := Blk.free hb9 0
     have f1 := Blk.free hb9 1
     have f2 := Blk.free hb9 2
     have f3 := Blk.free hb9 3
     have f4 := Blk.free hb9 4
     have hlt2 := Blk.lt hb9
     have h3v := ownsRow_mod Hrs.out (hx9) (fun _ _ f => f)
     have hgl := (Enc.owns_block (E := rgE) h3v).2
     go_upto_region 15 with fail
     refine wp_region_ext_tail 7 (by kernel_rfl) (by kernel_rfl) ?_
     simp only [List.take_succ_cons, List.take_zero, List.drop_succ_cons, List.drop_zero]
     repeat (go_big_quiet_step (fail))
     refine wpQuiet_nil ?_
     intro we hxe
     have hTE := hTV.ext hxe
     have h3e := ownsRow_mod h3v hxe (fun _ _ f => f)
     have hge := (Enc.owns_block (E := rgE) h3e).2
     obtain ⟨r0, r1, r2, r3, r4⟩ := reads_rg (Reads.own h3e) Hmk.out
     simp only [Nat.zero_add] at r0 r1 r2 r3 r4
     have g0 := Enc.owns_free (E := rgE) h3e (k * 5)
     have g1 := Enc.owns_free (E := rgE) h3e (k * 5 + 1)
     have g2 := Enc.owns_free (E := rgE) h3e (k * 5 + 2)
     have g3 := Enc.owns_free (E := rgE) h3e (k * 5 + 3)
     have g4 := Enc.owns_free (E := rgE) h3e (k * 5 + 4)
     have Hfin := Lib.hid (owns_put5 h3e Hmk.out ⟨min (max (min P Q) ua) ub2, min (max Q ua) ub2, rp, rq, ru⟩)
     have HTE := Lib.hid hTE
     have hxwe := (hx9).ext_trans hxe
     clear d0 d1 d2 d3 d4 f0 f1 f2 f3 f4 hlt2 d1' hlb hgl hTV h3v hTE h3e
     go_wp2_with fail
     go_roundw
     case rel =>
      have hm : Mod (· = gb) we (((((we.setCell ⟨gb, k * 5, none⟩ (.int .i64 (min (max (min P Q) ua) ub2))).setCell ⟨gb, k * 5 + 1, none⟩ (.int .i64 (min (max Q ua) ub2))).setCell ⟨gb, k * 5 + 2, none⟩ (.bool rp)).setCell ⟨gb, k * 5 + 3, none⟩ (.bool rq)).setCell ⟨gb, k * 5 + 4, none⟩ (.int .i64 ru)) := (((((Mod.refl (· = gb) we).setCell (fun _ => rfl) _).setCell (fun _ => rfl) _).setCell (fun _ => rfl) _).setCell (fun _ => rfl) _).setCell (fun _ => rfl) _
      have hMM : (moveTo es L (k + 1)).map (·.2) = (T.map (·.2)).set k ⟨min (max (min P Q) ua) ub2, min (max Q ua) ub2, rp, rq, ru⟩ := by rw [Hst.out, HM.out, HE.out]
      have hII : idsR (moveTo es L (k + 1)) = idsR T := by rw [Hst.out, setR_ids]
      have hLL : (moveTo es L (k + 1)).length = N := by rw [Hst.out, setR_len, Hln.out]
      refine ⟨k + 1, by omega, by go_num, Lib.hid ⟨HTE.out.blk.mod hm (fun e => own_type HTE.out.rs HTE.out.blk (by decide) gb rfl e.symm), HTE.out.base, ?_, ?_⟩, (hmr.then hxwe).trans hm (fun i _ e => by rw [e]; rfl)⟩
      ·rw [hII, hLL]
       have h5 := HTE.out.is
       rw [Hln.out] at h5
       exact ownsRow_mod h5 hm (fun i hi e => own_apart h5 HTE.out.rs (by decide) i hi (by rw [e]; rfl))
      ·rw [hMM, hLL]; exact Hfin.out
     case measure => simp [intOf]; omega
   ·have hlt' : ¬ (k : Int) < (N : Int) := by omega
    obtain rfl : k = N := by omega
    have hfin := HTA.out
    rw [HN.out] at hfin
    have Hfin := Lib.hid (show RefAt wr B ub (.slice a1 L.length c1) (.slice a2 L.length c2) (moveT es L) last from hfin)
    have d0 := HTA.out.blk.cell 0
    simp only [List.getElem?_toArray, List.getElem?_cons_zero, List.getElem?_cons_succ] at d0
    have hlb := HTA.out.blk.lt
    clear hfin
    go_wp2_with fail
    go_ret
    exact ⟨rfl, rfl, ⟨_, _, Hfin.out⟩, RefS.trans hx1.any (refs_own H1.out.rs (.inr (.inl rfl)) (Nat.le_refl _) hmr)⟩
 ·have HD := Lib.hid (show moveD L last es = ⟨L, last, 0, rangedE 65536 es⟩ by unfold moveD; rw [if_neg hz])
  rw [HD.out]
  have H := Lib.hid h
  generalize rangedE 65536 es = C at *
  have hz1 : (C != 0) = true := by simpa using hz
  clear h hT hr ht hfar hz HD
  go_enter Tryz.func90, Tryz.ntmps90
  go_wp2_with fail
  refine HRg.out.mono ?_
  rintro e w1 ⟨rfl, hx1⟩
  go_wp2_with fail
  go_ret
  exact ⟨rfl, rfl, ⟨v1, v2, H.out.ext hx1⟩, hx1.any⟩
end Go.Proofs.YthlmgoagnfkhdaaGreat
namespace Go.Gim
def doTo (s : By) (l : List Ed) (c : Nat) : By := (l.drop c).foldr doE s
theorem doTo_all (s : By) (l : List Ed) {c : Nat} (h : l.length ≤ c) : doTo s l c = s := by unfold doTo; rw [List.drop_of_length_le h]; rfl
theorem doTo_step (s : By) {l : List Ed} {i : Nat} {x : Ed} (hx : l[i]? = some x) : doTo s l i = splice (doTo s l (i + 1)) x.a x.b x.t.data.toList := by
 obtain ⟨hi, rfl⟩ := List.getElem?_eq_some_iff.1 hx
 unfold doTo
 rw [List.drop_eq_getElem_cons hi]
 rfl
theorem ord_drop' {n : Nat} : ∀ {l : List Ed} {c i : Nat} {x : Ed}, Ord n c l → l[i]? = some x → A x ≤ Z x ∧ Ord n (Z x) (l.drop (i + 1)) := by
 intro l
 induction l with
 | nil => intro c i x _ h; cases h
 | cons e r ih =>
  intro c i x h hx
  cases i with
  | zero => cases hx; exact ⟨h.2.1, h.2.2⟩
  | succ i => exact ih h.2.2 (show r[i]? = some x from hx)
theorem doTo_fit {s : By} {l : List Ed} {i : Nat} {x : Ed} (hO : Ord s.length 0 l) (hx : l[i]? = some x) : A x ≤ Z x ∧ Z x ≤ (doTo s l (i + 1)).length := by
 obtain ⟨h1, h2⟩ := ord_drop' hO hx
 refine ⟨h1, ?_⟩
 unfold doTo
 rw [do_all_is s _ (Z x) h2, List.length_append, List.length_take]
 have := h2.le
 omega
theorem doTo_len {s : By} {l : List Ed} (hO : Ord s.length 0 l) (ht : ∀ e ∈ l, e.t.size ≤ 100000) : ∀ k i, l.length - i = k → (doTo s l i).length ≤ s.length + k * 100000 := by
 intro k
 induction k with
 | zero => intro i hi; rw [doTo_all s l (by omega)]; omega
 | succ k ih =>
  intro i hi
  have hx : l[i]? = some (l[i]'(by omega)) := List.getElem?_eq_getElem _
  have h1 := ih (i + 1) (by omega)
  have h2 := doTo_fit hO hx
  have h3 := ht _ (List.getElem_mem (l := l) (by omega : i < l.length))
  rw [doTo_step s hx]
  unfold splice
  rw [List.length_append, List.length_append, List.length_take, List.length_drop]
  have h4 : (l[i]'(by omega : i < l.length)).t.data.toList.length = (l[i]'(by omega : i < l.length)).t.size := rfl
  unfold A Z at h2
  omega
theorem splice_ed (z t : ByteArray) (a b : Int) : splice z.data.toList a b t.data.toList = (z.extract 0 a.toNat ++ t ++ z.extract b.toNat z.size).data.toList := by
 simp only [splice, ByteArray.data_append, Array.toList_append, ByteArray.data_extract, Array.toList_extract, List.extract_eq_take_drop, List.append_assoc, Nat.sub_zero, List.drop_zero]
 rw [List.take_of_length_le (l := z.data.toList.drop b.toNat) (by simp)]
theorem backT_last (s : ByteArray) : ∀ (S : List Ed) (st : Bk), (∀ y, st.out.getLast? = some y → y.b = st.e + st.g) → ∀ y, (S.foldl (backStep s) st).out.getLast? = some y → y.b = (S.foldl (backStep s) st).e + (S.foldl (backStep s) st).g := by
 intro S
 induction S with
 | nil => intro st h; exact h
 | cons x r ih =>
  intro st h
  refine ih (backStep s st x) ?_
  intro y hy
  unfold backStep at hy ⊢
  simp only at hy ⊢
  unfold dE
  by_cases hc : st.out = [] ∨ x.a ≠ st.e
  ·rw [backOut_new hc, List.getLast?_concat] at hy
   cases hy
   unfold newE
   simp only
   omega
  ·have hn : st.out ≠ [] := fun e => hc (.inl e)
   have he : x.a = st.e := by
    by_cases e : x.a = st.e
    ·exact e
    ·exact absurd (.inr e) hc
   obtain ⟨z, hz⟩ : ∃ z, st.out.getLast? = some z := ⟨_, List.getLast?_eq_some_getLast hn⟩
   have h1 := h z hz
   rw [backOut_add hz he, List.getLast?_eq_getElem?, List.length_set] at hy
   rw [List.getElem?_set_self (by have := List.length_pos_iff.2 hn; omega)] at hy
   cases hy
   simp only
   omega
end Go.Gim
namespace Go.Proofs.YthlmgoagnfkhdaaGreat
open Go.RowKit Go.Gim
theorem rfGrown_any (n : Int) (ao : Option Addr) (cap : Nat) (l : List Ed) (w : World) (hr : Reads w 3 ao l.length (edE.cells l)) (hn : l.length ≤ 1000) (hok : ∀ e ∈ l, EdNear e) (h0 : -1000000000 ≤ n) (h1 : n ≤ 1000000000) :
  Calls Tryz.prog 158 #[.int .i64 n, .slice ao l.length cap] w fun e w' => e = .returned (.int .i64 (grownE n l)) ∧ Ext w w' := by
 have Hr := Lib.hid hr
 have Hok := Lib.hid hok
 have Hbd := Lib.hid (grownE_bd (n := n) hok)
 obtain ⟨N, hN⟩ : ∃ N, N = l.length := ⟨_, rfl⟩
 have HN := Lib.hid hN
 rw [← hN] at hn ⊢
 clear hr hN hok
 go_enter Tryz.func158, Tryz.ntmps158
 go_wp2_with fail
 go_loopw [0, 5] (fun g i wr => ∃ k : Nat, k ≤ N ∧ i = .int .i64 k ∧ g = .int .i64 (grownE n (l.take k)) ∧ Ext w wr) (fun _ i _ => N - (intOf i).toNat)
 case atStart => exact ⟨0, by omega, rfl, rfl, Mod.refl _ _⟩
 case round =>
  obtain ⟨k, hk, rfl, rfl, hx⟩ := hrel
  by_cases hlt : k < N
  ·have hlt' : (k : Int) < (N : Int) := by omega
   have hk0 : (0 : Int) ≤ (k : Int) := by omega
   obtain ⟨b, off, rfl⟩ := Hr.out.some (by have := HN.out; omega)
   have hlk : k < l.length := by rw [← HN.out]; exact hlt
   obtain ⟨c0, c1, c2⟩ := rdEd_at (Hr.out.mod hx (fun _ _ f => f)) (List.getElem?_eq_getElem hlk)
   have Hst := Lib.hid (grownE_step n (List.getElem?_eq_getElem hlk))
   obtain ⟨e1, e2, e3, e4, e5⟩ := Hok.out _ (List.getElem_mem hlk)
   have hb1 := Hbd.out k
   have hb2 := Hbd.out (k + 1)
   rw [Hst.out] at hb2
   generalize l[k] = x at *
   generalize grownE n (l.take k) = G at *
   unfold dE at Hst hb2
   have s1 : IntKind.i64.wrap (G + (x.t.size : Int)) = G + (x.t.size : Int) := IntWalk.i64_in _ (by omega)
   have s2 : IntKind.i64.wrap (x.b - x.a) = x.b - x.a := IntWalk.i64_in _ (by omega)
   have s3 : IntKind.i64.wrap (G + (x.t.size : Int) - (x.b - x.a)) = G + (x.t.size : Int) - (x.b - x.a) := IntWalk.i64_in _ (by omega)
   have hbl := World.block_lt_of_cell? wr _ c0
   clear hlk
   go_wp2_with fail
   go_quiet (fail)
   go_wp2_with fail
   go_roundw
   case rel => exact ⟨k + 1, by omega, by go_num, by rw [Hst.out]; exact congrArg (Value.int .i64) (by omega), hx.drewN _⟩
   case measure => simp [intOf]; omega
  ·have hlt' : ¬ (k : Int) < (N : Int) := by omega
   obtain rfl : k = N := by omega
   have Hg := Lib.hid (show grownE n (l.take k) = grownE n l by rw [List.take_of_length_le (by rw [← HN.out]; exact Nat.le_refl _)])
   rw [Hg.out]
   go_wp2_with fail
   go_ret
   exact ⟨rfl, hx⟩
theorem rfMayE_any (n : Int) (ao : Option Addr) (cap : Nat) (l : List Ed) (w : World) (hr : Reads w 3 ao l.length (edE.cells l)) (hn : l.length ≤ 1000) (h0 : 0 ≤ n) (h1 : n ≤ 1000000) (ht : ∀ e ∈ l, e.t.size ≤ 100000) :
  Calls Tryz.prog 122 #[.int .i64 n, .slice ao l.length cap] w fun e w' => e = .returned (.int .i64 (mayE n l)) ∧ Ext w w' := by
 have HR := Lib.hid (rfRanged_any n ao cap l w hr hn)
 by_cases hz : rangedE n l = 0
 ·have hok : ∀ e ∈ l, EdNear e := fun e he => by obtain ⟨h2, h3, h4⟩ := rangedE_mem hz e he; have := ht e he; unfold EdNear; omega
  have HG := Lib.hid (fun w' (h' : Ext w w') => rfGrown_any n ao cap l w' (hr.mod h' (fun _ _ f => f)) hn hok (by omega) (by omega))
  rw [mayE_fit hz]
  rw [hz] at HR
  generalize grownE n l = G at *
  generalize l.length = N at *
  clear hr hok hz ht
  by_cases hb : 65536 < G
  ·rw [if_pos hb]
   go_enter Tryz.func122, Tryz.ntmps122
   go_wp2_with fail
   refine HR.out.mono ?_
   rintro e w1 ⟨rfl, hx1⟩
   have HG1 := Lib.hid (HG.out w1 hx1)
   clear HR HG
   go_wp2_with fail
   refine HG1.out.mono ?_
   rintro e w2 ⟨rfl, hx2⟩
   go_wp2_with fail
   go_ret
   exact ⟨rfl, hx1.ext_trans hx2⟩
  ·rw [if_neg hb]
   go_enter Tryz.func122, Tryz.ntmps122
   go_wp2_with fail
   refine HR.out.mono ?_
   rintro e w1 ⟨rfl, hx1⟩
   have HG1 := Lib.hid (HG.out w1 hx1)
   clear HR HG
   go_wp2_with fail
   refine HG1.out.mono ?_
   rintro e w2 ⟨rfl, hx2⟩
   go_wp2_with fail
   go_ret
   exact ⟨rfl, hx1.ext_trans hx2⟩
 ·rw [mayE_bad hz]
  generalize rangedE n l = C at *
  generalize l.length = N at *
  have hz1 : (C != 0) = true := by simpa using hz
  clear hr ht hz
  go_enter Tryz.func122, Tryz.ntmps122
  go_wp2_with fail
  refine HR.out.mono ?_
  rintro e w1 ⟨rfl, hx1⟩
  go_wp2_with fail
  go_ret
  exact ⟨rfl, hx1⟩
theorem rfApply_yes (s : ByteArray) (ao : Option Addr) (cap : Nat) (l : List Ed) (w : World) (hs : s.size ≤ 65536) (hr : Reads w 3 ao l.length (edE.cells l)) (hn : l.length ≤ 1000) (ht : ∀ e ∈ l, e.t.size ≤ 100000) (hm : mayE s.size l = 0) :
  Calls Tryz.prog 88 #[.string s, .slice ao l.length cap] w fun e w' => e = .returned (.tuple #[.string (bs (applyL s.data.toList l)), .int .i64 0]) ∧ Ext w w' := by
 obtain ⟨hrz, hgr⟩ := mayE_zero hm
 have hO := ord_of (m := s.size) rfl hrz
 have hOk : ∀ e ∈ sorted lessE l, 0 ≤ e.a ∧ e.a ≤ e.b ∧ e.b ≤ 65536 ∧ e.t.size ≤ 100000 := fun e he => by
  have he := (sorted_mem lessE l e).1 he
  obtain ⟨h1, h2, h3⟩ := rangedE_mem hrz e he
  exact ⟨h1, h2, by omega, ht e he⟩
 have HM := Lib.hid (rfMayE_any s.size ao cap l w hr hn (by omega) (by omega) ht)
 rw [hm] at HM
 have HSo := Lib.hid (fun w' (h : Ext w w') => refSortEd_any ao cap l w' (hr.mod h (fun _ _ f => f)) hn)
 have hSl := sorted_length lessE l
 have Hap := Lib.hid (show applyL s.data.toList l = doTo s.data.toList (sorted lessE l) 0 by unfold doTo; rw [List.drop_zero]; rfl)
 have HOk := Lib.hid hOk
 have Hln := Lib.hid (fun i => doTo_len hO (fun e he => (hOk e he).2.2.2) _ i rfl)
 generalize sorted lessE l = S at *
 have HO := Lib.hid hO
 rw [Hap.out]
 obtain ⟨N, hN⟩ : ∃ N, N = l.length := ⟨_, rfl⟩
 rw [← hN] at hn hSl HSo HM ⊢
 have HSl := Lib.hid hSl
 clear hr hN ht hm hrz hgr hO hOk hSl
 go_enter Tryz.func88, Tryz.ntmps88
 go_wp2_with fail
 refine HM.out.mono ?_
 rintro e w1 ⟨rfl, hx1⟩
 have HSo2 := Lib.hid (HSo.out w1 hx1)
 clear HM HSo
 go_wp2_with fail
 refine HSo2.out.mono ?_
 rintro e w2 ⟨v, rfl, hov, -, hx2⟩
 obtain ⟨a1, c1, rfl, hrd⟩ := Enc.owns_reads (E := edE) hov
 have Hrd := Lib.hid hrd
 have hx0 := hx1.ext_trans hx2
 clear HSo2 hrd hov hx1 hx2
 go_wp2_with fail
 go_loopw [0, 8] (fun t i wr => ∃ (c : Nat) (j : Int), c ≤ N ∧ j = (c : Int) - 1 ∧ i = .int .i64 j ∧ t = .string (bs (doTo s.data.toList S c)) ∧ Ext w wr ∧ Ext w2 wr) (fun _ i _ => (intOf i + 1).toNat)
 case atStart => exact ⟨N, _, Nat.le_refl _, rfl, rfl, by rw [doTo_all _ _ (by rw [HSl.out]; exact Nat.le_refl _), bs_of], hx0, Mod.refl _ _⟩
 case round =>
  obtain ⟨c, j, hc, hj, rfl, rfl, hx, hy⟩ := hrel
  by_cases hc0 : c = 0
  ·subst hc0
   have hjn : ¬ (0 : Int) ≤ j := by omega
   clear hj
   go_wp2_with fail
   go_ret2
   exact ⟨rfl, hx⟩
  ·obtain ⟨d, rfl⟩ : ∃ d, c = d + 1 := ⟨c - 1, by omega⟩
   obtain rfl : j = (d : Int) := by omega
   have hd0 : (0 : Int) ≤ (d : Int) := by omega
   have hd1 : (d : Int) < (N : Int) := by omega
   have hd2 : (d : Int) ≤ 1000 := by omega
   have hdl : d < S.length := by rw [HSl.out]; omega
   obtain ⟨b, off, rfl⟩ := Hrd.out.some (by omega)
   obtain ⟨c0, c1', c2⟩ := rdEd_at (Hrd.out.mod hy (fun _ _ f => f)) (List.getElem?_eq_getElem hdl)
   have Hst := Lib.hid (doTo_step s.data.toList (List.getElem?_eq_getElem hdl))
   have hfit := (doTo_fit HO.out (List.getElem?_eq_getElem hdl)).2
   obtain ⟨x1, x2, x3, x4⟩ := HOk.out _ (List.getElem_mem hdl)
   have hln := Hln.out (d + 1)
   have hSl2 := HSl.out
   generalize S[d] = x at *
   unfold Z at hfit
   have hz0 : s.data.toList.length = s.size := rfl
   have hz1 : (bs (doTo s.data.toList S (d + 1))).size = (doTo s.data.toList S (d + 1)).length := rfl
   have Hze := Lib.hid (splice_ed (bs (doTo s.data.toList S (d + 1))) x.t x.a x.b)
   have Hdl := Lib.hid (show (bs (doTo s.data.toList S (d + 1))).data.toList = doTo s.data.toList S (d + 1) from rfl)
   have hzb : (bs (doTo s.data.toList S (d + 1))).size ≤ 200000000 := by
    rw [hz1]
    have : (S.length - (d + 1)) * 100000 ≤ 1000 * 100000 := Nat.mul_le_mul_right _ (by omega)
    omega
   rw [← hz1] at hfit
   generalize bs (doTo s.data.toList S (d + 1)) = z at *
   have k1 : x.a ≤ (z.size : Int) := by omega
   have k2 : x.b ≤ (z.size : Int) := by omega
   have k3 : 0 ≤ x.b := by omega
   have p1 : (z.extract 0 x.a.toNat).size ≤ 200000000 := by rw [ByteArray.size_extract]; omega
   have p2 : (z.extract x.b.toNat z.size).size ≤ 200000000 := by rw [ByteArray.size_extract]; omega
   have q1 : ¬ (9223372036854775807 : Int) < ((z.extract 0 x.a.toNat).size : Int) + (x.t.size : Int) := by omega
   have q2 : ¬ (9223372036854775807 : Int) < ((z.extract 0 x.a.toNat ++ x.t).size : Int) + ((z.extract x.b.toNat z.size).size : Int) := by rw [ByteArray.size_append]; omega
   have hbl := World.block_lt_of_cell? wr _ c0
   clear hj hfit hdl hln hSl2 hz0 hz1 hzb hc0
   go_wp2_with fail
   go_quiet (fail)
   go_wp2_with fail
   go_roundw
   case rel =>
    refine ⟨d, _, by omega, rfl, by go_num, ?_, hx.drewN _, hy.drewN _⟩
    rw [Hst.out, ← Hdl.out, Hze.out]
    rfl
   case measure => simp [intOf]
theorem rfApply_no (s : ByteArray) (ao : Option Addr) (cap : Nat) (l : List Ed) (w : World) (hs : s.size ≤ 65536) (hr : Reads w 3 ao l.length (edE.cells l)) (hn : l.length ≤ 1000) (ht : ∀ e ∈ l, e.t.size ≤ 100000) (hm : mayE s.size l ≠ 0) :
  Calls Tryz.prog 88 #[.string s, .slice ao l.length cap] w fun e w' => e = .returned (.tuple #[.string ⟨#[]⟩, .int .i64 (mayE s.size l)]) ∧ Ext w w' := by
 have HM := Lib.hid (rfMayE_any s.size ao cap l w hr hn (by omega) (by omega) ht)
 generalize mayE s.size l = C at *
 generalize l.length = N at *
 have hz1 : (C != 0) = true := by simpa using hm
 clear hr ht hm
 go_enter Tryz.func88, Tryz.ntmps88
 go_wp2_with fail
 refine HM.out.mono ?_
 rintro e w1 ⟨rfl, hx1⟩
 go_wp2_with fail
 go_ret2
 exact ⟨rfl, hx1⟩
end Go.Proofs.YthlmgoagnfkhdaaGreat

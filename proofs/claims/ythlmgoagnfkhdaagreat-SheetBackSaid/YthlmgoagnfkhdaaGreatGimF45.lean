/- Has a sheet what the document tells? Conditions: a sheet and a paper that tell the same, made since a world. -/
import Derived.Test.YthlmgoagnfkhdaaGreatGimF44
import Derived.Test.YthlmgoagnfkhdaaGreatGimF39
import Derived.Test.YthlmgoagnfkhdaaGreatGimF42
set_option maxHeartbeats 6400000
set_option maxRecDepth 1000000
set_option linter.unusedVariables false
set_option linter.unusedSimpArgs false
namespace Go.Proofs.YthlmgoagnfkhdaaGreat
open Go.RowKit Go.Gim
theorem sameS_any (w0 w : World) (S : Sh) (p : Pp) (Bd : Int) (h : Both w0 w S p Bd 6) (hs : S.s.size ≤ 65536) :
  Calls Tryz.prog 37 #[.pointer (some ⟨S.sb, 0, none⟩), .pointer (some ⟨p.pb, 0, none⟩)] w fun e w' => e = .returned (.bool true) ∧ Ext w w' := by
 have hT := h.tok
 obtain ⟨a1, c1, hv1, hr1⟩ := h.pap.ref.rdI
 obtain ⟨a2, c2, hv2, hr2⟩ := h.pap.ref.rdR
 have HTx := Lib.hid (fun w' (h' : Ext w w') => text_rope S.R w' (h.sh.rope.ext h'))
 rw [bs_eq h.sh.text] at HTx
 have HLn := Lib.hid (fun w' (h' : Ext w w') => Calls.same_ext (len_any S.R w' (h.sh.rope.ext h')))
 rw [size_of h.sh.text] at HLn
 have HSe := Lib.hid (fun w' (h' : Ext w w') => ssels_any S w' (h.sh.ext h') h.q0 (by have := h.q1; omega))
 have HId := Lib.hid (fun w' (h' : Ext w w') => ids_any S.tb S.mb S.last S.L w' (h.sh.tab.ext h').blk (h.sh.tab.ext h').map hT.rise (by have := hT.len; omega))
 have HGt := Lib.hid (fun id w' (h' : Ext w w') (hid : (Lit.int .i64 id).wf = true) => tget_any S.tb S.mb S.L S.last id w' (h.sh.tab.ext h') hid)
 have HrI := Lib.hid hr1
 have HrR := Lib.hid hr2
 have HT := Lib.hid hT
 have HSs := Lib.hid (fun w' (h' : Ext w w') => Reads.own (h.pap.ext h').sels)
 have HB := Lib.hid h
 have hub := h.pap.ref.blk
 rw [hv1, hv2] at hub
 have Hub := Lib.hid hub
 unfold NewRow at HSe
 unfold Enc.Out at HId
 obtain ⟨N, hN⟩ : ∃ N, N = S.L.length := ⟨_, rfl⟩
 have HN := Lib.hid hN
 have hil : (idsR S.L).length = N := by rw [hN]; exact idsR_len S.L
 have hn : N ≤ 256 := by rw [hN]; exact hT.len
 have Hil := Lib.hid hil
 rw [hil] at HId
 rw [← hN] at HrI HrR Hub
 have Hq6 := Lib.hid h.q1
 have HS := Lib.hid (fun w' (h' : Ext w w') => (⟨(h.sh.ext h').blk.cell 0, (h.sh.ext h').blk.cell 1, (h.pap.ext h').blk.cell 0, (h.pap.ext h').blk.cell 1, (h.pap.ext h').blk.cell 2, (Hub.out.mod h' (fun f => f)).cell 0, trivial, trivial, trivial, trivial, trivial, trivial⟩ :
  w'.cell? ⟨S.sb, 0, none⟩ = some (.pointer (some ⟨S.R.rb, 0, none⟩)) ∧ w'.cell? ⟨S.sb, 1, none⟩ = some (.pointer (some ⟨S.tb, 0, none⟩)) ∧ w'.cell? ⟨p.pb, 0, none⟩ = some (.string S.s) ∧ w'.cell? ⟨p.pb, 1, none⟩ = some (.slice p.ao S.q.length p.c) ∧ w'.cell? ⟨p.pb, 2, none⟩ = some (.pointer (some ⟨p.ub, 0, none⟩)) ∧ w'.cell? ⟨p.ub, 0, none⟩ = some (.slice a1 N c1) ∧ True ∧ True ∧ True ∧ True ∧ True ∧ True))
 have hss : (S.s.toList == S.s.toList) = true := beq_self_eq_true _
 have hsz : ((S.s.size : Int) == (S.s.size : Int)) = true := beq_self_eq_true _
 clear h hT hr1 hr2 hub hN hil hv1 hv2
 go_enter Tryz.func37, Tryz.ntmps37
 go_upto_region 1 with fail
 refine wp_region_E (by kernel_rfl) ?_
 refine wpE_t 0 8 (v := ?_) (fun w' hw' => qat_value ?_) ?_
 rotate_left
 ·go_simp
  rfl
 simp only [fr1, fr2, fr3, fr4]
 refine wpE_t 1 9 (v := ?_) (fun w' hw' => qat_value ?_) ?_
 rotate_left
 ·go_simp
  rfl
 simp only [fr1, fr2, fr3, fr4]
 refine wpE_t 2 10 (v := ?_) (fun w' hw' => qat_value ?_) ?_
 rotate_left
 ·go_simp
  rfl
 simp only [fr1, fr2, fr3, fr4]
 refine wpE_t 3 11 (v := ?_) (fun w' hw' => qat_value ?_) ?_
 rotate_left
 ·go_simp
  rfl
 simp only [fr1, fr2, fr3, fr4]
 refine wpE_t 4 12 (v := ?_) (fun w' hw' => ?_) ?_
 rotate_left
 ·obtain ⟨r0, r1, r2, r3, r4, r5, r6, r7, r8, r9, r10, r11⟩ := HS.out w' hw'
  refine qat_value ?_
  go_simp
  rfl
 simp only [fr1, fr2, fr3, fr4]
 refine wpE_t 5 13 (v := ?_) (fun w' hw' => ?_) ?_
 rotate_left
 ·refine qat_enter (by go_simp; exact ⟨rfl, rfl⟩) ?_
  exact HTx.out _ hw'
 simp only [fr1, fr2, fr3, fr4]
 refine wpE_t 6 14 (v := ?_) (fun w' hw' => qat_value ?_) ?_
 rotate_left
 ·go_simp
  rfl
 simp only [fr1, fr2, fr3, fr4]
 refine wpE_t 7 15 (v := ?_) (fun w' hw' => qat_value ?_) ?_
 rotate_left
 ·go_simp
  rfl
 simp only [fr1, fr2, fr3, fr4]
 refine wpE_t 8 16 (v := ?_) (fun w' hw' => qat_value ?_) ?_
 rotate_left
 ·go_simp
  rfl
 simp only [fr1, fr2, fr3, fr4]
 refine wpE_t 9 17 (v := ?_) (fun w' hw' => ?_) ?_
 rotate_left
 ·obtain ⟨r0, r1, r2, r3, r4, r5, r6, r7, r8, r9, r10, r11⟩ := HS.out w' hw'
  refine qat_value ?_
  go_simp
  rfl
 simp only [fr1, fr2, fr3, fr4]
 refine wpE_t 10 18 (v := ?_) (fun w' hw' => qat_value ?_) ?_
 rotate_left
 ·go_simp
  rfl
 simp only [fr1, fr2, fr3, fr4]
 refine wpE_t 11 19 (v := ?_) (fun w' hw' => qat_value ?_) ?_
 rotate_left
 ·go_simp
  rfl
 simp only [fr1, fr2, fr3, fr4]
 refine wpE_t 12 20 (v := ?_) (fun w' hw' => qat_value ?_) ?_
 rotate_left
 ·go_simp
  rfl
 simp only [fr1, fr2, fr3, fr4]
 refine wpE_t 13 21 (v := ?_) (fun w' hw' => qat_value ?_) ?_
 rotate_left
 ·go_simp
  rfl
 simp only [fr1, fr2, fr3, fr4]
 refine wpE_t 14 22 (v := ?_) (fun w' hw' => qat_value ?_) ?_
 rotate_left
 ·go_simp
  rfl
 simp only [fr1, fr2, fr3, fr4]
 refine wpE_t 15 23 (v := ?_) (fun w' hw' => qat_value ?_) ?_
 rotate_left
 ·go_simp
  rfl
 simp only [fr1, fr2, fr3, fr4]
 refine wpE_t 16 24 (v := ?_) (fun w' hw' => ?_) ?_
 rotate_left
 ·obtain ⟨r0, r1, r2, r3, r4, r5, r6, r7, r8, r9, r10, r11⟩ := HS.out w' hw'
  refine qat_value ?_
  go_simp
  rfl
 simp only [fr1, fr2, fr3, fr4]
 refine wpE_t 17 25 (v := ?_) (fun w' hw' => ?_) ?_
 rotate_left
 ·refine qat_enter (by go_simp; exact ⟨rfl, rfl⟩) ?_
  exact HLn.out _ hw'
 simp only [fr1, fr2, fr3, fr4]
 refine wpE_t 18 26 (v := ?_) (fun w' hw' => qat_value ?_) ?_
 rotate_left
 ·go_simp
  rfl
 simp only [fr1, fr2, fr3, fr4]
 refine wpE_t 19 27 (v := ?_) (fun w' hw' => qat_value ?_) ?_
 rotate_left
 ·go_simp
  rfl
 simp only [fr1, fr2, fr3, fr4]
 refine wpE_t 20 28 (v := ?_) (fun w' hw' => qat_value ?_) ?_
 rotate_left
 ·go_simp
  rfl
 simp only [fr1, fr2, fr3, fr4]
 refine wpE_t 21 29 (v := ?_) (fun w' hw' => ?_) ?_
 rotate_left
 ·obtain ⟨r0, r1, r2, r3, r4, r5, r6, r7, r8, r9, r10, r11⟩ := HS.out w' hw'
  refine qat_value ?_
  go_simp
  rfl
 simp only [fr1, fr2, fr3, fr4]
 refine wpE_t 22 30 (v := ?_) (fun w' hw' => qat_value ?_) ?_
 rotate_left
 ·go_simp
  rfl
 simp only [fr1, fr2, fr3, fr4]
 refine wpE_t 23 31 (v := ?_) (fun w' hw' => qat_value ?_) ?_
 rotate_left
 ·go_simp
  rfl
 simp only [fr1, fr2, fr3, fr4]
 refine wpE_t 24 32 (v := ?_) (fun w' hw' => qat_value ?_) ?_
 rotate_left
 ·go_simp
  rfl
 simp only [fr1, fr2, fr3, fr4]
 refine wpE_t 25 33 (v := ?_) (fun w' hw' => qat_value ?_) ?_
 rotate_left
 ·go_simp
  rfl
 simp only [fr1, fr2, fr3, fr4]
 refine wpE_t 26 34 (v := ?_) (fun w' hw' => qat_value ?_) ?_
 rotate_left
 ·go_simp
  rfl
 simp only [fr1, fr2, fr3, fr4]
 refine wpE_t 28 36 (v := ?_) (fun w' hw' => qat_value ?_) ?_
 rotate_left
 ·go_simp
  rfl
 simp only [fr1, fr2, fr3, fr4]
 refine wpE_t 29 37 (v := ?_) (fun w' hw' => qat_value ?_) ?_
 rotate_left
 ·go_simp
  rfl
 simp only [fr1, fr2, fr3, fr4]
 refine wpE_t 30 38 (v := ?_) (fun w' hw' => qat_value ?_) ?_
 rotate_left
 ·go_simp
  rfl
 simp only [fr1, fr2, fr3, fr4]
 refine wpE_t 31 39 (v := ?_) (fun w' hw' => ?_) ?_
 rotate_left
 ·obtain ⟨r0, r1, r2, r3, r4, r5, r6, r7, r8, r9, r10, r11⟩ := HS.out w' hw'
  refine qat_value ?_
  go_simp
  rfl
 simp only [fr1, fr2, fr3, fr4]
 refine wpE_callw 27 35 (f := 16) (args := #[.pointer (some ⟨S.sb, 0, none⟩)]) rfl rfl (by kernel_rfl) rfl (fun w' => by first | (go_simp; done) | (go_simp; exact ⟨rfl, rfl⟩)) fun wb hwb => ?_
 have hyb : Ext w wb := (ext_draw w).ext_trans hwb
 refine (HSe.out wb hyb).mono ?_
 rintro e wc ⟨gs, cs, rfl, hos, hx1⟩
 have hyc := hyb.ext_trans hx1
 refine ⟨_, rfl, hyc, ?_⟩
 simp only [fr1, fr2, fr3, fr4]
 refine wpE_callw 32 40 (f := 24) (args := #[.slice (some ⟨gs, 0, none⟩) S.q.length cs, .slice p.ao S.q.length p.c]) rfl rfl (by kernel_rfl) rfl (fun w' => by first | (go_simp; done) | (go_simp; exact ⟨rfl, rfl⟩)) fun wd hwd => ?_
 have hyd := hyc.ext_trans hwd
 refine (selsSame (some ⟨gs, 0, none⟩) p.ao cs p.c S.q wd ((Reads.own hos).mod hwd (fun _ _ f => f)) (HSs.out wd hyd) (by have := Hq6.out; omega)).mono ?_
 rintro e we ⟨rfl, hx2⟩
 have hye := hyd.ext_trans hx2
 refine ⟨_, rfl, hye, ?_⟩
 simp only [fr1, fr2, fr3, fr4]
 refine wpE_t 33 41 (v := ?_) (fun w' hw' => qat_value ?_) ?_
 rotate_left
 ·go_simp
  rfl
 simp only [fr1, fr2, fr3, fr4]
 refine wpE_t 34 42 (v := ?_) (fun w' hw' => qat_value ?_) ?_
 rotate_left
 ·go_simp
  rfl
 simp only [fr1, fr2, fr3, fr4]
 refine wpE_t 35 43 (v := ?_) (fun w' hw' => qat_value ?_) ?_
 rotate_left
 ·go_simp
  rfl
 simp only [fr1, fr2, fr3, fr4]
 refine wpE_t 36 44 (v := ?_) (fun w' hw' => qat_value ?_) ?_
 rotate_left
 ·go_simp
  rfl
 simp only [fr1, fr2, fr3, fr4]
 refine wpE_t 37 45 (v := ?_) (fun w' hw' => qat_value ?_) ?_
 rotate_left
 ·go_simp
  rfl
 simp only [fr1, fr2, fr3, fr4]
 refine wpE_t 38 46 (v := ?_) (fun w' hw' => qat_value ?_) ?_
 rotate_left
 ·go_simp
  rfl
 simp only [fr1, fr2, fr3, fr4]
 refine wpE_t 39 47 (v := ?_) (fun w' hw' => ?_) ?_
 rotate_left
 ·obtain ⟨r0, r1, r2, r3, r4, r5, r6, r7, r8, r9, r10, r11⟩ := HS.out w' hw'
  refine qat_value ?_
  go_simp
  rfl
 simp only [fr1, fr2, fr3, fr4]
 refine wpE_t 41 49 (v := ?_) (fun w' hw' => qat_value ?_) ?_
 rotate_left
 ·go_simp
  rfl
 simp only [fr1, fr2, fr3, fr4]
 refine wpE_t 42 50 (v := ?_) (fun w' hw' => qat_value ?_) ?_
 rotate_left
 ·go_simp
  rfl
 simp only [fr1, fr2, fr3, fr4]
 refine wpE_t 43 51 (v := ?_) (fun w' hw' => qat_value ?_) ?_
 rotate_left
 ·go_simp
  rfl
 simp only [fr1, fr2, fr3, fr4]
 refine wpE_t 44 52 (v := ?_) (fun w' hw' => ?_) ?_
 rotate_left
 ·obtain ⟨r0, r1, r2, r3, r4, r5, r6, r7, r8, r9, r10, r11⟩ := HS.out w' hw'
  refine qat_value ?_
  go_simp
  rfl
 simp only [fr1, fr2, fr3, fr4]
 refine wpE_t 45 53 (v := ?_) (fun w' hw' => qat_value ?_) ?_
 rotate_left
 ·go_simp
  rfl
 simp only [fr1, fr2, fr3, fr4]
 refine wpE_t 46 54 (v := ?_) (fun w' hw' => qat_value ?_) ?_
 rotate_left
 ·go_simp
  rfl
 simp only [fr1, fr2, fr3, fr4]
 refine wpE_t 47 55 (v := ?_) (fun w' hw' => ?_) ?_
 rotate_left
 ·obtain ⟨r0, r1, r2, r3, r4, r5, r6, r7, r8, r9, r10, r11⟩ := HS.out w' hw'
  refine qat_value ?_
  go_simp
  rfl
 simp only [fr1, fr2, fr3, fr4]
 refine wpE_callw 40 48 (f := 41) (args := #[.pointer (some ⟨S.tb, 0, none⟩)]) rfl rfl (by kernel_rfl) rfl (fun w' => by first | (go_simp; done) | (go_simp; exact ⟨rfl, rfl⟩)) fun wf hwf => ?_
 have hyf := hye.ext_trans hwf
 refine (HId.out wf hyf).mono ?_
 rintro e wg ⟨v, rfl, hoi, hx3⟩
 obtain ⟨ai, ci, rfl, hri⟩ := Enc.owns_reads (E := inE) hoi
 have hyg := hyf.ext_trans hx3
 refine ⟨_, rfl, hyg, ?_⟩
 simp only [fr1, fr2, fr3, fr4]
 refine wpE_callw 48 56 (f := 42) (args := #[.slice ai N ci, .slice a1 N c1]) rfl rfl (by kernel_rfl) rfl (fun w' => by first | (go_simp; done) | (go_simp; exact ⟨rfl, rfl⟩)) fun wh hwh => ?_
 have hyh := hyg.ext_trans hwh
 have hint := intsSame (idsR S.L) ai a1 ci c1 wh (by rw [Hil.out]; exact hri.mod hwh (fun _ _ f => f)) (by rw [Hil.out]; exact HrI.out.mod hyh (fun _ _ f => f)) (by rw [Hil.out]; omega)
 rw [Hil.out] at hint
 refine hint.mono ?_
 rintro e wi ⟨rfl, hx4⟩
 have hyi := hyh.ext_trans hx4
 refine ⟨_, rfl, hyi, ?_⟩
 simp only [fr1, fr2, fr3, fr4]
 refine wpE_t 49 57 (v := ?_) (fun w' hw' => qat_value ?_) ?_
 rotate_left
 ·go_simp
  rfl
 simp only [fr1, fr2, fr3, fr4]
 refine wpE_t 50 58 (v := ?_) (fun w' hw' => qat_value ?_) ?_
 rotate_left
 ·go_simp
  rfl
 simp only [fr1, fr2, fr3, fr4]
 refine wpE_done (by kernel_rfl) (fun wj hwj => ?_) _
 have hx0 := hyi.ext_trans hwj
 clear hyb hwb hos hx1 hyc hwd hyd hx2 hye hwf hyf hoi hri hx3 hyg hwh hyh hint hx4 hyi hwj HTx HLn HSe HId HSs
 obtain ⟨r0, r1, r2, r3, r4, r5, -⟩ := HS.out wj hx0
 have l1 : p.pb < wj.heap.size := (HB.out.pap.ext hx0).blk.lt
 have l2 : p.ub < wj.heap.size := (HB.out.pap.ext hx0).ref.blk.lt
 go_wp2_with fail
 go_loopw [5] (fun i wr => ∃ k : Nat, k ≤ N ∧ i = .int .i64 k ∧ Ext w wr) (fun i _ => N - (intOf i).toNat)
 case atStart => exact ⟨0, by omega, rfl, hx0⟩
 case round =>
  clear r0 r1 r2 r3 r4 r5 l1 l2 hx0
  obtain ⟨k, hk, rfl, hx⟩ := hrel
  obtain ⟨r0, r1, r2, r3, r4, r5, -⟩ := HS.out _ hx
  have l1 : p.pb < wr.heap.size := (HB.out.pap.ext hx).blk.lt
  have l2 : p.ub < wr.heap.size := (HB.out.pap.ext hx).ref.blk.lt
  by_cases hlt : k < N
  ·have hlt' : (k : Int) < (N : Int) := by omega
   have hk0 : (0 : Int) ≤ (k : Int) := by omega
   obtain ⟨bi, oi, rfl⟩ := HrI.out.some (by omega)
   obtain ⟨br, or, rfl⟩ := HrR.out.some (by omega)
   have hmL : k < S.L.length := by rw [← HN.out]; exact hlt
   have hkL : S.L[k]? = some (S.L[k]'hmL) := List.getElem?_eq_getElem _
   have hidK : (idsR S.L)[k]? = some (S.L[k]'hmL).1 := by unfold idsR; rw [List.getElem?_map, hkL]; rfl
   have hxR : (S.L.map (·.2))[k]? = some (S.L[k]'hmL).2 := by rw [List.getElem?_map, hkL]; rfl
   have hgr := getR_of_mem HT.out.once (show ((S.L[k]'hmL).1, (S.L[k]'hmL).2) ∈ S.L from List.getElem_mem _)
   have hib := HT.out.ids _ (List.getElem_mem hmL)
   have hl0 := HT.out.last0
   generalize S.L[k]'hmL = z at *
   obtain ⟨id1, ra, rb, rp, rq, ru⟩ := z
   simp only at hidK hxR hgr hib
   have HG := Lib.hid (fun w' (h' : Ext w w') => HGt.out id1 w' h' (id_wf (by omega) (by omega)))
   rw [hgr] at HG
   rw [show (some (⟨ra, rb, rp, rq, ru⟩ : Rg)).getD rg0 = ⟨ra, rb, rp, rq, ru⟩ from rfl] at HG
   unfold rgV at HG
   simp only [Option.isSome_some] at HG
   have HidK := Lib.hid hidK
   have HxR := Lib.hid hxR
   clear hgr hkL hidK hxR hib hl0
   go_upto_region 6 with fail
   have HS1 := HS
   clear HS r0 r1 r2 r3 r4 r5 l1 l2
   have HS := Lib.hid (fun w' (h' : Ext wr w') => by
    obtain ⟨r0, r1, r2, r3, r4, r5, -⟩ := HS1.out w' (hx.ext_trans h')
    exact (⟨r1, r4, r5, rdIn_at (HrI.out.mod (hx.ext_trans h') (fun _ _ f => f)) HidK.out, trivial, trivial, trivial, trivial, trivial, trivial, trivial, trivial⟩ :
     w'.cell? ⟨S.sb, 1, none⟩ = some (.pointer (some ⟨S.tb, 0, none⟩)) ∧ w'.cell? ⟨p.pb, 2, none⟩ = some (.pointer (some ⟨p.ub, 0, none⟩)) ∧ w'.cell? ⟨p.ub, 0, none⟩ = some (.slice (some ⟨bi, oi, none⟩) N c1) ∧ w'.cell? ⟨bi, oi + k, none⟩ = some (.int .i64 id1) ∧ True ∧ True ∧ True ∧ True ∧ True ∧ True ∧ True ∧ True))
   refine wp_region_E (by kernel_rfl) ?_
   refine wpE_t 0 72 (v := ?_) (fun w' hw' => qat_value ?_) ?_
   rotate_left
   ·go_simp
    rfl
   simp only [fr1, fr2, fr3, fr4]
   refine wpE_t 1 73 (v := ?_) (fun w' hw' => qat_value ?_) ?_
   rotate_left
   ·go_simp
    rfl
   simp only [fr1, fr2, fr3, fr4]
   refine wpE_t 2 74 (v := ?_) (fun w' hw' => qat_value ?_) ?_
   rotate_left
   ·go_simp
    rfl
   simp only [fr1, fr2, fr3, fr4]
   refine wpE_t 3 75 (v := ?_) (fun w' hw' => ?_) ?_
   rotate_left
   ·obtain ⟨r0, r1, r2, r3, r4, r5, r6, r7, r8, r9, r10, r11⟩ := HS.out w' hw'
    refine qat_value ?_
    go_simp
    rfl
   simp only [fr1, fr2, fr3, fr4]
   refine wpE_t 4 76 (v := ?_) (fun w' hw' => qat_value ?_) ?_
   rotate_left
   ·go_simp
    rfl
   simp only [fr1, fr2, fr3, fr4]
   refine wpE_t 5 77 (v := ?_) (fun w' hw' => qat_value ?_) ?_
   rotate_left
   ·go_simp
    rfl
   simp only [fr1, fr2, fr3, fr4]
   refine wpE_t 6 78 (v := ?_) (fun w' hw' => qat_value ?_) ?_
   rotate_left
   ·go_simp
    rfl
   simp only [fr1, fr2, fr3, fr4]
   refine wpE_t 7 79 (v := ?_) (fun w' hw' => ?_) ?_
   rotate_left
   ·obtain ⟨r0, r1, r2, r3, r4, r5, r6, r7, r8, r9, r10, r11⟩ := HS.out w' hw'
    refine qat_value ?_
    go_simp
    rfl
   simp only [fr1, fr2, fr3, fr4]
   refine wpE_t 8 80 (v := ?_) (fun w' hw' => qat_value ?_) ?_
   rotate_left
   ·go_simp
    rfl
   simp only [fr1, fr2, fr3, fr4]
   refine wpE_t 9 81 (v := ?_) (fun w' hw' => qat_value ?_) ?_
   rotate_left
   ·go_simp
    rfl
   simp only [fr1, fr2, fr3, fr4]
   refine wpE_t 10 82 (v := ?_) (fun w' hw' => ?_) ?_
   rotate_left
   ·obtain ⟨r0, r1, r2, r3, r4, r5, r6, r7, r8, r9, r10, r11⟩ := HS.out w' hw'
    refine qat_value ?_
    go_simp
    rfl
   simp only [fr1, fr2, fr3, fr4]
   refine wpE_t 11 83 (v := ?_) (fun w' hw' => qat_value ?_) ?_
   rotate_left
   ·go_simp
    rfl
   simp only [fr1, fr2, fr3, fr4]
   refine wpE_t 12 84 (v := ?_) (fun w' hw' => qat_value ?_) ?_
   rotate_left
   ·go_simp
    rfl
   simp only [fr1, fr2, fr3, fr4]
   refine wpE_t 13 85 (v := ?_) (fun w' hw' => ?_) ?_
   rotate_left
   ·obtain ⟨r0, r1, r2, r3, r4, r5, r6, r7, r8, r9, r10, r11⟩ := HS.out w' hw'
    refine qat_value ?_
    go_simp
    rfl
   simp only [fr1, fr2, fr3, fr4]
   refine wpE_t 14 86 (v := ?_) (fun w' hw' => ?_) ?_
   rotate_left
   ·refine qat_enter (by go_simp; exact ⟨rfl, rfl⟩) ?_
    exact HG.out _ (hx.ext_trans hw')
   simp only [fr1, fr2, fr3, fr4]
   refine wpE_t 15 71 (v := ?_) (fun w' hw' => qat_value ?_) ?_
   rotate_left
   ·go_simp
    rfl
   simp only [fr1, fr2, fr3, fr4]
   refine wpE_t 16 87 (v := ?_) (fun w' hw' => qat_value ?_) ?_
   rotate_left
   ·go_simp
    rfl
   simp only [fr1, fr2, fr3, fr4]
   refine wpE_t 17 88 (v := ?_) (fun w' hw' => qat_value ?_) ?_
   rotate_left
   ·go_simp
    rfl
   simp only [fr1, fr2, fr3, fr4]
   refine wpE_boxT (x := #[.int .i64 ra, .int .i64 rb, .bool rp, .bool rq, .int .i64 ru]) box_rg 18 19 6 87 rfl rfl ⟨rfl, rfl⟩ ⟨rfl, rfl⟩ ⟨rfl, rfl⟩ (by kernel_rfl) (by kernel_rfl) ⟨by simp, by decide⟩ rfl rfl (by intro u hu; simp at hu; rcases hu with rfl | rfl | rfl | rfl | rfl <;> rfl) (ext_draw _) ?_
   intro wa bx hxa hbl hbu
   simp only [fr1, fr2, fr3, fr4]
   refine wpE_t 20 7 (v := ?_) (fun w' hw' => qat_value ?_) ?_
   rotate_left
   ·go_simp
    rfl
   simp only [fr1, fr2, fr3, fr4]
   refine wpE_done (by kernel_rfl) (fun u hwu => ?_) _
   have hyu := hx.ext_trans (hxa.ext_trans hwu)
   have Hbu := Lib.hid (hbu.mod hwu (fun f => f))
   clear HS HG hxa hwu hbu
   have HS := Lib.hid (fun w' (h' : Ext u w') => by
    obtain ⟨q0, q1, q2, q3, q4, q5, -⟩ := HS1.out w' (hyu.ext_trans h')
    obtain ⟨r0, r1, r2, r3, r4⟩ := reads_rg (HrR.out.mod (hyu.ext_trans h') (fun _ _ f => f)) HxR.out
    exact (⟨q4, (Hub.out.mod (hyu.ext_trans h') (fun f => f)).cell 1, r0, r1, r2, r3, r4, (Hbu.out.mod h' (fun f => f)).cell 0, (Hbu.out.mod h' (fun f => f)).cell 1, (Hbu.out.mod h' (fun f => f)).cell 2, (Hbu.out.mod h' (fun f => f)).cell 3, (Hbu.out.mod h' (fun f => f)).cell 4⟩ :
     w'.cell? ⟨p.pb, 2, none⟩ = some (.pointer (some ⟨p.ub, 0, none⟩)) ∧ w'.cell? ⟨p.ub, 1, none⟩ = some (.slice (some ⟨br, or, none⟩) N c2) ∧ w'.cell? ⟨br, or + k * 5, none⟩ = some (.int .i64 ra) ∧ w'.cell? ⟨br, or + k * 5 + 1, none⟩ = some (.int .i64 rb) ∧ w'.cell? ⟨br, or + k * 5 + 2, none⟩ = some (.bool rp) ∧ w'.cell? ⟨br, or + k * 5 + 3, none⟩ = some (.bool rq) ∧ w'.cell? ⟨br, or + k * 5 + 4, none⟩ = some (.int .i64 ru) ∧
     w'.cell? ⟨bx, 0, none⟩ = some (.int .i64 ra) ∧ w'.cell? ⟨bx, 1, none⟩ = some (.int .i64 rb) ∧ w'.cell? ⟨bx, 2, none⟩ = some (.bool rp) ∧ w'.cell? ⟨bx, 3, none⟩ = some (.bool rq) ∧ w'.cell? ⟨bx, 4, none⟩ = some (.int .i64 ru)))
   go_upto_region 7 with fail
   refine wp_region_E (by kernel_rfl) ?_
   refine wpE_t 0 89 (v := ?_) (fun w' hw' => qat_value ?_) ?_
   rotate_left
   ·go_simp
    rfl
   simp only [fr1, fr2, fr3, fr4]
   refine wpE_t 1 90 (v := ?_) (fun w' hw' => qat_value ?_) ?_
   rotate_left
   ·go_simp
    rfl
   simp only [fr1, fr2, fr3, fr4]
   refine wpE_t 2 91 (v := ?_) (fun w' hw' => qat_value ?_) ?_
   rotate_left
   ·go_simp
    rfl
   simp only [fr1, fr2, fr3, fr4]
   refine wpE_t 3 92 (v := ?_) (fun w' hw' => ?_) ?_
   rotate_left
   ·obtain ⟨r0, r1, r2, r3, r4, r5, r6, r7, r8, r9, r10, r11⟩ := HS.out w' hw'
    refine qat_value ?_
    go_simp
    rfl
   simp only [fr1, fr2, fr3, fr4]
   refine wpE_t 4 93 (v := ?_) (fun w' hw' => qat_value ?_) ?_
   rotate_left
   ·go_simp
    rfl
   simp only [fr1, fr2, fr3, fr4]
   refine wpE_t 5 94 (v := ?_) (fun w' hw' => qat_value ?_) ?_
   rotate_left
   ·go_simp
    rfl
   simp only [fr1, fr2, fr3, fr4]
   refine wpE_t 6 95 (v := ?_) (fun w' hw' => qat_value ?_) ?_
   rotate_left
   ·go_simp
    rfl
   simp only [fr1, fr2, fr3, fr4]
   refine wpE_t 7 96 (v := ?_) (fun w' hw' => ?_) ?_
   rotate_left
   ·obtain ⟨r0, r1, r2, r3, r4, r5, r6, r7, r8, r9, r10, r11⟩ := HS.out w' hw'
    refine qat_value ?_
    go_simp
    rfl
   simp only [fr1, fr2, fr3, fr4]
   refine wpE_t 8 97 (v := ?_) (fun w' hw' => qat_value ?_) ?_
   rotate_left
   ·go_simp
    rfl
   simp only [fr1, fr2, fr3, fr4]
   refine wpE_t 9 98 (v := ?_) (fun w' hw' => qat_value ?_) ?_
   rotate_left
   ·go_simp
    rfl
   simp only [fr1, fr2, fr3, fr4]
   refine wpE_t 10 99 (v := ?_) (fun w' hw' => ?_) ?_
   rotate_left
   ·obtain ⟨r0, r1, r2, r3, r4, r5, r6, r7, r8, r9, r10, r11⟩ := HS.out w' hw'
    refine qat_value ?_
    go_simp
    rfl
   simp only [fr1, fr2, fr3, fr4]
   refine wpE_t 11 100 (v := ?_) (fun w' hw' => qat_value ?_) ?_
   rotate_left
   ·go_simp
    rfl
   simp only [fr1, fr2, fr3, fr4]
   refine wpE_t 12 101 (v := ?_) (fun w' hw' => qat_value ?_) ?_
   rotate_left
   ·go_simp
    rfl
   simp only [fr1, fr2, fr3, fr4]
   refine wpE_t 13 102 (v := ?_) (fun w' hw' => ?_) ?_
   rotate_left
   ·obtain ⟨r0, r1, r2, r3, r4, r5, r6, r7, r8, r9, r10, r11⟩ := HS.out w' hw'
    refine qat_value ?_
    go_simp
    rfl
   simp only [fr1, fr2, fr3, fr4]
   refine wpE_t 14 103 (v := ?_) (fun w' hw' => qat_value ?_) ?_
   rotate_left
   ·go_simp
    rfl
   simp only [fr1, fr2, fr3, fr4]
   refine wpE_t 15 104 (v := ?_) (fun w' hw' => qat_value ?_) ?_
   rotate_left
   ·go_simp
    rfl
   simp only [fr1, fr2, fr3, fr4]
   refine wpE_done (by kernel_rfl) (fun wz hwz => ?_) _
   have hyz := hyu.ext_trans ((ext_draw u).ext_trans hwz)
   clear HS hyu hwz Hbu
   go_wp2_with fail
   go_roundw
   case rel => exact ⟨k + 1, by omega, by go_num, hyz⟩
   case measure => simp [intOf]; omega
  ·have hlt' : ¬ (k : Int) < (N : Int) := by omega
   go_wp2_with fail
   go_ret
   exact ⟨rfl, hx⟩
theorem doesS_all (x : Ds) (w0 w : World) (S : Sh) (p : Pp) (Bd : Int) (h : Both w0 w S p Bd 6) (hB2 : Bd ≤ 800000000) (hs : S.s.size ≤ 60000) (hl : S.last ≤ 1000) (hok : DsOk w0 x) (hf : DsFit x) :
  Calls Tryz.prog 36 #[.pointer (some ⟨S.sb, 0, none⟩), .pointer (some ⟨p.pb, 0, none⟩), dsV x] w (DoesPost w0 S p Bd) := by
 have hlt := lowN_lt x.k 8 (by omega)
 have hc : lowN x.k 8 = 0 ∨ lowN x.k 8 = 1 ∨ lowN x.k 8 = 2 ∨ lowN x.k 8 = 3 ∨ lowN x.k 8 = 4 ∨ lowN x.k 8 = 5 ∨ lowN x.k 8 = 6 ∨ lowN x.k 8 = 7 := by omega
 rcases hc with e | e | e | e | e | e | e | e
 ·exact doesS_near x (by rw [e]; rfl) w0 w S p Bd h hB2 hs hok hf
 ·exact doesS_typed x (by rw [e]; rfl) w0 w S p Bd h hB2 hs hf
 ·exact doesS_erased x (by rw [e]; rfl) w0 w S p Bd h hB2 hs
 ·exact doesS_select x (by rw [e]; rfl) w0 w S p Bd h hs hok hf
 ·exact doesS_go 4 (.inl rfl) x (by rw [e]; rfl) w0 w S p Bd h hs
 ·exact doesS_go 5 (.inr rfl) x (by rw [e]; rfl) w0 w S p Bd h hs
 ·exact doesS_mark x (by rw [e]; rfl) w0 w S p Bd h hs hl
 ·exact doesS_whatever x (by rw [e]; rfl) w0 w S p Bd h hB2 hs hok hf
theorem SheetAt.cell0 {w : World} {S : Sh} (h : SheetAt w S) : w.cell? ⟨S.sb, 0, none⟩ = some (.pointer (some ⟨S.R.rb, 0, none⟩)) := h.blk.cell 0
theorem SheetAt.cell1 {w : World} {S : Sh} (h : SheetAt w S) : w.cell? ⟨S.sb, 1, none⟩ = some (.pointer (some ⟨S.tb, 0, none⟩)) := h.blk.cell 1
theorem fit_of {L : List Ds} (h : muchS L = false) : ∀ x ∈ L, DsFit x := fun x hx => by
 obtain ⟨h1, h2, h3, h4⟩ := muchS_no h x hx
 exact ⟨h1, h2, h3, h4⟩
theorem Both.start {w0 w : World} {S : Sh} {Bd : Int} {m : Nat} (h : Alone w0 w S Bd m) (hq : S.q = [(0, 0)]) (hL : S.L = []) (hl : S.last = 0) (s : ByteArray) (hs : S.s = s) :
  Both w0 (((w.alloc (.cells #[.int .i64 0, .int .i64 0] 47)).alloc (.cells #[.slice none 0 0, .slice none 0 0, .int .i64 0] 86)).alloc (.cells #[.string s, .slice (some ⟨w.heap.size, 0, none⟩) 1 1, .pointer (some ⟨w.heap.size + 1, 0, none⟩)] 88)) S ⟨w.heap.size + 2, some ⟨w.heap.size, 0, none⟩, 1, w.heap.size + 1, .slice none 0 0, .slice none 0 0⟩ Bd m := by
 obtain ⟨w1, hw1⟩ : ∃ w1, w1 = w.alloc (.cells #[.int .i64 0, .int .i64 0] 47) := ⟨_, rfl⟩
 obtain ⟨w2, hw2⟩ : ∃ w2, w2 = w1.alloc (.cells #[.slice none 0 0, .slice none 0 0, .int .i64 0] 86) := ⟨_, rfl⟩
 have x1 : Ext w w1 := by rw [hw1]; exact (Mod.refl _ w).alloc _
 have x2 : Ext w1 w2 := by rw [hw2]; exact (Mod.refl _ w1).alloc _
 have x3 : Ext w2 (w2.alloc (.cells #[.string s, .slice (some ⟨w.heap.size, 0, none⟩) 1 1, .pointer (some ⟨w.heap.size + 1, 0, none⟩)] 88)) := (Mod.refl _ w2).alloc _
 have z1 : w1.heap.size = w.heap.size + 1 := by rw [hw1]; simp
 have z2 : w2.heap.size = w.heap.size + 2 := by rw [hw2]; simp [z1]
 have r1 : w1.ownsRow 0 47 2 (.slice (some ⟨w.heap.size, 0, none⟩) 1 1) 1 (prCells [(0, 0)]) := by rw [hw1]; exact World.ownsRow_lit w #[.int .i64 0, .int .i64 0] 1 (Nat.zero_le _) (by unfold maxLen; omega) rfl
 have b2 : Blk w2 (w.heap.size + 1) 86 #[.slice none 0 0, .slice none 0 0, .int .i64 0] := by
  have := Blk.new w1 86 #[.slice none 0 0, .slice none 0 0, .int .i64 0]
  rw [hw2]
  rwa [z1] at this
 have b3 : Blk (w2.alloc (.cells #[.string s, .slice (some ⟨w.heap.size, 0, none⟩) 1 1, .pointer (some ⟨w.heap.size + 1, 0, none⟩)] 88)) (w.heap.size + 2) 88 #[.string s, .slice (some ⟨w.heap.size, 0, none⟩) 1 1, .pointer (some ⟨w.heap.size + 1, 0, none⟩)] := by
  have := Blk.new w2 88 #[.string s, .slice (some ⟨w.heap.size, 0, none⟩) 1 1, .pointer (some ⟨w.heap.size + 1, 0, none⟩)]
  rwa [z2] at this
 have hz := h.ext.size
 rw [← hw1, ← hw2]
 have hx := (x1.ext_trans x2).ext_trans x3
 refine ⟨h.sh.ext hx, ?_, h.own, h.tok, h.bd, h.q0, h.q1, h.inq, h.ext.ext_trans hx⟩
 rw [hs, hq, hL, hl]
 exact ⟨b3, by simp only; omega, own_mod r1 (x2.ext_trans x3) (fun _ _ f => f), ⟨b2.mod x3 (fun f => f), by simp only; omega, World.ownsRow_nil _ _ _ _, World.ownsRow_nil _ _ _ _⟩⟩
end Go.Proofs.YthlmgoagnfkhdaaGreat
namespace Go.Proofs.YthlmgoagnfkhdaaGreat
open Go.ChangeShapes Go.WideShapes Go.ChangeAt Go.RowKit Go.Gim
theorem open_edits {H : Type} {enc : TypeId × Value → H} {P : Program} {W : World} {t e sp : TypeId} {f0 f1 g0 g1 : Field} {b0 : Nat} {v : Value} {d : DataW H} {ps : List MemPlace} (ht : P.underlying t = some (.slice e)) (he : P.underlying e = some (.struct #[f0, f1])) (hc : P.cellsOf e = 3)
  (hs : P.underlying sp = some (.struct #[g0, g1])) (t0 : f0.type = sp ∧ f0.offset = 0 ∧ P.cellsOf sp = 2) (o1 : f1.offset = 2 ∧ P.cellsOf f1.type = 1) (p0 : g0.offset = 0 ∧ P.cellsOf g0.type = 1) (p1 : g1.offset = 1 ∧ P.cellsOf g1.type = 1)
  (u0 : P.underlying g0.type = some (.int .i64)) (u1 : P.underlying g1.type = some (.int .i64)) (u2 : P.underlying f1.type = some .string)
  (hval : Value.okWide P W .any b0 t v) (hd : DataW.Trod enc P W 0 (fun _ => true) true t v d ps) :
  ∃ (ao : Option Addr) (cap : Nat) (es : List Ed), v = .slice ao es.length cap ∧ Reads W 3 ao es.length (edE.cells es) ∧ es.length ≤ maxLen ∧ ∀ e ∈ es, e.t.size ≤ maxLen ∧ (Lit.int .i64 e.a).wf = true ∧ (Lit.int .i64 e.b).wf = true := by
 obtain ⟨ao, cap, els, rfl, hr, hm, hel⟩ := open_slice_reads (enc := enc) 3 ht hc (by omega) hval hd
 obtain ⟨L, rfl, hq⟩ := list_choose edE.f (fun e => e.t.size ≤ maxLen ∧ (Lit.int .i64 e.a).wf = true ∧ (Lit.int .i64 e.b).wf = true) els (fun el h => by
  obtain ⟨hl, n, x, hx⟩ := hel el h
  obtain ⟨y0, y1, m, _, _, h0, h1⟩ := trod_struct2 he hx
  obtain ⟨c0, c1, c2, hcs⟩ := Go.Joins.array3 (cs := el.toArray) (by simpa using hl)
  have hcs : el = [c0, c1, c2] := by simpa using congrArg Array.toList hcs
  subst hcs
  rw [t0.2.1, t0.1, t0.2.2] at h0
  rw [o1.1, o1.2] at h1
  simp at h0 h1
  obtain ⟨z0, z1, m2, _, _, k0, k1⟩ := trod_struct2 hs h0
  rw [p0.1, p0.2] at k0
  rw [p1.1, p1.2] at k1
  simp at k0 k1
  obtain ⟨a0, e0, _, l0⟩ := DataW.trod_int u0 k0
  obtain ⟨a1, e1, _, l1⟩ := DataW.trod_int u1 k1
  obtain ⟨a2, e2, _, l2⟩ := DataW.trod_string u2 h1
  simp at e0 e1 e2
  subst e0 e1 e2
  exact ⟨⟨a0, a1, a2⟩, rfl, l2, l0, l1⟩)
 rw [show (L.map edE.f).flatten = edE.cells L from rfl, List.length_map] at hr
 rw [List.length_map] at hm ⊢
 exact ⟨ao, cap, L, rfl, hr, hm, hq⟩
end Go.Proofs.YthlmgoagnfkhdaaGreat
namespace Go.Gim
theorem back_again {s : ByteArray} {es : List Ed} (hs : s.size ≤ 65536) (hm : mayE s.size es = 0) : mayE (textC s es).size (backC s es) = 0 ∧ textC (textC s es) (backC s es) = s := by
 obtain ⟨hrz, _⟩ := mayE_zero hm
 obtain ⟨h1, h2, h3⟩ := back_all hrz
 have e1 : textC s es = bs (applyL s.data.toList es) := by unfold textC; rw [if_pos hm]
 have e2 : backC s es = backE s es := by unfold backC; rw [if_pos hm]
 rw [e1, e2]
 have hz : ((bs (applyL s.data.toList es)).size : Int) = ((applyL s.data.toList es).length : Nat) := rfl
 have hr : rangedE (bs (applyL s.data.toList es)).size (backE s es) = 0 := asc_rangedN h2 (fun e he => by rw [hz]; exact h3 e he)
 have hd : (bs (applyL s.data.toList es)).data.toList = applyL s.data.toList es := rfl
 have hg := applyL_len (s := applyL s.data.toList es) (es := backE s es) hr
 rw [h1] at hg
 have hm2 : mayE (bs (applyL s.data.toList es)).size (backE s es) = 0 := by
  rw [mayE_fit hr, hz, ← hg]
  have : s.data.toList.length = s.size := rfl
  rw [if_neg (by omega)]
 refine ⟨hm2, ?_⟩
 unfold textC
 rw [if_pos hm2, hd, h1, bs_of]
theorem backT_tl {s : ByteArray} {S : List Ed} (hin : ∀ e ∈ S, 0 ≤ e.a ∧ e.a ≤ e.b ∧ e.b ≤ s.size) : ∀ k, k ≤ S.length → ∀ y ∈ (backT s (S.take k)).out, y.t.size ≤ k * s.size := by
 intro k
 induction k with
 | zero => intro _ y hy; cases hy
 | succ k ih =>
  intro hk y hy
  have hx : S[k]? = some (S[k]'(by omega)) := List.getElem?_eq_getElem _
  rw [backT_step s hx] at hy
  have ih := ih (by omega)
  have ho : (oldE s (S[k]'(by omega))).size ≤ s.size := by
   unfold oldE
   rw [ByteArray.size_extract]
   omega
  rw [Nat.add_mul, Nat.one_mul]
  generalize S[k]'(by omega) = x at *
  generalize backT s (S.take k) = st at *
  have hy : y ∈ backOut s st x := hy
  by_cases hc : st.out = [] ∨ x.a ≠ st.e
  ·rw [backOut_new hc] at hy
   rcases List.mem_append.1 hy with hy | hy
   ·have := ih y hy; omega
   ·rw [List.mem_singleton.1 hy]
    show (oldE s x).size ≤ _
    omega
  ·have hn : st.out ≠ [] := fun e => hc (.inl e)
   have he : x.a = st.e := by
    by_cases e : x.a = st.e
    ·exact e
    ·exact absurd (.inr e) hc
   obtain ⟨z, hz⟩ : ∃ z, st.out.getLast? = some z := ⟨_, List.getLast?_eq_some_getLast hn⟩
   rw [backOut_add hz he] at hy
   rcases List.mem_or_eq_of_mem_set hy with hy | rfl
   ·have := ih y hy; omega
   ·have := ih z (List.mem_of_getLast? hz)
    simp only
    rw [ByteArray.size_append]
    omega
theorem backC_tl {s : ByteArray} {es : List Ed} : ∀ y ∈ backC s es, y.t.size ≤ es.length * s.size := by
 intro y hy
 unfold backC at hy
 split at hy
 ·rename_i h
  obtain ⟨h1, _⟩ := mayE_zero h
  have hin : ∀ e ∈ sorted lessE es, 0 ≤ e.a ∧ e.a ≤ e.b ∧ e.b ≤ s.size := fun e he => rangedE_mem h1 e ((sorted_mem lessE es e).1 he)
  have := backT_tl hin (sorted lessE es).length (Nat.le_refl _)
  rw [List.take_of_length_le (Nat.le_refl _), sorted_length] at this
  exact this y hy
 ·cases hy
end Go.Gim

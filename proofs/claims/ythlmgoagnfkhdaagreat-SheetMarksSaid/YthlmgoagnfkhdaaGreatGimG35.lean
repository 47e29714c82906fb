/- marks.Table: where, Kids, At, Twin. Conditions: a table that may be. -/
import Derived.Test.YthlmgoagnfkhdaaGreatGimG27
import Derived.Test.YthlmgoagnfkhdaaGreatGimG26
import Derived.Test.YthlmgoagnfkhdaaGreatGimG34
import Derived.Test.YthlmgoagnfkhdaaGreatGimG11
import Derived.Test.YthlmgoagnfkhdaaGreatGimG25
set_option maxHeartbeats 6400000
set_option maxRecDepth 1000000
set_option linter.unusedVariables false
set_option linter.unusedSimpArgs false
namespace Go.Gim
theorem rdIn_at {w : World} {b off n : Nat} {l : List Int} (h : Reads w 1 (some ⟨b, off, none⟩) n (inE.cells l)) {i : Nat} {x : Int} (hx : l[i]? = some x) : w.cell? ⟨b, off + i, none⟩ = some (.int .i64 x) := by
 have := Enc.reads_at (E := inE) (j := 0) h hx rfl
 rwa [show inE.k = 1 from rfl, Nat.mul_one, Nat.add_zero] at this
end Go.Gim
namespace Go.Proofs.YthlmgoagnfkhdaaGreat
open Go.RowKit Go.Gim
theorem Tryz.info3 : (Tryz.prog.info? 3).map (fun i => (i.zero, i.size, i.bytes)) = some (some (.int .i64 0), 1, 8) := by kernel_rfl
end Go.Proofs.YthlmgoagnfkhdaaGreat
namespace Go.Proofs.YthlmgoagnfkhdaaGreat
open Go.RowKit Go.Gim Go.Shelf
theorem tclone_any (mb : Nat) (L : Tb) (w : World) (h : MapIs Tryz.prog 3 w mb L) :
  Calls Tryz.prog 67 #[.map (some mb)] w fun e w' => ∃ m2, e = .returned (.map (some m2)) ∧ w.heap.size ≤ m2 ∧ MapIs Tryz.prog 3 w' m2 L ∧ Ext w w' := by
 obtain ⟨D, hown, hT⟩ := h
 have hcon := AnyW.maps_Clone_owns Tryz.cloneM 3 rgR mb L.length D w hown
 change Calls Tryz.prog 67 _ _ _ at hcon
 refine hcon.mono ?_
 rintro e w' ⟨rfl, h1, _, hB⟩
 exact ⟨w.heap.size, rfl, Nat.le_refl _, ⟨D, h1, hT⟩, Mod.of_below hB⟩
def TTwinPost (L : Tb) (last : Int) (w : World) (e : Ending) (w' : World) : Prop :=
 ∃ t2 m2, e = .returned (.pointer (some ⟨t2, 0, none⟩)) ∧ TabAt w' t2 m2 L last ∧ w.heap.size ≤ t2 ∧ w.heap.size ≤ m2 ∧ Ext w w'
theorem ttwin_any (tb mb : Nat) (L : Tb) (last : Int) (w : World) (h : TabAt w tb mb L last) :
  Calls Tryz.prog 38 #[.pointer (some ⟨tb, 0, none⟩)] w (TTwinPost L last w) := by
 have H := Lib.hid h
 have HS := Lib.hid (fun w' (h' : Ext w w') => (⟨(h.ext h').blk.cell 0, (h.ext h').blk.cell 1, trivial, trivial⟩ :
  w'.cell? ⟨tb, 0, none⟩ = some (.map (some mb)) ∧ w'.cell? ⟨tb, 1, none⟩ = some (.int .i64 last) ∧ True ∧ True))
 have HC := Lib.hid (fun w' (h' : Ext w w') => tclone_any mb L w' (h.ext h').map)
 clear h
 unfold TTwinPost
 go_enter Tryz.func38, Tryz.ntmps38
 go_upto_region 3 with fail
 refine wp_region_E (by kernel_rfl) ?_
 refine wpE_t 0 5 (v := ?_) (fun w' hw' => qat_value ?_) ?_
 rotate_left
 ·go_simp
  rfl
 simp only [fr1, fr2, fr3, fr4]
 refine wpE_t 1 6 (v := ?_) (fun w' hw' => qat_value ?_) ?_
 rotate_left
 ·go_simp
  rfl
 simp only [fr1, fr2, fr3, fr4]
 refine wpE_t 2 7 (v := ?_) (fun w' hw' => qat_value ?_) ?_
 rotate_left
 ·go_simp
  rfl
 simp only [fr1, fr2, fr3, fr4]
 refine wpE_t 3 8 (v := ?_) (fun w' hw' => ?_) ?_
 rotate_left
 ·obtain ⟨r0, r1, r2, r3⟩ := HS.out w' hw'
  refine qat_value ?_
  go_simp
  rfl
 simp only [fr1, fr2, fr3, fr4]
 refine wpE_t 5 10 (v := ?_) (fun w' hw' => qat_value ?_) ?_
 rotate_left
 ·go_simp
  rfl
 simp only [fr1, fr2, fr3, fr4]
 refine wpE_t 6 11 (v := ?_) (fun w' hw' => qat_value ?_) ?_
 rotate_left
 ·go_simp
  rfl
 simp only [fr1, fr2, fr3, fr4]
 refine wpE_t 7 12 (v := ?_) (fun w' hw' => qat_value ?_) ?_
 rotate_left
 ·go_simp
  rfl
 simp only [fr1, fr2, fr3, fr4]
 refine wpE_t 8 13 (v := ?_) (fun w' hw' => ?_) ?_
 rotate_left
 ·obtain ⟨r0, r1, r2, r3⟩ := HS.out w' hw'
  refine qat_value ?_
  go_simp
  rfl
 simp only [fr1, fr2, fr3, fr4]
 refine wpE_call1 4 9 rfl rfl rfl (by kernel_rfl) (fun w' => by go_simp; exact ⟨rfl, rfl⟩) ?_
 intro v1 hv1
 have hv2 := (ext_draw w).ext_trans hv1
 refine (HC.out v1 hv2).mono ?_
 rintro e w6 ⟨m2, rfl, hm2, hmap, y6⟩
 refine ⟨_, rfl, hv2.ext_trans y6, ?_⟩
 have hv6 := hv2.ext_trans y6
 simp only [fr1, fr2, fr3, fr4]
 refine wpE_t 9 14 (v := ?_) (fun w' hw' => qat_value ?_) ?_
 rotate_left
 ·go_simp
  rfl
 simp only [fr1, fr2, fr3, fr4]
 refine wpE_one 10 15 rfl rfl rfl (by kernel_rfl) (fun w7 hw7 => ⟨.pointer (some ⟨w7.heap.size, 0, none⟩), w7.alloc (.cells #[.map (some m2), .int .i64 last] 120), by go_simp, (hv6.ext_trans hw7).alloc _, ?_⟩)
 simp only [fr1, fr2, fr3, fr4]
 have hx8 := (hv6.ext_trans hw7).alloc (.cells #[.map (some m2), .int .i64 last] 120)
 have hb8 := Blk.new w7 120 #[.map (some m2), .int .i64 last]
 have hm8 := (hmap.mod hw7 (fun f => f)).mod ((Mod.refl (fun _ => False) w7).alloc (.cells #[.map (some m2), .int .i64 last] 120)) (fun f => f)
 have hml := (hmap.mod hw7 (fun f => f)).lt
 generalize w7.alloc (.cells #[.map (some m2), .int .i64 last] 120) = w8 at *
 refine wpE_t 11 2 (v := ?_) (fun w' hw' => qat_value ?_) ?_
 rotate_left
 ·go_simp
  rfl
 simp only [fr1, fr2, fr3, fr4]
 refine wpE_done (by kernel_rfl) (fun w9 hu9 => ?_) _
 have hb9 := Lib.hid (hb8.mod hu9 (fun f => f))
 have hm9 := Lib.hid (hm8.mod hu9 (fun f => f))
 have hx9 := hx8.ext_trans hu9
 have hle := (hv6.ext_trans hw7).size
 have hle2 := hv2.size
 clear HS HC hb8 hm8 hmap hu9 hx8 y6 hv6 hv1
 go_wp2_with fail
 go_ret
 exact ⟨_, m2, rfl, ⟨hb9.out, hm9.out, by omega⟩, hle, by omega, hx9⟩
end Go.Proofs.YthlmgoagnfkhdaaGreat
namespace Go.Gim
end Go.Gim
namespace Go.Proofs.YthlmgoagnfkhdaaGreat
open Go.RowKit Go.Gim
def MovePost (tb mb : Nat) (L : Tb) (last : Int) (es : List Ed) (w : World) (e : Ending) (w' : World) : Prop :=
 (rangedE 65536 es = 0 ∧ e = .returned (.int .i64 0) ∧ TabAt w' tb mb (moveT es L) last ∧ Mod (tabS tb mb) w w') ∨
 (rangedE 65536 es ≠ 0 ∧ e = .returned (.int .i64 (rangedE 65536 es)) ∧ Ext w w')
theorem tmove_all (tb mb : Nat) (L : Tb) (last Bd : Int) (es : List Ed) (ao : Option Addr) (cap : Nat) (w : World) (h : TabAt w tb mb L last) (hT : Tok L last Bd) (hB : 65536 ≤ Bd) (hB2 : Bd ≤ 900000000)
  (hr : Reads w 3 ao es.length (edE.cells es)) (hn : es.length ≤ 19) (ht : ∀ e ∈ es, e.t.size ≤ 100000) (hfar : 0 < es.length → ∀ a, ao = some a → ¬ tabS tb mb a.block) :
  Calls Tryz.prog 40 #[.pointer (some ⟨tb, 0, none⟩), .slice ao es.length cap] w (MovePost tb mb L last es w) := by
 have hl1 : maxLen = 9223372036854775807 := rfl
 have H := Lib.hid h
 have HT := Lib.hid hT
 have Hr := Lib.hid hr
 have Ht := Lib.hid ht
 have Hfar := Lib.hid hfar
 have Hno := Lib.hid (fun i e hi h => rangedE_no (n := 65536) (es := es) (i := i) (e := e) hi h)
 have Hyes := Lib.hid (rangedE_yes (n := 65536) (es := es))
 have HAp := Lib.hid (fun a c w' hh hz => apart_any a c (es.map edS) w' hh hz (by rw [List.length_map]; exact hn))
 rw [List.length_map] at HAp
 unfold MovePost
 obtain ⟨N, hN⟩ : ∃ N, N = es.length := ⟨_, rfl⟩
 have HN := Lib.hid hN
 rw [← hN] at hn HAp Hyes ⊢
 generalize hC : rangedE 65536 es = C at *
 have HC := Lib.hid hC
 clear h hT hr ht hfar hN hC
 have hlt := H.out.blk.lt
 go_enter Tryz.func40, Tryz.ntmps40
 go_wp2_with fail
 go_loopw [5, 17] (fun v i wr => ∃ k : Nat, k ≤ N ∧ i = .int .i64 k ∧ Hid (wr.ownsRow w.heap.size 49 2 v k (prE.cells ((es.map edS).take k)) ∧ (k = 0 → v = .slice none 0 0) ∧ ∀ (j : Nat) (e : Ed), j < k → es[j]? = some e → mayS (edS e) 65536 = true) ∧ Ext w wr) (fun _ i _ => N - (intOf i).toNat)
 case atStart => exact ⟨0, by omega, rfl, Lib.hid ⟨World.ownsRow_nil _ _ _ _, fun _ => rfl, fun j e hj => absurd hj (Nat.not_lt_zero j)⟩, Mod.refl _ _⟩
 case round =>
  obtain ⟨k, hk, rfl, HO, hx⟩ := hrel
  by_cases hltk : k < N
  ·have hlt' : (k : Int) < (N : Int) := by omega
   have hk0 : (0 : Int) ≤ (k : Int) := by omega
   obtain ⟨b, off, rfl⟩ := Hr.out.some (by have := HN.out; omega)
   have hlk : k < es.length := by rw [← HN.out]; exact hltk
   obtain ⟨c0, c1, c2⟩ := rdEd_at (Hr.out.mod hx (fun _ _ f => f)) (List.getElem?_eq_getElem hlk)
   have Hlx := Lib.hid (List.getElem?_eq_getElem hlk)
   have Hts := Lib.hid (show (es.map edS).take (k + 1) = (es.map edS).take k ++ [edS es[k]] by rw [List.take_succ_eq_append_getElem (by simpa using hlk)]; simp)
   generalize es[k] = x at *
   have Hlt := Lib.hid hltk
   have Hm := Lib.hid (fun w' => spMay_any (edS x) 65536 w')
   clear hlk
   go_wp2_with fail
   obtain ⟨u, hu⟩ : ∃ u, u = wr.alloc (.cells #[.int .i64 x.a, .int .i64 x.b, .string x.t] 59) := ⟨_, rfl⟩
   have hxu : Ext wr u := by rw [hu]; exact (Mod.refl _ wr).alloc _
   have hbu : Blk u wr.heap.size 59 #[.int .i64 x.a, .int .i64 x.b, .string x.t] := by rw [hu]; exact Blk.new _ _ _
   rw [← hu]
   clear c0 c1 c2 hu
   refine (Hm.out u).mono ?_
   rintro e w2 ⟨rfl, hx2⟩
   have hb2 := hbu.mod hx2 (fun f => f)
   have hy := (hx.ext_trans hxu).ext_trans hx2
   have HO2 := Lib.hid (ownsRow_mod HO.out.1 (hxu.ext_trans hx2) (fun _ _ f => f))
   cases hm : mayS (edS x) 65536 with
   | false =>
    have HC3 := Lib.hid ((HC.out.symm.trans (HC.out.trans (Hno.out k x Hlx.out hm))))
    go_wp2_with fail
    go_ret
    exact .inr ⟨by rw [HC3.out]; decide, ret_int HC3.out.symm, hy⟩
   | true =>
    have Hmay := Lib.hid hm
    clear hm
    have c0 : w2.cell? ⟨wr.heap.size, 0, none⟩ = some (.int .i64 x.a) := hb2.cell 0
    have c1 : w2.cell? ⟨wr.heap.size, 1, none⟩ = some (.int .i64 x.b) := hb2.cell 1
    have hlt2 := hb2.lt
    go_wp2_with (at_builtin; refine wpList_append_reads rfl _ _ 114 rfl w.heap.size 49 _ 2 16 Tryz.info49 Tryz.underlying114 rfl (by decide) _ k _ rfl (HO2.out.alloc _) _ 1 1 [.int .i64 x.a, .int .i64 x.b] rfl ?hrd (prE.one (x.a, x.b)) (by omega) (by omega) ?hbs ?_)
    case hrd =>
     have := Reads.new w2 49 #[.int .i64 x.a, .int .i64 x.b] 2 1 rfl
     simpa using this
    case hbs => have := hy.size; simp; omega
    intro v' w4 hown hm4 hbk
    have hx4 := (hy.alloc _).over hm4 (fun i hi => (HO2.out.lt i hi).1)
    have Hown := Lib.hid hown
    clear hm4 hbk hown c0 c1 hlt2
    go_wp2_with fail
    go_roundw
    case rel =>
     refine ⟨k + 1, Hlt.out, by go_num, Lib.hid ⟨by rw [Hts.out, prE.cells_append]; exact Hown.out, fun h => absurd h (by omega), fun j e hj he => ?_⟩, hx4⟩
     by_cases hjk : j = k
     ·subst hjk
      rw [Hlx.out] at he
      cases he; exact Hmay.out
     ·exact HO.out.2.2 j e (by omega) he
    case measure => have := Hlt.out; simp [intOf]; omega
  ·have hlt' : ¬ (k : Int) < (N : Int) := by omega
   obtain rfl : k = N := by omega
   have hS := HO.out.1
   rw [List.take_of_length_le (by rw [List.length_map, ← HN.out]; exact Nat.le_refl _)] at hS
   have HC2 := Lib.hid (HC.out.symm.trans (HC.out.trans (Hyes.out HO.out.2.2)))
   have HmA := Lib.hid HO.out.2.2
   have Hnil := Lib.hid HO.out.2.1
   obtain ⟨a1, c1, rfl, hrd⟩ := Enc.owns_reads (E := prE) hS
   have HAp1 := Lib.hid (HAp.out a1 c1 _ hrd (fun hz => by have := Hnil.out hz; cases this; rfl))
   clear hS HO hrd Hnil HAp
   go_wp2_with fail
   refine HAp1.out.mono ?_
   rintro e w3 ⟨rfl, hx3⟩
   have hy3 := hx.ext_trans hx3
   clear HAp1
   cases hap : apartB (es.map edS) with
   | false =>
    rw [hap] at HC2
    have HC5 := Lib.hid (show C = 5 from HC2.out)
    go_wp2_with fail
    go_ret
    exact .inr ⟨by rw [HC5.out]; decide, ret_int HC5.out.symm, hy3⟩
   | true =>
    rw [hap] at HC2
    have HC0 := Lib.hid (show C = 0 from HC2.out)
    clear hap HC2
    have h3 := H.out.ext hy3
    have hids := Lib.hid (ids_any tb mb last L w3 h3.blk h3.map HT.out.rise (by have := HT.out.len; omega))
    unfold Enc.Out at hids
    obtain ⟨M, hM⟩ : ∃ M, M = L.length := ⟨_, rfl⟩
    have HM := Lib.hid hM
    have hl2 : (idsR L).length = M := by simp [idsR, hM]
    rw [hl2] at hids
    have hMl : M ≤ 256 := by rw [hM]; exact HT.out.len
    have hlt3 := h3.blk.lt
    have hlt4 := h3.map.lt
    have Hlts := Lib.hid (⟨hlt3, hlt4⟩ : tb < w3.heap.size ∧ mb < w3.heap.size)
    clear hM hl2 h3 hlt3 hlt4 hx hx3
    go_wp2_with fail
    refine hids.out.mono ?_
    rintro e w5 ⟨v5, rfl, hov, hx5⟩
    have hfid := Lib.hid (fun (a : Addr) (c : Nat) (hv : v5 = .slice (some a) M c) (hz : 0 < M) => (show ¬ tabS tb mb a.block by
     obtain ⟨g, cx, hg⟩ := Enc.owns_some (E := inE) hov hz
     rw [hg] at hv
     cases hv
     rw [hg] at hov
     have := (Enc.owns_block (E := inE) hov).1
     have := Hlts.out
     unfold tabS
     simp only
     omega))
    obtain ⟨a5, c5, rfl, hrd⟩ := Enc.owns_reads (E := inE) hov
    have Hrd := Lib.hid hrd
    have hy5 := hy3.ext_trans hx5
    have H5 := Lib.hid (H.out.ext hy5)
    have Hr5 := Lib.hid (Hr.out.mod hy5 (fun _ _ f => f))
    rw [← HN.out] at Hr5
    clear hov hrd hids hx5
    go_wp2_with fail
    go_loopw [37] (fun i wr => ∃ j : Nat, j ≤ M ∧ i = .int .i64 j ∧ Hid (TabAt wr tb mb (moveTo es L j) last) ∧ Mod (tabS tb mb) w5 wr) (fun i _ => M - (intOf i).toNat)
    case atStart => exact ⟨0, by omega, rfl, H5, Mod.refl _ _⟩
    case round =>
     obtain ⟨j, hj, rfl, HTA, hmr⟩ := hrel
     by_cases hltj : j < M
     ·have hlt' : (j : Int) < (M : Int) := by omega
      have hj0 : (0 : Int) ≤ (j : Int) := by omega
      obtain ⟨b, off, rfl⟩ := Hrd.out.some (by omega)
      have hjL : L[j]? = some (L[j]'(by rw [← HM.out]; exact hltj)) := List.getElem?_eq_getElem _
      have hrk := Hrd.out.mod hmr (fun a ha => hfid.out a c5 (by rw [ha]) (by omega))
      have q0 := rdIn_at hrk (show (idsR L)[j]? = some (L[j]'(by rw [← HM.out]; exact hltj)).1 by unfold idsR; rw [List.getElem?_map, hjL]; rfl)
      have hst := moveTo_step es hjL
      have hgr := moveTo_rest es HT.out.once j j _ (Nat.le_refl _) hjL
      have hib := HT.out.ids _ (List.getElem_mem (l := L) (by rw [← HM.out]; exact hltj))
      have hbd := HT.out.bd _ (List.getElem_mem (l := L) (by rw [← HM.out]; exact hltj))
      have hup := HT.out.up _ (List.getElem_mem (l := L) (by rw [← HM.out]; exact hltj))
      have hl0 := HT.out.last0
      have hlen := moveTo_len es L j
      generalize L[j]'(by rw [← HM.out]; exact hltj) = x at *
      obtain ⟨id, ra, rb, rp, rq, ru⟩ := x
      simp only at q0 hst hgr hib hbd hup
      generalize moveTo es L j = T at *
      have hlook := HTA.out.look1 (id_wf (show -9223372036854775808 ≤ id by omega) (by omega)) _ hgr
      rw [show (some (⟨ra, rb, rp, rq, ru⟩ : Rg)).getD rg0 = ⟨ra, rb, rp, rq, ru⟩ from rfl] at hlook
      unfold rgV at hlook
      simp only at hlook
      have c0 := HTA.out.blk.cell 0
      simp only [List.getElem?_toArray, List.getElem?_cons_zero] at c0
      have hltb := HTA.out.blk.lt
      have Hst := Lib.hid hst
      have Hgr := Lib.hid hgr
      have Hib := Lib.hid hib
      have Hl0 := Lib.hid hl0
      have Hup := Lib.hid hup
      have Hbd := Lib.hid hbd
      have Hlen := Lib.hid hlen
      have Hltj := Lib.hid hltj
      have HMv := Lib.hid (fun (right : Bool) (o : Int) w' (h' : Ext wr w') (o0 : 0 ≤ o) (o1 : o ≤ 1000000000) => moveC_all right o ao cap es w' (reads_mod0 (Hr.out.mod hy5 (fun _ _ f => f)) (hmr.trans h' (fun _ _ f => f.elim)) (fun hz a ha => Hfar.out hz a ha)) (by rw [← HN.out]; exact hn) (fun e he => by
       obtain ⟨i, hi, rfl⟩ := List.getElem_of_mem he
       have hm := HmA.out i _ (by rw [HN.out]; exact hi) (List.getElem?_eq_getElem hi)
       unfold mayS edS at hm
       have hm := of_decide_eq_true hm
       exact ⟨hm.1, hm.2.1, hm.2.2, Ht.out _ he⟩) o0 o1)
      rw [← HN.out] at HMv
      clear hst hgr hib hjL hrk hup hlen hl0
      go_upto_region 17 with fail
      obtain ⟨u, hu⟩ : ∃ u, u = wr.alloc (.cells #[.int .i64 ra, .int .i64 rb, .bool rp, .bool rq, .int .i64 ru] 66) := ⟨_, rfl⟩
      have hxu : Ext wr u := by rw [hu]; exact (Mod.refl _ wr).alloc _
      have hbu : Blk u wr.heap.size 66 #[.int .i64 ra, .int .i64 rb, .bool rp, .bool rq, .int .i64 ru] := by rw [hu]; exact Blk.new _ _ _
      rw [← hu]
      clear hu hlook c0 q0 hltb
      have d0 := Blk.cell hbu 0
      have d1 := Blk.cell hbu 1
      have d2 := Blk.cell hbu 2
      have d3 := Blk.cell hbu 3
      have d4 := Blk.cell hbu 4
      simp only [List.getElem?_toArray, List.getElem?_cons_zero, List.getElem?_cons_succ] at d0 d1 d2 d3 d4
      have f0 := Blk.free hbu 0
      have f1 := Blk.free hbu 1
      have f2 := Blk.free hbu 2
      have f3 := Blk.free hbu 3
      have f4 := Blk.free hbu 4
      have hlt2 := Blk.lt hbu
      have HMa := Lib.hid (fun w' (h' : Ext u w') => HMv.out rp ra w' (hxu.ext_trans h') (by omega) (by omega))
      have HMb := Lib.hid (fun w' (h' : Ext u w') => HMv.out rq rb w' (hxu.ext_trans h') (by omega) (by omega))
      generalize hP : moveE rp es ra = P at *
      generalize hQ : moveE rq es rb = Q at *
      have HP := Lib.hid hP
      have HQ := Lib.hid hQ
      clear hP hQ HMv
      refine wp_region_ext_tail 16 (by kernel_rfl) (by kernel_rfl) ?_
      simp only [List.take_succ_cons, List.take_zero, List.drop_succ_cons, List.drop_zero]
      repeat (go_big_quiet_step (first | (with_reducible exact Calls.ext_of (HMa.out _ (Mod.of_below (ext_below _ _)))) | (with_reducible exact Calls.ext_of (HMb.out _ (Mod.of_below (ext_below _ _))))))
      refine wpQuiet_nil ?_
      intro we hxe
      clear d0 d1 d2 d3 d4 f0 f1 f2 f3 f4 hlt2 HMa HMb
      have hbe := hbu.mod hxe (fun f => f)
      have hye := hxu.ext_trans hxe
      clear hbu hxu hxe
      have d0 := Blk.cell hbe 0
      have d1 := Blk.cell hbe 1
      have d2 := Blk.cell hbe 2
      have d3 := Blk.cell hbe 3
      have d4 := Blk.cell hbe 4
      simp only [List.getElem?_toArray, List.getElem?_cons_zero, List.getElem?_cons_succ] at d0 d1 d2 d3 d4
      have f0 := Blk.free hbe 0
      have f1 := Blk.free hbe 1
      have f2 := Blk.free hbe 2
      have f3 := Blk.free hbe 3
      have f4 := Blk.free hbe 4
      have hlt2 := Blk.lt hbe
      go_upto_region 19 with fail
      obtain ⟨v, hv⟩ : ∃ v, v = (((we.setCell ⟨wr.heap.size, 0, none⟩ (.int .i64 P)).setCell ⟨wr.heap.size, 1, none⟩ (.int .i64 Q)).setCell ⟨wr.heap.size, 0, none⟩ (.int .i64 (min P Q))) := ⟨_, rfl⟩
      have hbv : Blk v wr.heap.size 66 #[.int .i64 (min P Q), .int .i64 Q, .bool rp, .bool rq, .int .i64 ru] := by rw [hv]; exact ((hbe.set 0 _).set 1 _).set 0 _
      have hxv : Ext wr v := by rw [hv]; exact ((hye.setCell (p := ⟨wr.heap.size, 0, none⟩) (fun h => absurd h (Nat.lt_irrefl _)) _).setCell (p := ⟨wr.heap.size, 1, none⟩) (fun h => absurd h (Nat.lt_irrefl _)) _).setCell (p := ⟨wr.heap.size, 0, none⟩) (fun h => absurd h (Nat.lt_irrefl _)) _
      rw [← hv]
      clear hv d0 d1 d2 d3 d4 f0 f1 f2 f3 f4 hlt2 hbe hye
      have hruw : (Lit.int .i64 ru).wf = true := by
       rcases Hup.out with e | ⟨e1, e2⟩
       ·rw [e]; exact id_wf (by omega) (by omega)
       ·obtain ⟨q, hq⟩ := Option.isSome_iff_exists.1 e2
        have := HT.out.get hq
        have := Hl0.out
        exact id_wf (by omega) (by omega)
      have hlook := fun w' (h' : Ext v w') => (HTA.out.ext (hxv.ext_trans h')).look hruw _ rfl
      generalize hgo : getR T ru = og at *
      have Hgo := Lib.hid hgo
      have HS := Lib.hid (fun w' (h' : Ext v w') => (⟨(HTA.out.ext (hxv.ext_trans h')).blk.cell 0, (hbv.mod h' (fun f => f)).cell 4, hlook w' h', trivial⟩ :
       w'.cell? ⟨tb, 0, none⟩ = some (.map (some mb)) ∧ w'.cell? ⟨wr.heap.size, 4, none⟩ = some (.int .i64 ru) ∧ (Instr.lookup 118 (.map (some mb)) (.int .i64 ru) true).run Tryz.prog w' = .ok (.tuple #[rgV (og.getD rg0), .bool og.isSome]) w' ∧ True))
      clear hlook hgo
      generalize hR : og.getD rg0 = rr at *
      obtain ⟨ua, ub, up, uq, uu⟩ := rr
      unfold rgV at HS
      simp only at HS
      refine wp_region_E (by kernel_rfl) ?_
      refine wpE_t 0 75 (v := ?_) (fun w' hw' => qat_value ?_) ?_
      rotate_left
      ·go_simp
       rfl
      simp only [fr1, fr2, fr3, fr4]
      refine wpE_t 1 76 (v := ?_) (fun w' hw' => qat_value ?_) ?_
      rotate_left
      ·go_simp
       rfl
      simp only [fr1, fr2, fr3, fr4]
      refine wpE_t 2 77 (v := ?_) (fun w' hw' => qat_value ?_) ?_
      rotate_left
      ·go_simp
       rfl
      simp only [fr1, fr2, fr3, fr4]
      refine wpE_t 3 78 (v := ?_) (fun w' hw' => ?_) ?_
      rotate_left
      ·obtain ⟨r0, r1, r2, r3⟩ := HS.out w' hw'
       refine qat_value ?_
       go_simp
       rfl
      simp only [fr1, fr2, fr3, fr4]
      refine wpE_t 4 79 (v := ?_) (fun w' hw' => qat_value ?_) ?_
      rotate_left
      ·go_simp
       rfl
      simp only [fr1, fr2, fr3, fr4]
      refine wpE_t 5 80 (v := ?_) (fun w' hw' => ?_) ?_
      rotate_left
      ·obtain ⟨r0, r1, r2, r3⟩ := HS.out w' hw'
       refine qat_value ?_
       go_simp
       rfl
      simp only [fr1, fr2, fr3, fr4]
      refine wpE_t 6 81 (v := ?_) (fun w' hw' => ?_) ?_
      rotate_left
      ·obtain ⟨r0, r1, r2, r3⟩ := HS.out w' hw'
       refine qat_value ?_
       go_simp
       rfl
      simp only [fr1, fr2, fr3, fr4]
      refine wpE_t 7 74 (v := ?_) (fun w' hw' => qat_value ?_) ?_
      rotate_left
      ·go_simp
       rfl
      simp only [fr1, fr2, fr3, fr4]
      refine wpE_t 8 82 (v := ?_) (fun w' hw' => qat_value ?_) ?_
      rotate_left
      ·go_simp
       rfl
      simp only [fr1, fr2, fr3, fr4]
      refine wpE_t 9 83 (v := ?_) (fun w' hw' => qat_value ?_) ?_
      rotate_left
      ·go_simp
       rfl
      simp only [fr1, fr2, fr3, fr4]
      refine wpE_boxT (x := #[.int .i64 ua, .int .i64 ub, .bool up, .bool uq, .int .i64 uu]) box_rg 10 11 11 82 rfl rfl ⟨rfl, rfl⟩ ⟨rfl, rfl⟩ ⟨rfl, rfl⟩ (by kernel_rfl) (by kernel_rfl) ⟨by simp, by decide⟩ rfl rfl (by intro u hu; simp at hu; rcases hu with rfl | rfl | rfl | rfl | rfl <;> rfl) (ext_draw _) ?_
      intro w22 pb hx22 hpb hbp
      simp only [fr1, fr2, fr3, fr4]
      refine wpE_t 12 12 (v := ?_) (fun w' hw' => qat_value ?_) ?_
      rotate_left
      ·go_simp
       rfl
      simp only [fr1, fr2, fr3, fr4]
      refine wpE_done (by kernel_rfl) (fun w6 hu6 => ?_) _
      have hx6 := hx22.ext_trans hu6
      have hbp6 := hbp.mod hu6 (fun f => f)
      have hxw6 := hxv.ext_trans hx6
      have hb6 := hbv.mod hx6 (fun f => f)
      have hne : pb ≠ wr.heap.size := by have := hbv.lt; omega
      clear HS hbp hpb hx22 hu6 hbv hxv hx6
      cases hog : og with
      | none =>
       have HE := Lib.hid (show movedR es T ⟨ra, rb, rp, rq, ru⟩ = ⟨min P Q, Q, rp, rq, ru⟩ by
        unfold movedR
        rw [show getR T ru = none from Hgo.out.trans hog]
        simp only [HP.out, HQ.out])
       rw [show (none : Option Rg).isSome = false from rfl]
       have hTV := HTA.out.ext hxw6
       have hbV := hb6
       have hmV : Mod (tabS tb mb) wr w6 := hxw6.any
       go_upto_region 23 with fail
       have c0 : World.cell? w6 ⟨tb, 0, none⟩ = some (.map (some mb)) := hTV.blk.cell 0
       have hltb := hTV.blk.lt
       have d0 := Blk.cell hbV 0
       have d1 := Blk.cell hbV 1
       have d2 := Blk.cell hbV 2
       have d3 := Blk.cell hbV 3
       have d4 := Blk.cell hbV 4
       simp only [List.getElem?_toArray, List.getElem?_cons_zero, List.getElem?_cons_succ] at d0 d1 d2 d3 d4
       have f0 := Blk.free hbV 0
       have f1 := Blk.free hbV 1
       have f2 := Blk.free hbV 2
       have f3 := Blk.free hbV 3
       have f4 := Blk.free hbV 4
       have hlt2 := Blk.lt hbV
       refine wp_region_ext_tail 6 (by kernel_rfl) (by kernel_rfl) ?_
       simp only [List.take_succ_cons, List.take_zero, List.drop_succ_cons, List.drop_zero]
       repeat (go_big_quiet_step (fail))
       refine wpQuiet_nil ?_
       intro we hxe
       obtain ⟨w', hrun, hmap, hmod⟩ := (hTV.ext hxe).map.set Tryz.underlying3 Tryz.underlying118 (by have := Hlen.out; have := HM.out; unfold maxLen; omega) (id := id) (id_wf (by have := Hib.out; have := Hl0.out; omega) (by have := Hib.out; have := Hl0.out; omega)) (by rw [Hgr.out]; rfl) ⟨min P Q, Q, rp, rq, ru⟩
       unfold rgV at hrun
       simp only at hrun
       have hblk2 := (hTV.ext hxe).blk.mod hmod (fun e => H.out.ne e)
       have hmw := Lib.hid ((hmr.trans hmV (fun _ _ e => e)).trans (hxe.any.trans hmod (fun i hi e => .inr e)) (fun _ _ e => e))
       have hTW := Lib.hid (show TabAt w' tb mb (setR T id ⟨min P Q, Q, rp, rq, ru⟩) last from ⟨hblk2, hmap, H.out.ne⟩)
       clear c0 hltb d0 d1 d2 d3 d4 f0 f1 f2 f3 f4 hlt2 hblk2 hmap hmod
       go_wp2_with fail
       go_roundw
       case rel => exact ⟨j + 1, Hltj.out, by go_num, Lib.hid (by rw [Hst.out, HE.out]; exact hTW.out), hmw.out⟩
       case measure => have := Hltj.out; simp [intOf]; omega
      | some ur =>
       rw [hog] at hR
       have hR' : ur = ⟨ua, ub, up, uq, uu⟩ := hR
       subst hR'
       have HE := Lib.hid (show movedR es T ⟨ra, rb, rp, rq, ru⟩ = ⟨min (max (min P Q) ua) ub, min (max Q ua) ub, rp, rq, ru⟩ by
        unfold movedR
        rw [show getR T ru = some ⟨ua, ub, up, uq, uu⟩ from Hgo.out.trans hog]
        simp only [HP.out, HQ.out, clampI])
       rw [show (some (⟨ua, ub, up, uq, uu⟩ : Rg)).isSome = true from rfl]
       clear hR hog Hgo
       have d0 := Blk.cell hb6 0
       have d1 := Blk.cell hb6 1
       have d2 := Blk.cell hb6 2
       have d3 := Blk.cell hb6 3
       have d4 := Blk.cell hb6 4
       simp only [List.getElem?_toArray, List.getElem?_cons_zero, List.getElem?_cons_succ] at d0 d1 d2 d3 d4
       have f0 := Blk.free hb6 0
       have f1 := Blk.free hb6 1
       have f2 := Blk.free hb6 2
       have f3 := Blk.free hb6 3
       have f4 := Blk.free hb6 4
       have hlt2 := Blk.lt hb6
       have e0 : w6.cell? ⟨pb, 0, none⟩ = some (.int .i64 ua) := hbp6.cell 0
       have e1 : w6.cell? ⟨pb, 1, none⟩ = some (.int .i64 ub) := hbp6.cell 1
       have hlt3 := hbp6.lt
       have hne2 : ¬ wr.heap.size = pb := fun e => hne e.symm
       go_upto_region 23 with fail
       obtain ⟨v, hv⟩ : ∃ v, v = (w6.setCell ⟨wr.heap.size, 0, none⟩ (.int .i64 (min (max (min P Q) ua) ub))).setCell ⟨wr.heap.size, 1, none⟩ (.int .i64 (min (max Q ua) ub)) := ⟨_, rfl⟩
       have hbV : Blk v wr.heap.size 66 #[.int .i64 (min (max (min P Q) ua) ub), .int .i64 (min (max Q ua) ub), .bool rp, .bool rq, .int .i64 ru] := by rw [hv]; exact (hb6.set 0 _).set 1 _
       have hxv : Ext wr v := by rw [hv]; exact (hxw6.setCell (p := ⟨wr.heap.size, 0, none⟩) (fun h => absurd h (Nat.lt_irrefl _)) _).setCell (p := ⟨wr.heap.size, 1, none⟩) (fun h => absurd h (Nat.lt_irrefl _)) _
       rw [← hv]
       clear hv d0 d1 d2 d3 d4 f0 f1 f2 f3 f4 hlt2 e0 e1 hlt3 hb6 hbp6 hne hne2
       have hTV := HTA.out.ext hxv
       have hmV : Mod (tabS tb mb) wr v := hxv.any
       have c0 : World.cell? v ⟨tb, 0, none⟩ = some (.map (some mb)) := hTV.blk.cell 0
       have hltb := hTV.blk.lt
       have d0 := Blk.cell hbV 0
       have d1 := Blk.cell hbV 1
       have d2 := Blk.cell hbV 2
       have d3 := Blk.cell hbV 3
       have d4 := Blk.cell hbV 4
       simp only [List.getElem?_toArray, List.getElem?_cons_zero, List.getElem?_cons_succ] at d0 d1 d2 d3 d4
       have f0 := Blk.free hbV 0
       have f1 := Blk.free hbV 1
       have f2 := Blk.free hbV 2
       have f3 := Blk.free hbV 3
       have f4 := Blk.free hbV 4
       have hlt2 := Blk.lt hbV
       refine wp_region_ext_tail 6 (by kernel_rfl) (by kernel_rfl) ?_
       simp only [List.take_succ_cons, List.take_zero, List.drop_succ_cons, List.drop_zero]
       repeat (go_big_quiet_step (fail))
       refine wpQuiet_nil ?_
       intro we hxe
       obtain ⟨w', hrun, hmap, hmod⟩ := (hTV.ext hxe).map.set Tryz.underlying3 Tryz.underlying118 (by have := Hlen.out; have := HM.out; unfold maxLen; omega) (id := id) (id_wf (by have := Hib.out; have := Hl0.out; omega) (by have := Hib.out; have := Hl0.out; omega)) (by rw [Hgr.out]; rfl) ⟨min (max (min P Q) ua) ub, min (max Q ua) ub, rp, rq, ru⟩
       unfold rgV at hrun
       simp only at hrun
       have hblk2 := (hTV.ext hxe).blk.mod hmod (fun e => H.out.ne e)
       have hmw := Lib.hid ((hmr.trans hmV (fun _ _ e => e)).trans (hxe.any.trans hmod (fun i hi e => .inr e)) (fun _ _ e => e))
       have hTW := Lib.hid (show TabAt w' tb mb (setR T id ⟨min (max (min P Q) ua) ub, min (max Q ua) ub, rp, rq, ru⟩) last from ⟨hblk2, hmap, H.out.ne⟩)
       clear c0 hltb d0 d1 d2 d3 d4 f0 f1 f2 f3 f4 hlt2 hblk2 hmap hmod
       go_wp2_with fail
       go_roundw
       case rel => exact ⟨j + 1, Hltj.out, by go_num, Lib.hid (by rw [Hst.out, HE.out]; exact hTW.out), hmw.out⟩
       case measure => have := Hltj.out; simp [intOf]; omega
     ·have hlt' : ¬ (j : Int) < (M : Int) := by omega
      obtain rfl : j = M := by omega
      have hfin := HTA.out
      rw [HM.out] at hfin
      have Hfin := Lib.hid (show TabAt wr tb mb (moveT es L) last from hfin)
      clear hfin
      go_wp2_with fail
      go_ret
      exact .inl ⟨HC0.out, rfl, Hfin.out, hy5.any.trans hmr (fun _ _ e => e)⟩
def refT (T : TypeId) : Prop := T = 3 ∨ T = 66 ∨ T = 86
def RefS (B : Nat) (w : World) (k : Nat) : Prop := B ≤ k ∧ ∃ T cs fr, w.heap[k]? = some (.cells cs T fr) ∧ refT T
theorem RefS.trans {B : Nat} {a b c : World} (h : Mod (RefS B a) a b) (k : Mod (RefS B b) b c) : Mod (RefS B a) a c := by
 refine h.trans k fun i hi hT => ?_
 refine Classical.byContradiction fun hn => hn ?_
 obtain ⟨h1, T, cs, fr, h2, h3⟩ := hT
 exact ⟨h1, T, cs, fr, by rw [← h.block i hi hn]; exact h2, h3⟩
theorem RefS.blk {B b : Nat} {w : World} {T : TypeId} {cs : Array Value} (h : Blk w b T cs) (hT : refT T) (hB : B ≤ b) : RefS B w b := ⟨hB, T, cs, _, h, hT⟩
theorem RefS.own {B B' : Nat} {w : World} {T : TypeId} {z n : Nat} {v : Value} {xs : List Value} (h : w.ownsRow B' T z v n xs) (hT : refT T) (hB : B ≤ B') : ∀ k, v.ownBlock = some k → RefS B w k := by
 intro k hk
 rcases h.2 with ⟨hv, _⟩ | ⟨g, cap, cur, hv, hb, hg, _⟩
 ·rw [hv] at hk; cases hk
 ·rw [hv] at hk
  cases hk
  exact ⟨Nat.le_trans hB hb, T, cur, _, hg, hT⟩
theorem refs_blk {B b : Nat} {w w' : World} {T : TypeId} {cs : Array Value} (hb : Blk w b T cs) (hT : refT T) (hB : B ≤ b) (h : Mod (· = b) w w') : Mod (RefS B w) w w' := h.mono (fun i _ e => by subst e; exact RefS.blk hb hT hB)
theorem refs_own {B B' : Nat} {w w' : World} {T : TypeId} {z n : Nat} {v : Value} {xs : List Value} (h : w.ownsRow B' T z v n xs) (hT : refT T) (hB : B ≤ B') (hm : Mod (fun k => v.ownBlock = some k) w w') : Mod (RefS B w) w w' := hm.mono (fun i _ e => RefS.own h hT hB i e)
theorem own_type {w : World} {B b z n : Nat} {T T' : TypeId} {v : Value} {xs : List Value} {cs : Array Value} (h : w.ownsRow B T z v n xs) (hb : Blk w b T' cs) (hne : T ≠ T') : ∀ k, v.ownBlock = some k → k ≠ b := by
 intro k hk e
 subst e
 rcases h.2 with ⟨hv, _⟩ | ⟨g, cap, cur, hv, _, hg, _⟩
 ·rw [hv] at hk; cases hk
 ·rw [hv] at hk
  cases hk
  rw [Blk, hg] at hb
  cases hb
  exact hne rfl
theorem own_apart {w : World} {B B' z z' n n' : Nat} {T T' : TypeId} {v v' : Value} {xs xs' : List Value} (h : w.ownsRow B T z v n xs) (h' : w.ownsRow B' T' z' v' n' xs') (hne : T ≠ T') : ∀ k, v.ownBlock = some k → v'.ownBlock ≠ some k := by
 intro k hk hk'
 rcases h'.2 with ⟨hv, _⟩ | ⟨g, cap, cur, hv, _, hg, _⟩
 ·rw [hv] at hk'; cases hk'
 ·rw [hv] at hk'
  cases hk'
  exact own_type h (show Blk w g T' cur from hg) hne g hk rfl
theorem RefS.far {B tb mb : Nat} {L : Tb} {last : Int} {w : World} (h : TabAt w tb mb L last) {k : Nat} (hk : RefS B w k) : ¬ tabS tb mb k := by
 obtain ⟨_, T, cs, fr, h2, h3⟩ := hk
 rintro (rfl | rfl)
 ·have hb := h.blk
  rw [Blk, h2] at hb
  cases hb
  rcases h3 with h3 | h3 | h3 <;> revert h3 <;> decide
 ·obtain ⟨D, ⟨es, clock, hb, _⟩, _⟩ := h.map
  rw [h2] at hb
  cases hb
structure RefAt (w : World) (B ub : Nat) (v1 v2 : Value) (L : Tb) (last : Int) : Prop where
 blk : Blk w ub 86 #[v1, v2, .int .i64 last]
 base : B ≤ ub
 is : w.ownsRow B 3 1 v1 L.length (inE.cells (idsR L))
 rs : w.ownsRow B 66 5 v2 L.length (rgE.cells (L.map (·.2)))
theorem RefAt.mod {S : Nat → Prop} {w w' : World} {B ub : Nat} {v1 v2 : Value} {L : Tb} {last : Int} (h : RefAt w B ub v1 v2 L last) (hm : Mod S w w') (hS : ∀ k, RefS B w k → ¬ S k) : RefAt w' B ub v1 v2 L last :=
 ⟨h.blk.mod hm (hS _ (RefS.blk h.blk (.inr (.inr rfl)) h.base)), h.base,
  ownsRow_mod h.is hm (fun k hk => hS k (RefS.own h.is (.inl rfl) (Nat.le_refl _) k hk)), ownsRow_mod h.rs hm (fun k hk => hS k (RefS.own h.rs (.inr (.inl rfl)) (Nat.le_refl _) k hk))⟩
theorem RefAt.ext {w w' : World} {B ub : Nat} {v1 v2 : Value} {L : Tb} {last : Int} (h : RefAt w B ub v1 v2 L last) (hm : Ext w w') : RefAt w' B ub v1 v2 L last := h.mod hm (fun _ _ f => f)
theorem RefAt.tab {w w' : World} {B ub tb mb : Nat} {v1 v2 : Value} {L L' : Tb} {last last' : Int} (h : RefAt w B ub v1 v2 L last) (ht : TabAt w tb mb L' last') (hm : Mod (tabS tb mb) w w') : RefAt w' B ub v1 v2 L last := h.mod hm (fun _ hk => RefS.far ht hk)
theorem RefAt.rdI {w : World} {B ub : Nat} {v1 v2 : Value} {L : Tb} {last : Int} (h : RefAt w B ub v1 v2 L last) : ∃ ao c, v1 = .slice ao L.length c ∧ Reads w 1 ao L.length (inE.cells (idsR L)) := Enc.owns_reads (E := inE) h.is
theorem RefAt.rdR {w : World} {B ub : Nat} {v1 v2 : Value} {L : Tb} {last : Int} (h : RefAt w B ub v1 v2 L last) : ∃ ao c, v2 = .slice ao L.length c ∧ Reads w 5 ao L.length (rgE.cells (L.map (·.2))) := Enc.owns_reads (E := rgE) h.rs
theorem rat_any (l : List Int) (id R : Int) (hR : WhereI l id R) (ub : Nat) (ao : Option Addr) (cap : Nat) (v2 v3 : Value) (w : World) (hb : Blk w ub 86 #[.slice ao l.length cap, v2, v3]) (hr : Reads w 1 ao l.length (inE.cells l)) (hn : l.length ≤ 1000) :
  Calls Tryz.prog 97 #[.pointer (some ⟨ub, 0, none⟩), .int .i64 id] w fun e w' => e = .returned (.int .i64 R) ∧ w' = w := by
 have Hr := Lib.hid hr
 have HR := Lib.hid hR
 obtain ⟨N, hN⟩ : ∃ N, N = l.length := ⟨_, rfl⟩
 have HN := Lib.hid hN
 have hb0 := hb.cell 0
 simp only [List.getElem?_toArray, List.getElem?_cons_zero] at hb0
 rw [← hN] at hn hb0
 have hlb := hb.lt
 clear hr hN hR hb
 go_enter Tryz.func97, Tryz.ntmps97
 go_wp2_with fail
 go_loop [5] (fun i => ∃ k : Nat, k ≤ N ∧ i = .int .i64 k ∧ Hid (∀ j, j < k → l[j]? ≠ some id)) (fun i => N - (intOf i).toNat)
 case atStart => exact ⟨0, by omega, rfl, Lib.hid (fun j hj => absurd hj (Nat.not_lt_zero j))⟩
 case round =>
  obtain ⟨k, hk, rfl, HK⟩ := hrel
  by_cases hlt : k < N
  ·have hlt' : (k : Int) < (N : Int) := by omega
   have hk0 : (0 : Int) ≤ (k : Int) := by omega
   obtain ⟨b, off, rfl⟩ := Hr.out.some (by rw [← HN.out]; omega)
   have hlk : k < l.length := by rw [← HN.out]; exact hlt
   have q0 := rdIn_at Hr.out (List.getElem?_eq_getElem hlk)
   have Hx := Lib.hid (List.getElem?_eq_getElem hlk)
   generalize l[k] = x at *
   have hbl := World.block_lt_of_cell? w _ q0
   by_cases hx : x = id
   ·have hx1 : (x == id) = true := by simpa using hx
    have HE := Lib.hid (show (k : Int) = R by
     rcases HR.out with ⟨k2, h1, h2, h3⟩ | ⟨_, h2⟩
     ·have a1 : ¬ k < k2 := fun h => h3 k h (by rw [Hx.out, hx])
      have a2 : ¬ k2 < k := fun h => HK.out k2 h h2
      omega
     ·exact absurd (by rw [Hx.out, hx]) (h2 k))
    clear hx HR HK
    go_wp2_with fail
    go_ret
    exact ⟨ret_int HE.out, rfl⟩
   ·have hx1 : (x == id) = false := by simpa using hx
    have Hne := Lib.hid hx
    clear hx
    go_wp2_with fail
    go_round
    case rel =>
     refine ⟨k + 1, by omega, by go_num, Lib.hid (fun j hj => ?_)⟩
     by_cases e : j = k
     ·subst e; rw [Hx.out]; intro h; exact Hne.out (Option.some.inj h)
     ·exact HK.out j (by omega)
    case measure => simp [intOf]; omega
  ·have hlt' : ¬ (k : Int) < (N : Int) := by omega
   have HE := Lib.hid (show (-1 : Int) = R by
    rcases HR.out with ⟨k2, h1, h2, h3⟩ | ⟨h1, _⟩
    ·exact absurd h2 (HK.out k2 (by have := (List.getElem?_eq_some_iff.1 h2).1; rw [← HN.out] at this; omega))
    ·exact h1.symm)
   clear HR HK
   go_wp2_with fail
   go_ret
   exact ⟨ret_int HE.out, rfl⟩
end Go.Proofs.YthlmgoagnfkhdaaGreat

/- Two sheets by different dice are the same to whatever is done: the walk. Conditions: none. -/
import Derived.Test.YthlmgoagnfkhdaaGreatGimF46
set_option maxHeartbeats 6400000
set_option maxRecDepth 1000000
set_option linter.unusedVariables false
set_option linter.unusedSimpArgs false
namespace Go.Gim
open Go Go.RowKit
theorem Reads.since {w w' : World} {z n : Nat} {ao : Option Addr} {xs : List Value} (h : Reads w z ao n xs) (hm : Mod (fun j => w.heap.size ≤ j) w w') : Reads w' z ao n xs := by
 refine ⟨h.1, fun h0 => ?_⟩
 obtain ⟨b, off, rfl, hc⟩ := h.2 h0
 refine ⟨b, off, rfl, fun j hj => ?_⟩
 have hu : w.cell? ⟨b, off + j, none⟩ = Option.some (xs[j]) := by rw [hc j hj, List.getElem?_eq_getElem hj]
 have hl := World.block_lt_of_cell? w _ hu
 rw [hm.cell hl (fun e => absurd hl (Nat.not_lt.2 e))]
 exact hc j hj
end Go.Gim
namespace Go.Proofs.YthlmgoagnfkhdaaGreat
open Go.RowKit Go.Gim
def EsAt (w wn : World) (v : Value) (es : List Ed) : Prop := ∃ (a : Option Addr) (c : Nat), v = .slice a es.length c ∧ wn.ownsRow w.heap.size 59 3 (.slice a es.length c) es.length (edE.cells es) ∧ es.length ≤ 6 ∧ (∀ e ∈ es, e.t.size ≤ 40) ∧ Ext w wn
theorem EsAt.of {w wb wn : World} {v : Value} {es : List Ed} (hb : Ext w wb) (ho : wn.ownsRow wb.heap.size 59 3 v es.length (edE.cells es)) (h6 : es.length ≤ 6) (ht : ∀ e ∈ es, e.t.size ≤ 40) (hx : Ext w wn) : EsAt w wn v es := by
 obtain ⟨a, c, rfl, _⟩ := Enc.owns_reads (E := edE) ho
 exact ⟨a, c, rfl, ownsRow_base ho hb.size, h6, ht, hx⟩
theorem Alone.go_any {w0 w : World} {S : Sh} {Bd : Int} {m : Nat} (h : Alone w0 w S Bd m) (hm : m ≤ 19) (way : Int) (x : Bool) :
  Calls Tryz.prog 31 #[.pointer (some ⟨S.sb, 0, none⟩), .int .i64 way, .bool x] w fun e w' => ∃ S', e = .returned (.int .i64 (goE S.s.size way S.q)) ∧ ShDone S S' w w' ∧ Alone w0 w' S' Bd m ∧ S'.s = S.s ∧ S'.q = if goE S.s.size way S.q = 0 then goL S.s.data.toList way x S.q else S.q := by
 refine (sgo_any S way x w h.sh (by have := h.q1; omega)).mono ?_
 rintro e w' ⟨S', rfl, hd, e1, e2, e3, e4⟩
 refine ⟨S', rfl, hd, ?_, e1, e4⟩
 by_cases hz : goE S.s.size way S.q = 0
 ·rw [if_pos hz] at e4
  refine h.pick hd e1 e2 e3 (by rw [e4]; exact goL_pos hz) (by rw [e4]; exact Nat.le_trans (goL_len _ _ _ _) h.q1) (by rw [e4]; exact goL_in)
 ·rw [if_neg hz] at e4
  exact h.pick hd e1 e2 e3 (by rw [e4]; exact h.q0) (by rw [e4]; exact h.q1) (by rw [e4]; exact h.inq)
theorem Alone.select_any {w0 w : World} {S : Sh} {Bd : Int} {m : Nat} (h : Alone w0 w S Bd m) (hm : m ≤ 19) (ao : Option Addr) (cap : Nat) (l : List (Int × Int)) (hr : Reads w 2 ao l.length (prCells l)) (hn : l.length ≤ m) :
  Calls Tryz.prog 14 #[.pointer (some ⟨S.sb, 0, none⟩), .slice ao l.length cap] w fun e w' => ∃ S', e = .returned (.int .i64 (normE S.s.size l)) ∧ ShDone S S' w w' ∧ Alone w0 w' S' Bd m ∧ S'.s = S.s ∧ S'.q = if normE S.s.size l = 0 then orderN l else S.q := by
 refine (sselect_any S ao cap l w h.sh hr (by omega)).mono ?_
 rintro e w' ⟨S', rfl, hd, e1, e2, e3, e4⟩
 refine ⟨S', rfl, hd, ?_, e1, e4⟩
 by_cases hz : normE S.s.size l = 0
 ·rw [if_pos hz] at e4
  refine h.pick hd e1 e2 e3 (by rw [e4]; exact orderN_pos (normE_ok hz).1) (by rw [e4]; exact Nat.le_trans (orderN_len l) hn) (by rw [e4]; exact orderN_inT hz)
 ·rw [if_neg hz] at e4
  exact h.pick hd e1 e2 e3 (by rw [e4]; exact h.q0) (by rw [e4]; exact h.q1) (by rw [e4]; exact h.inq)
theorem sheetDice_any (w : World) (na : Option Addr) (nc : Nat) (ns : List Int) (ma : Option Addr) (mc : Nat) (ms : List Int) (s : ByteArray) (ao : Option Addr) (cap : Nat) (L : List Ds)
  (z0 : ∀ x ∈ ns, x ≤ 4294967295) (m0 : Reads w 1 na ns.length (ns.map (Value.int .u32))) (z1 : ∀ x ∈ ms, x ≤ 4294967295) (m1 : Reads w 1 ma ms.length (ms.map (Value.int .u32))) (hn : ns.length ≤ 30) (hm : ms.length ≤ 30)
  (hs : s.size ≤ 80) (hr : Reads w 7 ao L.length (dsE.cells L)) (hok : ∀ x ∈ L, DsOk w x) (hl : L.length ≤ 12) (hmu : muchS L = false) :
  Calls Tryz.prog 7 #[.slice na ns.length nc, .slice ma ms.length mc, .string s, .slice ao L.length cap] w fun e w' => e = .returned (.bool true) ∧ Ext w w' := by
 have Hfit := Lib.hid (fit_of hmu)
 have HM := muchS_any 12 ao cap L w hr hok (by unfold maxLen; omega) (by omega)
 rw [if_neg (by omega), hmu] at HM
 have HM' := Lib.hid HM
 have HD1 := Lib.hid (fun v (h : Ext w v) => dice_new v na nc ns (by omega) z0 (m0.mod h (fun _ _ f => f)))
 have HD2 := Lib.hid (fun v (h : Ext w v) => dice_new v ma mc ms (by omega) z1 (m1.mod h (fun _ _ f => f)))
 obtain ⟨N, hN⟩ : ∃ N, N = L.length := ⟨_, rfl⟩
 have HN := Lib.hid hN
 have Hr := Lib.hid hr
 have Hok := Lib.hid hok
 rw [← hN] at hl HM' ⊢
 clear hr hok hN
 generalize ns.length = N1 at *
 generalize ms.length = N2 at *
 have i1 : ¬ (30 : Int) < (N1 : Int) := by omega
 have i2 : decide ((30 : Int) < (N1 : Int)) = false := decide_eq_false i1
 have i3 : ¬ (30 : Int) < (N2 : Int) := by omega
 have i4 : decide ((30 : Int) < (N2 : Int)) = false := decide_eq_false i3
 have i5 : ¬ (80 : Int) < (s.size : Int) := by omega
 have i6 : decide ((80 : Int) < (s.size : Int)) = false := decide_eq_false i5
 clear hmu HM m0 m1 z0 z1
 go_enter Tryz.func7, Tryz.ntmps7
 go_wp2_with fail
 refine HM'.out.mono ?_
 rintro e v0 ⟨rfl, rfl⟩
 go_wp2_with fail
 refine (HD1.out _ (Mod.refl _ _)).mono ?_
 rintro e u1 ⟨D, rfl, hD⟩
 go_wp2_with fail
 refine (snew_any D s u1 hD.dice (by omega)).mono ?_
 rintro e u2 ⟨A, rfl, h1, h2, h3, h4, h5, -, h6, h7⟩
 have HA := Lib.hid (Alone.start (m := 6) hD.ext hD.d h1 h3 h4 h5 h6 h7 (by omega))
 have H2 := Lib.hid h2
 have H5 := Lib.hid h5
 clear hD h1 h2 h3 h4 h5 h6 h7 HD1 HM'
 go_wp2_with fail
 refine (HD2.out _ HA.out.ext).mono ?_
 rintro e u3 ⟨D2, rfl, hD2⟩
 go_wp2_with fail
 refine (snew_any D2 s u3 hD2.dice (by omega)).mono ?_
 rintro e u4 ⟨B, rfl, k1, k2, k3, k4, k5, kr, k6, k7⟩
 have HT := Lib.hid (Two.start HA.out hD2 k1 (k2.trans H2.out.symm) k3 k4 k5 H5.out kr k6 k7 (by omega) (by omega))
 clear HA H5 hD2 k1 k2 k3 k4 k5 kr k6 k7 HD2 i1 i2 i3 i4 i5 i6
 go_wp2_with fail
 go_loopw [13] (fun i wr => ∃ (k : Nat) (A1 B1 : Sh), k ≤ N ∧ i = .int .i64 k ∧ A1.sb = A.sb ∧ B1.sb = B.sb ∧ A1.s.size ≤ 80 + 300 * k ∧ Hid (Two v0 wr A1 B1 (65536 + 2000000 * (k : Int)) 6)) (fun i _ => N - (intOf i).toNat)
 case atStart => exact ⟨0, A, B, by omega, rfl, rfl, rfl, by rw [H2.out]; omega, Lib.hid (HT.out.more (by omega))⟩
 case round =>
  clear HT
  obtain ⟨k, A1, B1, hk, rfl, ha1, hb1, hsz, HT⟩ := hrel
  by_cases hlt : k < N
  ·have hlt' : (k : Int) < (N : Int) := by omega
   have hk0 : (0 : Int) ≤ (k : Int) := by omega
   have HL := Lib.hid hlt
   have Hsz := Lib.hid hsz
   have Ha1 := Lib.hid ha1
   have Hb1 := Lib.hid hb1
   obtain ⟨b, off, rfl⟩ := Hr.out.some (by rw [← HN.out]; omega)
   have hlk : k < L.length := by rw [← HN.out]; exact hlt
   have Hcw := Lib.hid (fun w' (h' : Mod (fun j => v0.heap.size ≤ j) v0 w') => reads_ds (Hr.out.since h') (List.getElem?_eq_getElem hlk))
   have Hdo := Lib.hid (Hok.out _ (List.getElem_mem hlk))
   have Hft := Lib.hid (Hfit.out _ (List.getElem_mem hlk))
   generalize L[k] = x at *
   obtain ⟨xk, xa, xb, xp, xt, xao, xcap, xes, xso, xsc, xsl⟩ := x
   simp only at Hcw
   have L3 := Lib.hid (fun v => lowC xk 3 3 (by omega) (by omega) (by omega) v)
   have HE := Lib.hid (fun w' (h' : Ext v0 w') => editsN_any A1.s.size xao xcap xes w' (Hdo.out.rd.mod h' (fun _ _ f => f)) (by have := Hft.out.es; simp only at this; omega) (by omega))
   have HTy := Lib.hid (fun w' (h' : Ext wr w') => styped_any A1 xt w' (HT.out.a.sh.ext h') HT.out.a.q0 (by have := HT.out.a.q1; omega))
   have HEr := Lib.hid (fun w' (h' : Ext wr w') => serased_any B1 xp w' (HT.out.b.sh.ext h') HT.out.b.q0 (by have := HT.out.b.q1; omega) HT.out.b.inq)
   unfold Enc.Out at HE HTy HEr
   rw [ha1] at HTy
   rw [hb1] at HEr
   have He6 := Lib.hid (show (editsN A1.s.size xes).length ≤ 6 by rw [editsN_len]; exact Hft.out.es)
   have Het := Lib.hid (show ∀ e ∈ editsN A1.s.size xes, e.t.size ≤ 40 from editsN_t Hft.out.et)
   have Ht6 := Lib.hid (show (typedL xt A1.q).length ≤ 6 by rw [typedL_len]; exact HT.out.a.q1)
   have Htt := Lib.hid (show ∀ e ∈ typedL xt A1.q, e.t.size ≤ 40 from fun e he => by
    obtain ⟨y, _, rfl⟩ := List.mem_map.1 he
    exact Hft.out.t)
   have Hr6 := Lib.hid (show (erasedL B1.s.data.toList xp B1.q).length ≤ 6 from Nat.le_trans (erasedL_len _ _ _) HT.out.b.q1)
   have Hrt := Lib.hid (show ∀ e ∈ erasedL B1.s.data.toList xp B1.q, e.t.size ≤ 40 from fun e he => by
    obtain ⟨y, _, rfl⟩ := List.mem_map.1 he
    show (0 : Nat) ≤ 40
    omega)
   generalize editsN A1.s.size xes = EN at *
   generalize typedL xt A1.q = ET at *
   generalize erasedL B1.s.data.toList xp B1.q = EE at *
   have HLn := Lib.hid (fun w' (h' : Ext wr w') => Calls.same_ext (len_any A1.R w' (HT.out.a.sh.rope.ext h')))
   rw [size_of HT.out.a.sh.text] at HLn
   have HS := Lib.hid (fun w' (h' : Ext wr w') => (⟨by have h := SheetAt.cell0 (HT.out.a.sh.ext h'); rw [ha1] at h; exact h, (Hcw.out w' ((HT.out.a.ext.ext_trans h').any)).2.2.1, trivial, trivial⟩ : w'.cell? ⟨A.sb, 0, none⟩ = some (.pointer (some ⟨A1.R.rb, 0, none⟩)) ∧ w'.cell? ⟨b, off + k * 7 + 5, none⟩ = some (.slice xao xes.length xcap) ∧ True ∧ True))
   clear hlk ha1 hb1 hsz
   go_upto_region 10 with fail
   refine wp_region_E (by kernel_rfl) ?_
   refine wpE_t 0 71 (v := ?_) (fun w' hw' => qat_value ?_) ?_
   rotate_left
   ·go_simp
    rfl
   simp only [fr1, fr2, fr3, fr4]
   refine wpE_t 1 72 (v := ?_) (fun w' hw' => qat_value ?_) ?_
   rotate_left
   ·go_simp
    rfl
   simp only [fr1, fr2, fr3, fr4]
   refine wpE_t 2 73 (v := ?_) (fun w' hw' => qat_value ?_) ?_
   rotate_left
   ·go_simp
    rfl
   simp only [fr1, fr2, fr3, fr4]
   refine wpE_t 3 74 (v := ?_) (fun w' hw' => qat_value ?_) ?_
   rotate_left
   ·go_simp
    rfl
   simp only [fr1, fr2, fr3, fr4]
   refine wpE_t 4 75 (v := ?_) (fun w' hw' => ?_) ?_
   rotate_left
   ·obtain ⟨r0, r1, r2, r3⟩ := HS.out w' hw'
    refine qat_value ?_
    go_simp
    rfl
   simp only [fr1, fr2, fr3, fr4]
   refine wpE_t 6 77 (v := ?_) (fun w' hw' => qat_value ?_) ?_
   rotate_left
   ·go_simp
    rfl
   simp only [fr1, fr2, fr3, fr4]
   refine wpE_t 7 78 (v := ?_) (fun w' hw' => qat_value ?_) ?_
   rotate_left
   ·go_simp
    rfl
   simp only [fr1, fr2, fr3, fr4]
   refine wpE_t 8 79 (v := ?_) (fun w' hw' => qat_value ?_) ?_
   rotate_left
   ·go_simp
    rfl
   simp only [fr1, fr2, fr3, fr4]
   refine wpE_t 9 80 (v := ?_) (fun w' hw' => qat_value ?_) ?_
   rotate_left
   ·go_simp
    rfl
   simp only [fr1, fr2, fr3, fr4]
   refine wpE_t 10 81 (v := ?_) (fun w' hw' => ?_) ?_
   rotate_left
   ·obtain ⟨r0, r1, r2, r3⟩ := HS.out w' hw'
    refine qat_value ?_
    go_simp
    rfl
   simp only [fr1, fr2, fr3, fr4]
   refine wpE_t 5 76 (v := ?_) (fun w' hw' => ?_) ?_
   rotate_left
   ·refine qat_enter (by go_simp; exact ⟨rfl, rfl⟩) ?_
    exact HLn.out _ hw'
   simp only [fr1, fr2, fr3, fr4]
   refine wpE_callw 11 82 (f := 34) (args := #[.int .i64 (A1.s.size : Nat), .slice xao xes.length xcap]) rfl rfl (by kernel_rfl) rfl (fun w' => by first | (go_simp; done) | (go_simp; exact ⟨rfl, rfl⟩)) fun wb hwb => ?_
   have hyb : Ext wr wb := (ext_draw wr).ext_trans hwb
   refine (HE.out wb (HT.out.a.ext.ext_trans hyb)).mono ?_
   rintro e wc ⟨v, rfl, ho, hx1⟩
   have hyc := hyb.ext_trans hx1
   refine ⟨_, rfl, hyc, ?_⟩
   simp only [fr1, fr2, fr3, fr4]
   refine wpE_t 12 14 (v := ?_) (fun w' hw' => qat_value ?_) ?_
   rotate_left
   ·go_simp
    rfl
   simp only [fr1, fr2, fr3, fr4]
   refine wpE_done (by kernel_rfl) (fun wj hwj => ?_) _
   have hyj := hyc.ext_trans hwj
   have HEN := Lib.hid (EsAt.of hyb (ownsRow_mod ho hwj (fun _ _ f => f)) He6.out Het.out hyj)
   clear ho hx1 hyc hwj hyb hwb HS HE HLn
   have hc := Hcw.out wj ((HT.out.a.ext.ext_trans hyj).any)
   obtain ⟨⟨q0, q1, q2, q3⟩, q4, q5, q6⟩ := hc
   have hbl := World.block_lt_of_cell? wj _ q0
   have Hyj := Lib.hid hyj
   have hK3 := lowN_lt xk 3 (by omega)
   generalize lowN xk 3 = K3 at *
   clear hyj q1 q2 q5 q6
   go_wp2_with fail
   refine (L3.out _).mono ?_
   rintro e wz ⟨rfl, rfl⟩
   go_upto_if 89 with fail
   go_cut [14] (fun v14 wx => ∃ (es : List Ed) (v1 : Value) (wn : World), v1 = v14 ∧ wn = wx ∧ Hid (EsAt wr wn v1 es))
   case first =>
    by_cases hz : K3 = 0
    ·subst hz
     have b1 : (((0 : Nat) : Int) == 0) = true := rfl
     go_wp2_with fail
     refine (HTy.out _ Hyj.out).mono ?_
     rintro e w5 ⟨v5, rfl, ho5, hx5⟩
     have H9 := Lib.hid (EsAt.of Hyj.out ho5 Ht6.out Htt.out (Hyj.out.ext_trans hx5))
     clear ho5 hx5 q0 q3 q4 hbl
     go_wp2_with fail
     go_meet
     case rel => exact ⟨_, _, _, rfl, rfl, H9⟩
    ·have b1 : ((K3 : Int) == 0) = false := by simp; omega
     go_wp2_with fail
     go_meet
     case rel => exact ⟨_, _, _, rfl, rfl, HEN⟩
   case rest =>
    obtain ⟨es1, v1, wn1, rfl, rfl, HEs1⟩ := hcut
    have hxn : Ext wr wn1 := by obtain ⟨_, _, _, _, _, _, h⟩ := HEs1.out; exact h
    clear q0 q3 q4 hbl Hyj HEN HTy He6 Het Ht6 Htt
    have hc := Hcw.out wn1 ((HT.out.a.ext.ext_trans hxn).any)
    obtain ⟨⟨q0, q1, q2, q3⟩, q4, q5, q6⟩ := hc
    have hbl := World.block_lt_of_cell? wn1 _ q0
    have Hxn := Lib.hid hxn
    clear q1 q2 q4 q5 q6 hxn
    go_wp2_with fail
    refine (L3.out _).mono ?_
    rintro e wz ⟨rfl, rfl⟩
    go_upto_if 103 with fail
    go_cut [14] (fun v14 wx => ∃ (es : List Ed) (v1 : Value) (wn : World), v1 = v14 ∧ wn = wx ∧ Hid (EsAt wr wn v1 es))
    case first =>
     by_cases ho : K3 = 1
     ·subst ho
      have b2 : (((1 : Nat) : Int) == 1) = true := rfl
      go_wp2_with fail
      refine (HEr.out _ Hxn.out).mono ?_
      rintro e w5 ⟨v5, rfl, ho5, hx5⟩
      have H9 := Lib.hid (EsAt.of Hxn.out ho5 Hr6.out Hrt.out (Hxn.out.ext_trans hx5))
      clear ho5 hx5 q0 q3 hbl
      go_wp2_with fail
      go_meet
      case rel => exact ⟨_, _, _, rfl, rfl, H9⟩
     ·have b2 : ((K3 : Int) == 1) = false := by simp; omega
      go_wp2_with fail
      go_meet
      case rel => exact ⟨_, _, _, rfl, rfl, HEs1⟩
    case rest =>
     obtain ⟨es, v1, wn, rfl, rfl, HEs⟩ := hcut
     clear q0 q3 hbl Hxn HEs1 HEr L3 hK3 Hr6 Hrt
     obtain ⟨az, cz, hv, ho, he6, het, hx⟩ := HEs.out
     subst hv
     have Ho := Lib.hid ho
     have He6 := Lib.hid he6
     have Het := Lib.hid het
     have HTn := Lib.hid (HT.out.on hx)
     have HDA := Lib.hid (HTn.out.a.do (by omega) (by omega) (by have := Hsz.out; omega) az cz es (Reads.own ho) (by omega) (fun e he => by have := het e he; omega) (fun _ => HT.out.a.free Ho.out (Nat.le_refl _)))
     rw [Ha1.out] at HDA
     clear HEs ho he6 het hx
     go_wp2_with fail
     refine HDA.out.mono ?_
     rintro e w5 ⟨A2, a5, c5, rfl, ho5, hf5, hd5, e1, -, -, e4, hA5⟩
     obtain ⟨hB5, hs5⟩ := HTn.out.a.other HTn.out.b HTn.out.sep hd5
     have HDB := Lib.hid (hB5.do (by omega) (by omega) (by rw [HTn.out.s]; have := Hsz.out; omega) az cz es (Reads.own (own_mod Ho.out hd5.mod (fun a ha => HT.out.a.free Ho.out (Nat.le_refl _) a ha))) (by have := He6.out; omega) (fun e he => by have := Het.out e he; omega) (fun _ => HT.out.b.free Ho.out (Nat.le_refl _)))
     rw [HTn.out.s, HTn.out.q, Hb1.out] at HDB
     have E1 := Lib.hid e1
     have E4 := Lib.hid e4
     have Hd5 := Lib.hid hd5
     have HA5 := Lib.hid hA5
     have Ho5 := Lib.hid ho5
     have Hlt := Lib.hid (fun j (e : ShS B1 j) => HTn.out.b.sh.lt j e)
     clear HDA ho5 hf5 hd5 e1 e4 hA5 hB5 hs5
     go_wp2_with fail
     refine HDB.out.mono ?_
     rintro e w6 ⟨B2, a6, c6, rfl, ho6, hf6, hd6, e1, -, -, e4, hB6⟩
     have HT2 := Lib.hid (HTn.out.both Hd5.out HA5.out (Mod.refl _ _) hd6 hB6 (by rw [e1, E1.out]) (by rw [e4, E4.out]))
     have Hx5 := Lib.hid (show Reads w6 3 a5 (backC A1.s es).length (edE.cells (backC A1.s es)) from Reads.own (own_mod Ho5.out hd6.mod (fun a ha e => by
      have h1 := (Ho5.out.lt a.block (by rw [ha]; rfl)).1
      have h2 := Hlt.out _ e
      omega)))
     have Hx6 := Lib.hid (show Reads w6 3 a6 (backC A1.s es).length (edE.cells (backC A1.s es)) from Reads.own ho6)
     have Hbk := Lib.hid (show (backC A1.s es).length ≤ 6 from Nat.le_trans (backC_len (by have := Hsz.out; omega) (fun e he => by have := Het.out e he; omega)) He6.out)
     have Ha2 := Lib.hid (Hd5.out.sb.trans Ha1.out)
     have Hb2 := Lib.hid (hd6.sb.trans Hb1.out)
     have Hsz2 := Lib.hid (show A2.s.size ≤ 80 + 300 * (k + 1) by
      rw [E1.out]
      have h1 := textC_size (s := A1.s) (es := es) (c := 40) Het.out
      have h2 : es.length * 40 ≤ 6 * 40 := Nat.mul_le_mul_right _ He6.out
      have := Hsz.out
      omega)
     generalize hKK : backC A1.s es = KK at *
     generalize hGG : mayE A1.s.size es = GG at *
     have hgg : (GG != GG) = false := by simp
     clear HDB ho6 hf6 hd6 e1 e4 hB6 hKK hGG E1 E4 Hd5 HA5 Ho5 Hlt HTn Ho He6 Het HT
     have Hsel := Lib.hid (picksN_len 90 xsl)
     have HPk := Lib.hid (fun w' (h' : Mod (fun j => v0.heap.size ≤ j) v0 w') => picksN_any 90 xso xsc xsl w' (Hdo.out.sd.since h') (by have := Hft.out.sl; simp only at this; omega) (by omega))
     have hs6 : xsl.length ≤ 6 := Hft.out.sl
     have Hs6 := Lib.hid hs6
     generalize picksN 90 xsl = PL at *
     generalize hXL : xsl.length = XL at *
     have HM6 := Lib.hid (show Mod (fun j => v0.heap.size ≤ j) v0 w6 from HT2.out.a.ext.any)
     have HS := Lib.hid (fun w' (h' : Mod (fun j => v0.heap.size ≤ j) w6 w') => (⟨(Hcw.out w' (HM6.out.trans h' (fun _ _ e => e))).1.2.1, (Hcw.out w' (HM6.out.trans h' (fun _ _ e => e))).1.2.2.2, (Hcw.out w' (HM6.out.trans h' (fun _ _ e => e))).2.2.2, trivial⟩ :
      w'.cell? ⟨b, off + k * 7 + 1, none⟩ = some (.int .i64 xa) ∧ w'.cell? ⟨b, off + k * 7 + 3, none⟩ = some (.bool xp) ∧ w'.cell? ⟨b, off + k * 7 + 6, none⟩ = some (.slice xso XL xsc) ∧ True))
     clear hs6 hXL
     go_upto_region 17 with fail
     refine wp_region_N (fun j => v0.heap.size ≤ j) (by kernel_rfl) ?_
     refine wpN_take 0 123 (v := ?_) rfl rfl (by kernel_rfl) (by kernel_rfl) (by kernel_rfl) (fun _ _ _ h => h) (by first | exact mod_draw _ | assumption) rfl ?_ ?_
     rotate_left
     ·intro w' hw'
      refine qat_value ?_
      go_simp
      rfl
     simp only [fr1, fr2, fr3, fr4]
     refine wpN_take 1 124 (v := ?_) rfl rfl (by kernel_rfl) (by kernel_rfl) (by kernel_rfl) (fun _ _ _ h => h) (by first | exact mod_draw _ | assumption) rfl ?_ ?_
     rotate_left
     ·intro w' hw'
      refine qat_value ?_
      go_simp
      rfl
     simp only [fr1, fr2, fr3, fr4]
     refine wpN_call 2 125 (f := 35) (args := #[.slice a5 KK.length c5, .slice a6 KK.length c6]) rfl rfl (by kernel_rfl) rfl (fun w' => by first | (go_simp; done) | (go_simp; exact ⟨rfl, rfl⟩)) fun wb hwb => ?_
     have hyb : Ext w6 wb := (ext_draw w6).ext_trans hwb
     refine (editsSame a5 a6 c5 c6 KK wb (Hx5.out.mod hyb (fun _ _ f => f)) (Hx6.out.mod hyb (fun _ _ f => f)) (by have := Hbk.out; omega)).mono ?_
     rintro e wc ⟨rfl, hx1⟩
     have hyc := hyb.ext_trans hx1
     have hmc : Mod (fun j => v0.heap.size ≤ j) w6 wc := hyc.any
     refine ⟨_, rfl, hmc, ?_⟩
     simp only [fr1, fr2, fr3, fr4]
     have HT3 := Lib.hid (HT2.out.on hyc)
     clear Hx5 Hx6 Hbk hyb hwb hx1 hyc HT2
     refine wpN_take 3 126 (v := ?_) rfl rfl (by kernel_rfl) (by kernel_rfl) (by kernel_rfl) (fun _ _ _ h => h) (by first | exact mod_draw _ | assumption) rfl ?_ ?_
     rotate_left
     ·intro w' hw'
      refine qat_value ?_
      go_simp
      rfl
     simp only [fr1, fr2, fr3, fr4]
     refine wpN_take 4 127 (v := ?_) rfl rfl (by kernel_rfl) (by kernel_rfl) (by kernel_rfl) (fun _ _ _ h => h) (by first | exact mod_draw _ | assumption) rfl ?_ ?_
     rotate_left
     ·intro w' hw'
      refine qat_value ?_
      go_simp
      rfl
     simp only [fr1, fr2, fr3, fr4]
     refine wpN_take 5 128 (v := ?_) rfl rfl (by kernel_rfl) (by kernel_rfl) (by kernel_rfl) (fun _ _ _ h => h) (by first | exact mod_draw _ | assumption) rfl ?_ ?_
     rotate_left
     ·intro w' hw'
      refine qat_value ?_
      go_simp
      rfl
     simp only [fr1, fr2, fr3, fr4]
     refine wpN_take 6 129 (v := ?_) rfl rfl (by kernel_rfl) (by kernel_rfl) (by kernel_rfl) (fun _ _ _ h => h) (by first | exact mod_draw _ | assumption) rfl ?_ ?_
     rotate_left
     ·intro w' hw'
      refine qat_value ?_
      go_simp
      rfl
     simp only [fr1, fr2, fr3, fr4]
     refine wpN_take 7 130 (v := ?_) rfl rfl (by kernel_rfl) (by kernel_rfl) (by kernel_rfl) (fun _ _ _ h => h) (by first | exact mod_draw _ | assumption) rfl ?_ ?_
     rotate_left
     ·intro w' hw'
      refine qat_value ?_
      go_simp
      rfl
     simp only [fr1, fr2, fr3, fr4]
     refine wpN_take 8 131 (v := ?_) rfl rfl (by kernel_rfl) (by kernel_rfl) (by kernel_rfl) (fun _ _ _ h => h) (by first | exact mod_draw _ | assumption) rfl ?_ ?_
     rotate_left
     ·intro w' hw'
      refine qat_value ?_
      go_simp
      rfl
     simp only [fr1, fr2, fr3, fr4]
     refine wpN_take 9 132 (v := ?_) rfl rfl (by kernel_rfl) (by kernel_rfl) (by kernel_rfl) (fun _ _ _ h => h) (by first | exact mod_draw _ | assumption) rfl ?_ ?_
     rotate_left
     ·intro w' hw'
      refine qat_value ?_
      go_simp
      rfl
     simp only [fr1, fr2, fr3, fr4]
     refine wpN_take 10 133 (v := ?_) rfl rfl (by kernel_rfl) (by kernel_rfl) (by kernel_rfl) (fun _ _ _ h => h) (by first | exact mod_draw _ | assumption) rfl ?_ ?_
     rotate_left
     ·intro w' hw'
      refine qat_value ?_
      go_simp
      rfl
     simp only [fr1, fr2, fr3, fr4]
     refine wpN_take 11 134 (v := ?_) rfl rfl (by kernel_rfl) (by kernel_rfl) (by kernel_rfl) (fun _ _ _ h => h) (by first | exact mod_draw _ | assumption) rfl ?_ ?_
     rotate_left
     ·intro w' hw'
      refine qat_value ?_
      go_simp
      rfl
     simp only [fr1, fr2, fr3, fr4]
     refine wpN_take 12 135 (v := ?_) rfl rfl (by kernel_rfl) (by kernel_rfl) (by kernel_rfl) (fun _ _ _ h => h) (by first | exact mod_draw _ | assumption) rfl ?_ ?_
     rotate_left
     ·intro w' hw'
      refine qat_value ?_
      go_simp
      rfl
     simp only [fr1, fr2, fr3, fr4]
     refine wpN_take 13 136 (v := ?_) rfl rfl (by kernel_rfl) (by kernel_rfl) (by kernel_rfl) (fun _ _ _ h => h) (by first | exact mod_draw _ | assumption) rfl ?_ ?_
     rotate_left
     ·intro w' hw'
      refine qat_value ?_
      go_simp
      rfl
     simp only [fr1, fr2, fr3, fr4]
     refine wpN_take 14 137 (v := ?_) rfl rfl (by kernel_rfl) (by kernel_rfl) (by kernel_rfl) (fun _ _ _ h => h) (by first | exact mod_draw _ | assumption) rfl ?_ ?_
     rotate_left
     ·intro w' hw'
      refine qat_value ?_
      go_simp
      rfl
     simp only [fr1, fr2, fr3, fr4]
     refine wpN_take 15 138 (v := ?_) rfl rfl (by kernel_rfl) (by kernel_rfl) (by kernel_rfl) (fun _ _ _ h => h) (by first | exact mod_draw _ | assumption) rfl ?_ ?_
     rotate_left
     ·intro w' hw'
      obtain ⟨r0, r1, r2, r3⟩ := HS.out w' hw'
      refine qat_value ?_
      go_simp
      rfl
     simp only [fr1, fr2, fr3, fr4]
     refine wpN_take 16 139 (v := ?_) rfl rfl (by kernel_rfl) (by kernel_rfl) (by kernel_rfl) (fun _ _ _ h => h) (by first | exact mod_draw _ | assumption) rfl ?_ ?_
     rotate_left
     ·intro w' hw'
      refine qat_value ?_
      go_simp
      rfl
     simp only [fr1, fr2, fr3, fr4]
     refine wpN_take 17 140 (v := ?_) rfl rfl (by kernel_rfl) (by kernel_rfl) (by kernel_rfl) (fun _ _ _ h => h) (by first | exact mod_draw _ | assumption) rfl ?_ ?_
     rotate_left
     ·intro w' hw'
      refine qat_value ?_
      go_simp
      rfl
     simp only [fr1, fr2, fr3, fr4]
     refine wpN_take 18 141 (v := ?_) rfl rfl (by kernel_rfl) (by kernel_rfl) (by kernel_rfl) (fun _ _ _ h => h) (by first | exact mod_draw _ | assumption) rfl ?_ ?_
     rotate_left
     ·intro w' hw'
      refine qat_value ?_
      go_simp
      rfl
     simp only [fr1, fr2, fr3, fr4]
     refine wpN_take 19 142 (v := ?_) rfl rfl (by kernel_rfl) (by kernel_rfl) (by kernel_rfl) (fun _ _ _ h => h) (by first | exact mod_draw _ | assumption) rfl ?_ ?_
     rotate_left
     ·intro w' hw'
      refine qat_value ?_
      go_simp
      rfl
     simp only [fr1, fr2, fr3, fr4]
     refine wpN_take 20 143 (v := ?_) rfl rfl (by kernel_rfl) (by kernel_rfl) (by kernel_rfl) (fun _ _ _ h => h) (by first | exact mod_draw _ | assumption) rfl ?_ ?_
     rotate_left
     ·intro w' hw'
      obtain ⟨r0, r1, r2, r3⟩ := HS.out w' hw'
      refine qat_value ?_
      go_simp
      rfl
     simp only [fr1, fr2, fr3, fr4]
     refine wpN_take 22 145 (v := ?_) rfl rfl (by kernel_rfl) (by kernel_rfl) (by kernel_rfl) (fun _ _ _ h => h) (by first | exact mod_draw _ | assumption) rfl ?_ ?_
     rotate_left
     ·intro w' hw'
      refine qat_value ?_
      go_simp
      rfl
     simp only [fr1, fr2, fr3, fr4]
     refine wpN_take 23 146 (v := ?_) rfl rfl (by kernel_rfl) (by kernel_rfl) (by kernel_rfl) (fun _ _ _ h => h) (by first | exact mod_draw _ | assumption) rfl ?_ ?_
     rotate_left
     ·intro w' hw'
      refine qat_value ?_
      go_simp
      rfl
     simp only [fr1, fr2, fr3, fr4]
     refine wpN_take 24 147 (v := ?_) rfl rfl (by kernel_rfl) (by kernel_rfl) (by kernel_rfl) (fun _ _ _ h => h) (by first | exact mod_draw _ | assumption) rfl ?_ ?_
     rotate_left
     ·intro w' hw'
      refine qat_value ?_
      go_simp
      rfl
     simp only [fr1, fr2, fr3, fr4]
     refine wpN_take 25 148 (v := ?_) rfl rfl (by kernel_rfl) (by kernel_rfl) (by kernel_rfl) (fun _ _ _ h => h) (by first | exact mod_draw _ | assumption) rfl ?_ ?_
     rotate_left
     ·intro w' hw'
      refine qat_value ?_
      go_simp
      rfl
     simp only [fr1, fr2, fr3, fr4]
     refine wpN_take 26 149 (v := ?_) rfl rfl (by kernel_rfl) (by kernel_rfl) (by kernel_rfl) (fun _ _ _ h => h) (by first | exact mod_draw _ | assumption) rfl ?_ ?_
     rotate_left
     ·intro w' hw'
      refine qat_value ?_
      go_simp
      rfl
     simp only [fr1, fr2, fr3, fr4]
     refine wpN_take 27 150 (v := ?_) rfl rfl (by kernel_rfl) (by kernel_rfl) (by kernel_rfl) (fun _ _ _ h => h) (by first | exact mod_draw _ | assumption) rfl ?_ ?_
     rotate_left
     ·intro w' hw'
      obtain ⟨r0, r1, r2, r3⟩ := HS.out w' hw'
      refine qat_value ?_
      go_simp
      rfl
     simp only [fr1, fr2, fr3, fr4]
     refine wpN_take 28 151 (v := ?_) rfl rfl (by kernel_rfl) (by kernel_rfl) (by kernel_rfl) (fun _ _ _ h => h) (by first | exact mod_draw _ | assumption) rfl ?_ ?_
     rotate_left
     ·intro w' hw'
      refine qat_value ?_
      go_simp
      rfl
     simp only [fr1, fr2, fr3, fr4]
     refine wpN_take 29 152 (v := ?_) rfl rfl (by kernel_rfl) (by kernel_rfl) (by kernel_rfl) (fun _ _ _ h => h) (by first | exact mod_draw _ | assumption) rfl ?_ ?_
     rotate_left
     ·intro w' hw'
      refine qat_value ?_
      go_simp
      rfl
     simp only [fr1, fr2, fr3, fr4]
     refine wpN_take 30 153 (v := ?_) rfl rfl (by kernel_rfl) (by kernel_rfl) (by kernel_rfl) (fun _ _ _ h => h) (by first | exact mod_draw _ | assumption) rfl ?_ ?_
     rotate_left
     ·intro w' hw'
      refine qat_value ?_
      go_simp
      rfl
     simp only [fr1, fr2, fr3, fr4]
     refine wpN_take 31 154 (v := ?_) rfl rfl (by kernel_rfl) (by kernel_rfl) (by kernel_rfl) (fun _ _ _ h => h) (by first | exact mod_draw _ | assumption) rfl ?_ ?_
     rotate_left
     ·intro w' hw'
      refine qat_value ?_
      go_simp
      rfl
     simp only [fr1, fr2, fr3, fr4]
     refine wpN_take 32 155 (v := ?_) rfl rfl (by kernel_rfl) (by kernel_rfl) (by kernel_rfl) (fun _ _ _ h => h) (by first | exact mod_draw _ | assumption) rfl ?_ ?_
     rotate_left
     ·intro w' hw'
      obtain ⟨r0, r1, r2, r3⟩ := HS.out w' hw'
      refine qat_value ?_
      go_simp
      rfl
     simp only [fr1, fr2, fr3, fr4]
     refine wpN_call 21 144 (f := 31) (args := #[.pointer (some ⟨A.sb, 0, none⟩), .int .i64 xa, .bool xp]) rfl rfl (by kernel_rfl) rfl (fun w' => by first | (go_simp; done) | (go_simp; exact ⟨rfl, rfl⟩)) fun wd hwd => ?_
     have HTd := Lib.hid (HT3.out.on hwd)
     have HGA := HTd.out.a.go_any (by omega) xa xp
     rw [Ha2.out] at HGA
     refine HGA.mono ?_
     rintro e we ⟨A3, rfl, hd7, hA7, e1, e4⟩
     have hme : Mod (fun j => v0.heap.size ≤ j) w6 we := (hmc.then hwd).trans (hd7.mod.mono (fun j _ e => HTd.out.a.own j e)) (fun _ _ e => e)
     refine ⟨_, rfl, hme, ?_⟩
     simp only [fr1, fr2, fr3, fr4]
     refine wpN_call 33 156 (f := 31) (args := #[.pointer (some ⟨B.sb, 0, none⟩), .int .i64 xa, .bool xp]) rfl rfl (by kernel_rfl) rfl (fun w' => by first | (go_simp; done) | (go_simp; exact ⟨rfl, rfl⟩)) fun wf hwf => ?_
     have hBf := (HTd.out.a.other HTd.out.b HTd.out.sep hd7).1.on hwf
     have HGB := hBf.go_any (by omega) xa xp
     rw [HTd.out.s, HTd.out.q, Hb2.out] at HGB
     refine HGB.mono ?_
     rintro e wg ⟨B3, rfl, hd8, hB8, f1, f4⟩
     have HT4 := Lib.hid (HTd.out.both hd7 hA7 hwf hd8 hB8 (by rw [f1, e1]) (by rw [f4, e4]))
     have hmg : Mod (fun j => v0.heap.size ≤ j) w6 wg := (hme.then hwf).trans (hd8.mod.mono (fun j _ e => HTd.out.b.own j e)) (fun _ _ e => e)
     have Ha3 := Lib.hid (hd7.sb.trans Ha2.out)
     have Hb3 := Lib.hid (hd8.sb.trans Hb2.out)
     have Hs3 := Lib.hid (show A3.s.size ≤ 80 + 300 * (k + 1) by rw [e1]; exact Hsz2.out)
     generalize goE A2.s.size xa A2.q = GE at *
     have hge : (GE != GE) = false := by simp
     refine ⟨_, rfl, hmg, ?_⟩
     simp only [fr1, fr2, fr3, fr4]
     clear hBf hd7 hA7 e1 e4 hd8 hB8 f1 f4 hwf hwd HTd HT3 hmc hme HGA HGB
     refine wpN_take 34 157 (v := ?_) rfl rfl (by kernel_rfl) (by kernel_rfl) (by kernel_rfl) (fun _ _ _ h => h) (by first | exact mod_draw _ | assumption) rfl ?_ ?_
     rotate_left
     ·intro w' hw'
      refine qat_value ?_
      go_simp
      rfl
     simp only [fr1, fr2, fr3, fr4]
     refine wpN_take 35 158 (v := ?_) rfl rfl (by kernel_rfl) (by kernel_rfl) (by kernel_rfl) (fun _ _ _ h => h) (by first | exact mod_draw _ | assumption) rfl ?_ ?_
     rotate_left
     ·intro w' hw'
      refine qat_value ?_
      go_simp
      rfl
     simp only [fr1, fr2, fr3, fr4]
     refine wpN_take 36 159 (v := ?_) rfl rfl (by kernel_rfl) (by kernel_rfl) (by kernel_rfl) (fun _ _ _ h => h) (by first | exact mod_draw _ | assumption) rfl ?_ ?_
     rotate_left
     ·intro w' hw'
      refine qat_value ?_
      go_simp
      rfl
     simp only [fr1, fr2, fr3, fr4]
     refine wpN_take 37 160 (v := ?_) rfl rfl (by kernel_rfl) (by kernel_rfl) (by kernel_rfl) (fun _ _ _ h => h) (by first | exact mod_draw _ | assumption) rfl ?_ ?_
     rotate_left
     ·intro w' hw'
      refine qat_value ?_
      go_simp
      rfl
     simp only [fr1, fr2, fr3, fr4]
     refine wpN_take 38 161 (v := ?_) rfl rfl (by kernel_rfl) (by kernel_rfl) (by kernel_rfl) (fun _ _ _ h => h) (by first | exact mod_draw _ | assumption) rfl ?_ ?_
     rotate_left
     ·intro w' hw'
      refine qat_value ?_
      go_simp
      rfl
     simp only [fr1, fr2, fr3, fr4]
     refine wpN_take 39 162 (v := ?_) rfl rfl (by kernel_rfl) (by kernel_rfl) (by kernel_rfl) (fun _ _ _ h => h) (by first | exact mod_draw _ | assumption) rfl ?_ ?_
     rotate_left
     ·intro w' hw'
      refine qat_value ?_
      go_simp
      rfl
     simp only [fr1, fr2, fr3, fr4]
     refine wpN_take 40 163 (v := ?_) rfl rfl (by kernel_rfl) (by kernel_rfl) (by kernel_rfl) (fun _ _ _ h => h) (by first | exact mod_draw _ | assumption) rfl ?_ ?_
     rotate_left
     ·intro w' hw'
      refine qat_value ?_
      go_simp
      rfl
     simp only [fr1, fr2, fr3, fr4]
     refine wpN_take 41 164 (v := ?_) rfl rfl (by kernel_rfl) (by kernel_rfl) (by kernel_rfl) (fun _ _ _ h => h) (by first | exact mod_draw _ | assumption) rfl ?_ ?_
     rotate_left
     ·intro w' hw'
      refine qat_value ?_
      go_simp
      rfl
     simp only [fr1, fr2, fr3, fr4]
     refine wpN_take 42 165 (v := ?_) rfl rfl (by kernel_rfl) (by kernel_rfl) (by kernel_rfl) (fun _ _ _ h => h) (by first | exact mod_draw _ | assumption) rfl ?_ ?_
     rotate_left
     ·intro w' hw'
      obtain ⟨r0, r1, r2, r3⟩ := HS.out w' hw'
      refine qat_value ?_
      go_simp
      rfl
     simp only [fr1, fr2, fr3, fr4]
     refine wpN_take 45 168 (v := ?_) rfl rfl (by kernel_rfl) (by kernel_rfl) (by kernel_rfl) (fun _ _ _ h => h) (by first | exact mod_draw _ | assumption) rfl ?_ ?_
     rotate_left
     ·intro w' hw'
      refine qat_value ?_
      go_simp
      rfl
     simp only [fr1, fr2, fr3, fr4]
     refine wpN_take 46 169 (v := ?_) rfl rfl (by kernel_rfl) (by kernel_rfl) (by kernel_rfl) (fun _ _ _ h => h) (by first | exact mod_draw _ | assumption) rfl ?_ ?_
     rotate_left
     ·intro w' hw'
      refine qat_value ?_
      go_simp
      rfl
     simp only [fr1, fr2, fr3, fr4]
     refine wpN_take 47 170 (v := ?_) rfl rfl (by kernel_rfl) (by kernel_rfl) (by kernel_rfl) (fun _ _ _ h => h) (by first | exact mod_draw _ | assumption) rfl ?_ ?_
     rotate_left
     ·intro w' hw'
      refine qat_value ?_
      go_simp
      rfl
     simp only [fr1, fr2, fr3, fr4]
     refine wpN_take 48 171 (v := ?_) rfl rfl (by kernel_rfl) (by kernel_rfl) (by kernel_rfl) (fun _ _ _ h => h) (by first | exact mod_draw _ | assumption) rfl ?_ ?_
     rotate_left
     ·intro w' hw'
      refine qat_value ?_
      go_simp
      rfl
     simp only [fr1, fr2, fr3, fr4]
     refine wpN_take 49 172 (v := ?_) rfl rfl (by kernel_rfl) (by kernel_rfl) (by kernel_rfl) (fun _ _ _ h => h) (by first | exact mod_draw _ | assumption) rfl ?_ ?_
     rotate_left
     ·intro w' hw'
      refine qat_value ?_
      go_simp
      rfl
     simp only [fr1, fr2, fr3, fr4]
     refine wpN_take 50 173 (v := ?_) rfl rfl (by kernel_rfl) (by kernel_rfl) (by kernel_rfl) (fun _ _ _ h => h) (by first | exact mod_draw _ | assumption) rfl ?_ ?_
     rotate_left
     ·intro w' hw'
      obtain ⟨r0, r1, r2, r3⟩ := HS.out w' hw'
      refine qat_value ?_
      go_simp
      rfl
     simp only [fr1, fr2, fr3, fr4]
     refine wpN_call 43 166 (f := 15) (args := #[.int .i64 90, .slice xso XL xsc]) rfl rfl (by kernel_rfl) rfl (fun w' => by first | (go_simp; done) | (go_simp; exact ⟨rfl, rfl⟩)) fun wb hwb => ?_
     refine (HPk.out wb (HM6.out.trans (hmg.then hwb) (fun _ _ e => e))).mono ?_
     rintro e wc ⟨v, rfl, hoP, hxP⟩
     rw [← Hsel.out] at hoP
     obtain ⟨a9, c9, rfl, hr9⟩ := owns_reads hoP
     have HT5 := Lib.hid ((HT4.out.on hwb).on hxP)
     have hm5 : Mod (fun j => v0.heap.size ≤ j) w6 wc := (hmg.then hwb).then hxP
     refine ⟨_, rfl, hm5, ?_⟩
     simp only [fr1, fr2, fr3, fr4]
     refine wpN_call 44 167 (f := 14) (args := #[.pointer (some ⟨A.sb, 0, none⟩), .slice a9 PL.length c9]) rfl rfl (by kernel_rfl) rfl (fun w' => by first | (go_simp; done) | (go_simp; exact ⟨rfl, rfl⟩)) fun wd hwd => ?_
     have HTd := Lib.hid (HT5.out.on hwd)
     have HGA := HTd.out.a.select_any (by omega) a9 c9 PL (hr9.mod hwd (fun _ _ f => f)) (by rw [Hsel.out]; exact Hs6.out)
     rw [Ha3.out] at HGA
     refine HGA.mono ?_
     rintro e we ⟨A4, rfl, hd7, hA7, e1, e4⟩
     have hme : Mod (fun j => v0.heap.size ≤ j) w6 we := (hm5.then hwd).trans (hd7.mod.mono (fun j _ e => HTd.out.a.own j e)) (fun _ _ e => e)
     obtain ⟨hBe, hse⟩ := HTd.out.a.other HTd.out.b HTd.out.sep hd7
     refine ⟨_, rfl, hme, ?_⟩
     simp only [fr1, fr2, fr3, fr4]
     clear hr9 hoP HGA
     refine wpN_call 51 174 (f := 15) (args := #[.int .i64 90, .slice xso XL xsc]) rfl rfl (by kernel_rfl) rfl (fun w' => by first | (go_simp; done) | (go_simp; exact ⟨rfl, rfl⟩)) fun wf hwf => ?_
     refine (HPk.out wf (HM6.out.trans (hme.then hwf) (fun _ _ e => e))).mono ?_
     rintro e wg ⟨v, rfl, hoP, hxQ⟩
     rw [← Hsel.out] at hoP
     obtain ⟨ab, cb, rfl, hrb⟩ := owns_reads hoP
     have hm6 : Mod (fun j => v0.heap.size ≤ j) w6 wg := (hme.then hwf).then hxQ
     refine ⟨_, rfl, hm6, ?_⟩
     simp only [fr1, fr2, fr3, fr4]
     refine wpN_call 52 175 (f := 14) (args := #[.pointer (some ⟨B.sb, 0, none⟩), .slice ab PL.length cb]) rfl rfl (by kernel_rfl) rfl (fun w' => by first | (go_simp; done) | (go_simp; exact ⟨rfl, rfl⟩)) fun wh hwh => ?_
     have hBh := hBe.on ((hwf.ext_trans hxQ).ext_trans hwh)
     have HGB := hBh.select_any (by omega) ab cb PL (hrb.mod hwh (fun _ _ f => f)) (by rw [Hsel.out]; exact Hs6.out)
     rw [HTd.out.s, HTd.out.q, Hb3.out] at HGB
     refine HGB.mono ?_
     rintro e wi ⟨B4, rfl, hd8, hB8, f1, f4⟩
     have HT6 := Lib.hid (HTd.out.both hd7 hA7 ((hwf.ext_trans hxQ).ext_trans hwh) hd8 hB8 (by rw [f1, e1]) (by rw [f4, e4]))
     have hmi : Mod (fun j => v0.heap.size ≤ j) w6 wi := (hm6.then hwh).trans (hd8.mod.mono (fun j _ e => HTd.out.b.own j e)) (fun _ _ e => e)
     have Ha4 := Lib.hid (hd7.sb.trans Ha3.out)
     have Hb4 := Lib.hid (hd8.sb.trans Hb3.out)
     have Hs4 := Lib.hid (show A4.s.size ≤ 80 + 300 * (k + 1) by rw [e1]; exact Hs3.out)
     generalize normE A3.s.size PL = GN at *
     have hgn : (GN != GN) = false := by simp
     refine ⟨_, rfl, hmi, ?_⟩
     simp only [fr1, fr2, fr3, fr4]
     clear hBh hBe hse hd7 hA7 e1 e4 hd8 hB8 f1 f4 hwf hwd hwh hwb hxP hxQ HTd HT4 HT5 hm5 hm6 hme hmg HGB hrb hoP
     refine wpN_take 53 176 (v := ?_) rfl rfl (by kernel_rfl) (by kernel_rfl) (by kernel_rfl) (fun _ _ _ h => h) (by first | exact mod_draw _ | assumption) rfl ?_ ?_
     rotate_left
     ·intro w' hw'
      refine qat_value ?_
      go_simp
      rfl
     simp only [fr1, fr2, fr3, fr4]
     refine wpN_take 54 177 (v := ?_) rfl rfl (by kernel_rfl) (by kernel_rfl) (by kernel_rfl) (fun _ _ _ h => h) (by first | exact mod_draw _ | assumption) rfl ?_ ?_
     rotate_left
     ·intro w' hw'
      refine qat_value ?_
      go_simp
      rfl
     simp only [fr1, fr2, fr3, fr4]
     refine wpN_done (by kernel_rfl) (fun wj hwj => ?_) _
     have HTj := Lib.hid (HT6.out.on hwj)
     clear HS HPk HM6 hwj HT6 hmi Hcw Hdo Hft hgg hge hgn
     have HTx := Lib.hid (fun w' (h' : Ext wj w') => text_rope A4.R w' (HTj.out.a.sh.rope.ext h'))
     rw [bs_eq HTj.out.a.sh.text] at HTx
     have HTy := Lib.hid (fun w' (h' : Ext wj w') => text_rope B4.R w' (HTj.out.b.sh.rope.ext h'))
     rw [bs_eq HTj.out.b.sh.text, HTj.out.s] at HTy
     have HSa := Lib.hid (fun w' (h' : Ext wj w') => ssels_any A4 w' (HTj.out.a.sh.ext h') HTj.out.a.q0 (by have := HTj.out.a.q1; omega))
     have HSb := Lib.hid (fun w' (h' : Ext wj w') => ssels_any B4 w' (HTj.out.b.sh.ext h') HTj.out.b.q0 (by have := HTj.out.b.q1; omega))
     unfold NewRow at HSa HSb
     rw [Ha4.out] at HSa
     rw [HTj.out.q, Hb4.out] at HSb
     have hss : (A4.s.toList != A4.s.toList) = false := bne_self_eq_false _
     have Hq6 := Lib.hid HTj.out.a.q1
     have HS := Lib.hid (fun w' (h' : Ext wj w') => (⟨by have h := SheetAt.cell0 (HTj.out.a.sh.ext h'); rw [Ha4.out] at h; exact h, by have h := SheetAt.cell0 (HTj.out.b.sh.ext h'); rw [Hb4.out] at h; exact h, trivial, trivial⟩ : w'.cell? ⟨A.sb, 0, none⟩ = some (.pointer (some ⟨A4.R.rb, 0, none⟩)) ∧ w'.cell? ⟨B.sb, 0, none⟩ = some (.pointer (some ⟨B4.R.rb, 0, none⟩)) ∧ True ∧ True))
     go_upto_region 19 with fail
     refine wp_region_E (by kernel_rfl) ?_
     refine wpE_t 0 178 (v := ?_) (fun w' hw' => qat_value ?_) ?_
     rotate_left
     ·go_simp
      rfl
     simp only [fr1, fr2, fr3, fr4]
     refine wpE_t 1 179 (v := ?_) (fun w' hw' => qat_value ?_) ?_
     rotate_left
     ·go_simp
      rfl
     simp only [fr1, fr2, fr3, fr4]
     refine wpE_t 2 180 (v := ?_) (fun w' hw' => qat_value ?_) ?_
     rotate_left
     ·go_simp
      rfl
     simp only [fr1, fr2, fr3, fr4]
     refine wpE_t 3 181 (v := ?_) (fun w' hw' => qat_value ?_) ?_
     rotate_left
     ·go_simp
      rfl
     simp only [fr1, fr2, fr3, fr4]
     refine wpE_t 4 182 (v := ?_) (fun w' hw' => ?_) ?_
     rotate_left
     ·obtain ⟨r0, r1, r2, r3⟩ := HS.out w' hw'
      refine qat_value ?_
      go_simp
      rfl
     simp only [fr1, fr2, fr3, fr4]
     refine wpE_t 6 184 (v := ?_) (fun w' hw' => qat_value ?_) ?_
     rotate_left
     ·go_simp
      rfl
     simp only [fr1, fr2, fr3, fr4]
     refine wpE_t 7 185 (v := ?_) (fun w' hw' => qat_value ?_) ?_
     rotate_left
     ·go_simp
      rfl
     simp only [fr1, fr2, fr3, fr4]
     refine wpE_t 8 186 (v := ?_) (fun w' hw' => qat_value ?_) ?_
     rotate_left
     ·go_simp
      rfl
     simp only [fr1, fr2, fr3, fr4]
     refine wpE_t 9 187 (v := ?_) (fun w' hw' => qat_value ?_) ?_
     rotate_left
     ·go_simp
      rfl
     simp only [fr1, fr2, fr3, fr4]
     refine wpE_t 10 188 (v := ?_) (fun w' hw' => ?_) ?_
     rotate_left
     ·obtain ⟨r0, r1, r2, r3⟩ := HS.out w' hw'
      refine qat_value ?_
      go_simp
      rfl
     simp only [fr1, fr2, fr3, fr4]
     refine wpE_t 5 183 (v := ?_) (fun w' hw' => ?_) ?_
     rotate_left
     ·refine qat_enter (by go_simp; exact ⟨rfl, rfl⟩) ?_
      exact HTx.out _ hw'
     simp only [fr1, fr2, fr3, fr4]
     refine wpE_t 11 189 (v := ?_) (fun w' hw' => ?_) ?_
     rotate_left
     ·refine qat_enter (by go_simp; exact ⟨rfl, rfl⟩) ?_
      exact HTy.out _ hw'
     simp only [fr1, fr2, fr3, fr4]
     refine wpE_t 12 190 (v := ?_) (fun w' hw' => qat_value ?_) ?_
     rotate_left
     ·go_simp
      rfl
     simp only [fr1, fr2, fr3, fr4]
     refine wpE_t 13 191 (v := ?_) (fun w' hw' => qat_value ?_) ?_
     rotate_left
     ·go_simp
      rfl
     simp only [fr1, fr2, fr3, fr4]
     refine wpE_t 14 192 (v := ?_) (fun w' hw' => qat_value ?_) ?_
     rotate_left
     ·go_simp
      rfl
     simp only [fr1, fr2, fr3, fr4]
     refine wpE_t 16 194 (v := ?_) (fun w' hw' => qat_value ?_) ?_
     rotate_left
     ·go_simp
      rfl
     simp only [fr1, fr2, fr3, fr4]
     refine wpE_callw 15 193 (f := 16) (args := #[.pointer (some ⟨A.sb, 0, none⟩)]) rfl rfl (by kernel_rfl) rfl (fun w' => by first | (go_simp; done) | (go_simp; exact ⟨rfl, rfl⟩)) fun wb hwb => ?_
     have hyb : Ext wj wb := (ext_draw wj).ext_trans hwb
     refine (HSa.out wb hyb).mono ?_
     rintro e wc ⟨gs, cs, rfl, hos, hx1⟩
     have hyc := hyb.ext_trans hx1
     refine ⟨_, rfl, hyc, ?_⟩
     simp only [fr1, fr2, fr3, fr4]
     refine wpE_callw 17 195 (f := 16) (args := #[.pointer (some ⟨B.sb, 0, none⟩)]) rfl rfl (by kernel_rfl) rfl (fun w' => by first | (go_simp; done) | (go_simp; exact ⟨rfl, rfl⟩)) fun wd hwd => ?_
     have hyd := hyc.ext_trans hwd
     refine (HSb.out wd hyd).mono ?_
     rintro e we ⟨gt, ct, rfl, hot, hx2⟩
     have hye := hyd.ext_trans hx2
     refine ⟨_, rfl, hye, ?_⟩
     simp only [fr1, fr2, fr3, fr4]
     refine wpE_callw 18 196 (f := 24) (args := #[.slice (some ⟨gs, 0, none⟩) A4.q.length cs, .slice (some ⟨gt, 0, none⟩) A4.q.length ct]) rfl rfl (by kernel_rfl) rfl (fun w' => by first | (go_simp; done) | (go_simp; exact ⟨rfl, rfl⟩)) fun wf hwf => ?_
     have hyf := hye.ext_trans hwf
     refine (selsSame (some ⟨gs, 0, none⟩) (some ⟨gt, 0, none⟩) cs ct A4.q wf ((Reads.own hos).mod (hwd.ext_trans (hx2.ext_trans hwf)) (fun _ _ f => f)) ((Reads.own hot).mod hwf (fun _ _ f => f)) (by have := Hq6.out; omega)).mono ?_
     rintro e wg ⟨rfl, hx3⟩
     have hyg := hyf.ext_trans hx3
     refine ⟨_, rfl, hyg, ?_⟩
     simp only [fr1, fr2, fr3, fr4]
     refine wpE_t 19 197 (v := ?_) (fun w' hw' => qat_value ?_) ?_
     rotate_left
     ·go_simp
      rfl
     simp only [fr1, fr2, fr3, fr4]
     refine wpE_t 20 198 (v := ?_) (fun w' hw' => qat_value ?_) ?_
     rotate_left
     ·go_simp
      rfl
     simp only [fr1, fr2, fr3, fr4]
     refine wpE_done (by kernel_rfl) (fun wz hwz => ?_) _
     have HTz := Lib.hid (HTj.out.on (hyg.ext_trans hwz))
     clear hyg hwz hyf hye hyd hyc hyb hx1 hx2 hx3 hwf hwd hwb hos hot HS HTx HTy HSa HSb HTj
     go_wp2_with fail
     go_roundw
     case rel => exact ⟨k + 1, A4, B4, HL.out, by go_num, Ha4.out, Hb4.out, Hs4.out, Lib.hid (HTz.out.more (by omega))⟩
     case measure => have := HL.out; simp [intOf]; omega
  ·have hlt' : ¬ (k : Int) < (N : Int) := by omega
   have HX := Lib.hid HT.out.a.ext
   go_wp2_with fail
   refine (awakeS_any _).mono ?_
   rintro e w9 ⟨rfl, hx9⟩
   go_wp2_with fail
   go_ret
   exact ⟨rfl, HX.out.ext_trans hx9⟩
theorem sheetDice_calls (w : World) (na : Option Addr) (nc : Nat) (ns : List Int) (m0 : Reads w 1 na ns.length (ns.map (Value.int .u32))) (_ : ns.length ≤ maxLen) (f0 : ∀ n ∈ ns, (Lit.int .u32 n).wf = true) (ma : Option Addr) (mc : Nat) (ms : List Int) (m1 : Reads w 1 ma ms.length (ms.map (Value.int .u32))) (_ : ms.length ≤ maxLen) (f1 : ∀ n ∈ ms, (Lit.int .u32 n).wf = true)
  (s : ByteArray) (_ : s.size ≤ 9223372036854775807) (ao : Option Addr) (cap : Nat) (L : List Ds) (hr : Reads w 7 ao L.length (dsE.cells L)) (hm : L.length ≤ maxLen) (hok : ∀ x ∈ L, DsOk w x) :
  Calls Tryz.prog 7 #[.slice na ns.length nc, .slice ma ms.length mc, .string s, .slice ao L.length cap] w fun e w' => e = .returned (.bool true) ∧ Ext w w' := by
 by_cases h1 : ns.length ≤ 30
 ·have i1 : ¬ (30 : Int) < (ns.length : Int) := by omega
  have i2 : decide ((30 : Int) < (ns.length : Int)) = false := decide_eq_false i1
  by_cases h2 : ms.length ≤ 30
  ·have i3 : ¬ (30 : Int) < (ms.length : Int) := by omega
   have i4 : decide ((30 : Int) < (ms.length : Int)) = false := decide_eq_false i3
   by_cases h3 : s.size ≤ 80
   ·have i5 : ¬ (80 : Int) < (s.size : Int) := by omega
    have i6 : decide ((80 : Int) < (s.size : Int)) = false := decide_eq_false i5
    have HM := muchS_any 12 ao cap L w hr hok hm (by omega)
    by_cases h4 : L.length ≤ 12
    ·rw [if_neg (by omega)] at HM
     cases hmu : muchS L with
     | false => exact sheetDice_any w na nc ns ma mc ms s ao cap L (fun n hn => u32_top (f0 n hn)) m0 (fun n hn => u32_top (f1 n hn)) m1 h1 h2 h3 hr hok h4 hmu
     | true =>
      rw [hmu] at HM
      have HM' := Lib.hid HM
      clear HM hr hok m0 m1 f0 f1 hmu
      go_enter Tryz.func7, Tryz.ntmps7
      go_wp2_with fail
      refine HM'.out.mono ?_
      rintro e v0 ⟨rfl, rfl⟩
      go_wp2_with fail
      refine (awakeS_any _).mono ?_
      rintro e w9 ⟨rfl, hx9⟩
      go_wp2_with fail
      go_ret
      exact ⟨rfl, hx9⟩
    ·rw [if_pos (by omega)] at HM
     have HM' := Lib.hid HM
     clear HM hr hok m0 m1 f0 f1
     go_enter Tryz.func7, Tryz.ntmps7
     go_wp2_with fail
     refine HM'.out.mono ?_
     rintro e v0 ⟨rfl, rfl⟩
     go_wp2_with fail
     refine (awakeS_any _).mono ?_
     rintro e w9 ⟨rfl, hx9⟩
     go_wp2_with fail
     go_ret
     exact ⟨rfl, hx9⟩
   ·have i5 : (80 : Int) < (s.size : Int) := by omega
    have i6 : decide ((80 : Int) < (s.size : Int)) = true := decide_eq_true i5
    clear hr hok m0 m1 f0 f1
    go_enter Tryz.func7, Tryz.ntmps7
    go_wp2_with fail
    refine (awakeS_any _).mono ?_
    rintro e w1 ⟨rfl, hx⟩
    go_wp2_with fail
    go_ret
    exact ⟨rfl, hx⟩
  ·have i3 : (30 : Int) < (ms.length : Int) := by omega
   have i4 : decide ((30 : Int) < (ms.length : Int)) = true := decide_eq_true i3
   clear hr hok m0 m1 f0 f1
   go_enter Tryz.func7, Tryz.ntmps7
   go_wp2_with fail
   refine (awakeS_any _).mono ?_
   rintro e w1 ⟨rfl, hx⟩
   go_wp2_with fail
   go_ret
   exact ⟨rfl, hx⟩
 ·have i1 : (30 : Int) < (ns.length : Int) := by omega
  have i2 : decide ((30 : Int) < (ns.length : Int)) = true := decide_eq_true i1
  clear hr hok m0 m1 f0 f1
  go_enter Tryz.func7, Tryz.ntmps7
  go_wp2_with fail
  refine (awakeS_any _).mono ?_
  rintro e w1 ⟨rfl, hx⟩
  go_wp2_with fail
  go_ret
  exact ⟨rfl, hx⟩
end Go.Proofs.YthlmgoagnfkhdaaGreat

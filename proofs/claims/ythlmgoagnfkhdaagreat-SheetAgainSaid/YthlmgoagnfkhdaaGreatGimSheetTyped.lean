/- What is typed stands ahead of each caret, in place of what was selected; all the rest stays: the walk. Conditions: none. -/
import Derived.Test.YthlmgoagnfkhdaaGreatGimF45
set_option maxHeartbeats 6400000
set_option maxRecDepth 1000000
set_option linter.unusedVariables false
set_option linter.unusedSimpArgs false
namespace Go.Gim
theorem eq_toList {a b : ByteArray} (h : a.data.toList = b.data.toList) : (a.toList == b.toList) = true := by
 rw [ByteArray.toList_eq, ByteArray.toList_eq, h]
 exact beq_self_eq_true _
theorem ex_data (s : ByteArray) (a b : Nat) : (s.extract a b).data.toList = (s.data.toList.take b).drop a := by
 simp only [ByteArray.data_extract, Array.toList_extract, List.extract_eq_take_drop]
 rw [List.take_drop]
 by_cases h : a ≤ b
 ·rw [Nat.add_sub_cancel' h]
 ·rw [Nat.sub_eq_zero_of_le (by omega), Nat.add_zero, List.drop_of_length_le (by rw [List.length_take]; omega), List.drop_of_length_le (by rw [List.length_take]; omega)]
end Go.Gim
namespace Go.Proofs.YthlmgoagnfkhdaaGreat
open Go.RowKit Go.Gim
theorem norm_picks {n : Nat} {L : List (Int × Int)} (h0 : 0 < L.length) (h1 : L.length ≤ 64) : normE n (picksN n L) = 0 := by
 unfold normE
 rw [picksN_len, if_neg (by omega), if_neg (by omega), if_pos]
 rw [List.all_eq_true]
 intro x hx
 have := picksN_in n L x hx
 rw [mayB_span]
 omega
theorem sheetTyped_any (w : World) (s : ByteArray) (ao : Option Addr) (cap : Nat) (L : List (Int × Int)) (c : ByteArray) (hs : s.size ≤ 80) (hr : Reads w 2 ao L.length (prCells L)) (hn0 : 0 < L.length) (hn : L.length ≤ 8) (hc : c.size ≤ 20) :
  Calls Tryz.prog 3 #[.string s, .slice ao L.length cap, .string c] w fun e w' => e = .returned (.bool true) ∧ Ext w w' := by
 have HP := Lib.hid (fun w' (h' : Ext w w') => picksN_any s.size ao cap L w' (hr.mod h' (fun _ _ f => f)) (by omega) (by omega))
 have Hz := Lib.hid (norm_picks (n := s.size) hn0 (show L.length ≤ 64 by omega))
 have Hl := Lib.hid (picksN_len s.size L)
 generalize hl : picksN s.size L = l at *
 obtain ⟨M, hM⟩ : ∃ M, M = L.length := ⟨_, rfl⟩
 rw [← hM] at HP Hl hn0 hn ⊢
 have i1 : ¬ (80 : Int) < (s.size : Int) := by omega
 have i2 : decide ((80 : Int) < (s.size : Int)) = false := decide_eq_false i1
 have i3 : ¬ (M : Int) = 0 := by omega
 have i4 : decide ((M : Int) = 0) = false := decide_eq_false i3
 have i5 : ¬ (8 : Int) < (M : Int) := by omega
 have i6 : decide ((8 : Int) < (M : Int)) = false := decide_eq_false i5
 have i7 : ¬ (20 : Int) < (c.size : Int) := by omega
 have i8 : decide ((20 : Int) < (c.size : Int)) = false := decide_eq_false i7
 clear hr hl hM
 go_enter Tryz.func3, Tryz.ntmps3
 go_wp2_with fail
 refine (dice_lit _ [5] #[.int .u32 5] rfl (by simp) (by simp)).mono ?_
 rintro e u1 ⟨D, rfl, hD⟩
 go_wp2_with fail
 refine (snew_any D s u1 hD.dice (by omega)).mono ?_
 rintro e u2 ⟨S, rfl, h1, h2, h3, h4, h5, -, h6, h7⟩
 have HA := Lib.hid (Alone.start (m := 8) hD.ext hD.d h1 h3 h4 h5 h6 h7 (by omega))
 have H2 := Lib.hid h2
 have HP2 := Lib.hid (HP.out u2 HA.out.ext)
 clear hD h1 h2 h3 h4 h5 h6 h7 HP i1 i2 i3 i4 i5 i6 i7 i8
 go_wp2_with fail
 refine HP2.out.mono ?_
 rintro e w3 ⟨v, rfl, ho3, hx3⟩
 rw [← Hl.out] at ho3
 obtain ⟨a3, c3, rfl, hr3⟩ := owns_reads ho3
 have HA3 := Lib.hid (HA.out.on hx3)
 have HS := Lib.hid (sselect_any S a3 c3 l w3 HA3.out.sh hr3 (by rw [Hl.out]; omega))
 rw [H2.out, Hz.out, if_pos rfl] at HS
 have Hin := Lib.hid (orderN_inT Hz.out)
 have Hap := Lib.hid (orderN_rS l)
 have Hp0 := Lib.hid (orderN_pos (normE_ok Hz.out).1)
 have Hp1 := Lib.hid (show (orderN l).length ≤ 8 by have := orderN_len l; have := Hl.out; omega)
 clear HP2 ho3 hr3 hx3 HA
 rw [← Hl.out]
 go_wp2_with fail
 refine HS.out.mono ?_
 rintro e w4 ⟨S1, rfl, hd, e1, e2, e3, e4⟩
 generalize orderN l = Q at *
 have HA4 := Lib.hid (HA3.out.pick hd (by rw [e1, H2.out]) e2 e3 (by rw [e4]; exact Hp0.out) (by rw [e4]; exact Hp1.out) (by rw [e4, H2.out]; exact Hin.out))
 have E1 := Lib.hid e1
 have E4 := Lib.hid e4
 have hsb := hd.sb
 have HSe := Lib.hid (ssels_any S1 w4 HA4.out.sh HA4.out.q0 (by have := HA4.out.q1; omega))
 unfold NewRow at HSe
 rw [e4, hsb] at HSe
 have Hsb := Lib.hid hsb
 clear HS hd e1 e2 e3 e4 HA3 H2
 go_wp2_with fail
 refine HSe.out.mono ?_
 rintro e w5 ⟨g5, c5, rfl, ho5, hx5⟩
 have HA5 := Lib.hid (HA4.out.on hx5)
 have Hwas := Lib.hid (Reads.own ho5)
 have Hfw := Lib.hid (HA4.out.free ho5 (Nat.le_refl _))
 have HTy := Lib.hid (styped_any S1 c w5 HA5.out.sh HA5.out.q0 (by have := HA5.out.q1; omega))
 unfold Enc.Out at HTy
 rw [E4.out, hsb] at HTy
 have Hmay := Lib.hid (typed_may (n := s.size) (t := c) Hin.out Hap.out (by have : Q.length * c.size ≤ 8 * 20 := Nat.mul_le_mul Hp1.out hc; omega))
 have Hasc := Lib.hid (typed_asc (t := c) Hap.out)
 have Hein := Lib.hid (typed_in (n := s.size) (t := c) Hin.out)
 have Hsel := Lib.hid (typed_sels (t := c) Hap.out)
 have Hel := Lib.hid (typedL_len c Q)
 have Het := Lib.hid (typed_t (t := c) (q := Q))
 have HE := Lib.hid (fun (i : Nat) (x : Int × Int) (hx : Q[i]? = some x) => show (typedL c Q)[i]? = some ⟨(spanI x).1, (spanI x).2, c⟩ by unfold typedL; rw [List.getElem?_map, hx]; rfl)
 clear HSe ho5 hx5 hsb HA4
 generalize typedL c Q = ES at *
 go_wp2_with fail
 refine HTy.out.mono ?_
 rintro e w6 ⟨v, rfl, ho, hx6⟩
 have Ho := Lib.hid ho
 obtain ⟨az, cz, rfl, hrz⟩ := Enc.owns_reads (E := edE) ho
 have HA6 := Lib.hid (HA5.out.on hx6)
 have Hwas6 := Lib.hid (Hwas.out.mod hx6 (fun _ _ f => f))
 have HDo := Lib.hid (HA6.out.do (by omega) (by omega) (by rw [E1.out]; omega) az cz ES hrz (by have := Hel.out; have := Hp1.out; omega) (fun e he => by rw [Het.out e he]; omega) (fun _ => HA5.out.free Ho.out (Nat.le_refl _)))
 rw [E1.out, Hmay.out, Hsb.out] at HDo
 clear HTy ho hrz hx6 Hwas HA5
 go_wp2_with fail
 refine HDo.out.mono ?_
 rintro e w7 ⟨S2, a7, c7, rfl, -, -, hd2, e1, -, -, e4, hA7⟩
 have HA7 := Lib.hid hA7
 have Hq0 := Lib.hid Hp0.out
 have hwas7 := Hwas6.out.mod hd2.mod (fun a ha e => Hfw.out a ha e)
 have hsb := hd2.sb.trans Hsb.out
 unfold textC at e1
 unfold selC at e4
 rw [if_pos Hmay.out] at e1 e4
 rw [E4.out, Hsel.out] at e4
 have E1' := Lib.hid (show S2.s.data.toList = applyL s.data.toList ES by rw [e1]; rfl)
 have Hty := Lib.hid (TyAt.start (s := s.data.toList) Hasc.out (fun e he => by have h := Hein.out e he; have h2 : s.data.toList.length = s.size := rfl; omega))
 rw [← E1'.out] at Hty
 obtain ⟨N, hN⟩ : ∃ N, N = Q.length := ⟨_, rfl⟩
 have HN := Lib.hid hN
 have hlen : ((ks 0 ES).map (fun k => (k, k))).length = N := by rw [List.length_map, ks_len, Hel.out, hN]
 have Hwas7 := Lib.hid (show Reads w7 2 (some ⟨g5, 0, none⟩) N (prCells Q) by rw [hN]; exact hwas7)
 have HSe := Lib.hid (fun w' (h' : Ext w7 w') => ssels_any S2 w' (HA7.out.sh.ext h') HA7.out.q0 (by have := HA7.out.q1; omega))
 unfold NewRow at HSe
 rw [e4, hlen, hsb] at HSe
 have Hk := Lib.hid (fun (i : Nat) (k : Int) (h : (ks 0 ES)[i]? = some k) => show ((ks 0 ES).map (fun k => (k, k)))[i]? = some (k, k) by rw [List.getElem?_map, h]; rfl)
 generalize (ks 0 ES).map (fun k => (k, k)) = NW at *
 have HTx := Lib.hid (fun w' (h' : Ext w7 w') => text_rope S2.R w' (HA7.out.sh.rope.ext h'))
 rw [bs_eq HA7.out.sh.text] at HTx
 have Hsz := Lib.hid (show S2.s.size ≤ 65536 by rw [e1]; have := textC_len Hmay.out; unfold textC at this; rw [if_pos Hmay.out] at this; exact this.2)
 generalize hT : S2.s = T at *
 clear HDo hd2 e1 e4 hA7 hwas7 HA6 Hwas6 Hfw Ho Hmay Hasc Hsel Het Hap Hp0 Hin hT E1'
 have j1 : ¬ (N : Int) = 0 := by rw [hN]; have := Hq0.out; omega
 have j2 : decide ((N : Int) = 0) = false := decide_eq_false j1
 have j3 : ((N : Int) == 0) = false := j2
 rw [← hN]
 have HS := Lib.hid (fun w' (h' : Ext w7 w') => (⟨by have h := SheetAt.cell0 (HA7.out.sh.ext h'); rw [hsb] at h; exact h, trivial, trivial, trivial⟩ : w'.cell? ⟨S.sb, 0, none⟩ = some (.pointer (some ⟨S2.R.rb, 0, none⟩)) ∧ True ∧ True ∧ True))
 have HX7 := Lib.hid HA7.out.ext
 clear hsb hlen hN HA7
 go_upto_region 8 with fail
 refine wp_region_E (by kernel_rfl) ?_
 refine wpE_t 0 69 (v := ?_) (fun w' hw' => qat_value ?_) ?_
 rotate_left
 ·go_simp
  rfl
 simp only [fr1, fr2, fr3, fr4]
 refine wpE_t 2 71 (v := ?_) (fun w' hw' => qat_value ?_) ?_
 rotate_left
 ·go_simp
  rfl
 simp only [fr1, fr2, fr3, fr4]
 refine wpE_t 3 72 (v := ?_) (fun w' hw' => qat_value ?_) ?_
 rotate_left
 ·go_simp
  rfl
 simp only [fr1, fr2, fr3, fr4]
 refine wpE_t 4 73 (v := ?_) (fun w' hw' => qat_value ?_) ?_
 rotate_left
 ·go_simp
  rfl
 simp only [fr1, fr2, fr3, fr4]
 refine wpE_t 5 74 (v := ?_) (fun w' hw' => qat_value ?_) ?_
 rotate_left
 ·go_simp
  rfl
 simp only [fr1, fr2, fr3, fr4]
 refine wpE_t 6 75 (v := ?_) (fun w' hw' => ?_) ?_
 rotate_left
 ·obtain ⟨r0, r1, r2, r3⟩ := HS.out w' hw'
  refine qat_value ?_
  go_simp
  rfl
 simp only [fr1, fr2, fr3, fr4]
 refine wpE_callw 1 70 (f := 16) (args := #[.pointer (some ⟨S.sb, 0, none⟩)]) rfl rfl (by kernel_rfl) rfl (fun w' => by first | (go_simp; done) | (go_simp; exact ⟨rfl, rfl⟩)) fun w8 hw8 => ?_
 have hy8 : Ext w7 w8 := (ext_draw w7).ext_trans hw8
 refine (HSe.out w8 hy8).mono ?_
 rintro e w9 ⟨g9, c9, rfl, ho9, hx9⟩
 have hy9 := hy8.ext_trans hx9
 have Hnow := Lib.hid (Reads.own ho9)
 have Hy9 := Lib.hid hy9
 clear ho9
 refine ⟨_, rfl, hy9, ?_⟩
 simp only [fr1, fr2, fr3, fr4]
 refine wpE_t 7 76 (v := ?_) (fun w' hw' => ?_) ?_
 rotate_left
 ·refine qat_enter (by go_simp; exact ⟨rfl, rfl⟩) ?_
  exact HTx.out _ hw'
 simp only [fr1, fr2, fr3, fr4]
 refine wpE_t 8 12 (v := ?_) (fun w' hw' => qat_value ?_) ?_
 rotate_left
 ·go_simp
  rfl
 simp only [fr1, fr2, fr3, fr4]
 refine wpE_t 9 13 (v := ?_) (fun w' hw' => qat_value ?_) ?_
 rotate_left
 ·go_simp
  rfl
 simp only [fr1, fr2, fr3, fr4]
 refine wpE_done (by kernel_rfl) (fun wj hwj => ?_) _
 have Hnow9 := Lib.hid (Hnow.out.mod hwj (fun _ _ f => f))
 have Hwas9 := Lib.hid (Hwas7.out.mod (Hy9.out.ext_trans hwj) (fun _ _ f => f))
 have HX9 := Lib.hid ((HX7.out.ext_trans Hy9.out).ext_trans hwj)
 clear hx9 hy9 hy8 hw8 hwj Hnow Hwas7 Hy9 HX7 HTx HSe HS
 go_wp2_with fail
 go_loopw [14, 15, 16] (fun f a i wr => ∃ (n fn an : Nat), n ≤ N ∧ i = .int .i64 n ∧ f = .int .i64 fn ∧ a = .int .i64 an ∧ Hid (TyAt s.data.toList T.data.toList ES n fn an) ∧ Ext wj wr) (fun _ _ i _ => N - (intOf i).toNat)
 case atStart => exact ⟨0, 0, 0, by omega, rfl, rfl, rfl, Hty, Mod.refl _ _⟩
 case round =>
  obtain ⟨n, fn, an, hnn, rfl, rfl, rfl, HT, hx⟩ := hrel
  by_cases hlt : n < N
  ·have hlt' : (n : Int) < (N : Int) := by omega
   have HL := Lib.hid hlt
   have hlq : n < Q.length := by rw [← HN.out]; exact hlt
   have hxq := HE.out n Q[n] (List.getElem?_eq_getElem hlq)
   generalize hgx : Q[n] = x at *
   have Hgx := Lib.hid (show Q[n]? = some x by rw [List.getElem?_eq_getElem hlq, hgx])
   obtain ⟨p0, p1, p2⟩ := Hein.out _ (List.mem_of_getElem? hxq)
   obtain ⟨kn, k1, k2, k3, k4, k5, k6, k7, k8, k9⟩ := HT.out.step hxq p0 p2
   obtain ⟨c0, c1⟩ := reads_pair (Hnow9.out.mod hx (fun _ _ f => f)) (Hk.out _ _ k1)
   simp only at k2 k4 k5
   have hk0 : (0 : Int) ≤ (n : Int) := by omega
   have htl : T.data.toList.length = T.size := rfl
   have hsl : s.data.toList.length = s.size := rfl
   obtain ⟨m, hm⟩ : ∃ m, kn = m + c.size := ⟨kn - c.size, by omega⟩
   have l1 : ¬ (kn : Int) < (c.size : Int) := by omega
   have l2 : ¬ (T.size : Int) < (kn : Int) := by omega
   have l3 : ¬ (m : Int) < (an : Int) := by omega
   have l4 : wrap64 ((kn : Int) - (c.size : Int)) = (m : Int) := by have := Hsz.out; rw [IntWalk.wrap64_in _ ⟨by omega, by omega⟩]; omega
   have l5 : (m : Int) ≤ (kn : Int) := by omega
   have l6 : (kn : Int) ≤ (T.size : Int) := by omega
   have l7 : ((T.extract m kn).toList == c.toList) = true := eq_toList (by rw [ex_data, ← k4, hm, Nat.add_sub_cancel])
   have l8 : (0 : Int) ≤ (m : Int) := by omega
   simp only [Nat.zero_add] at c0 c1
   have hbl := World.block_lt_of_cell? wr _ c0
   have K2 := Lib.hid (And.intro k2 hm)
   clear htl hsl hm
   have K5 := Lib.hid k5
   have K6 := Lib.hid k6
   have K789 := Lib.hid (And.intro k7 (And.intro k8 k9))
   clear hgx hlq k1 k2 k3 k4 k5 k6 k7 k8 k9
   go_upto_region 16 with fail
   go_upto_region 18 with fail
   clear l1 l2 l3 l5 l7 c0 c1 hbl
   have HSp := Lib.hid (fun w' => span_any x w')
   obtain ⟨c0, c1⟩ := reads_pair (Hwas9.out.mod hx (fun _ _ f => f)) Hgx.out
   simp only [Nat.zero_add] at c0 c1
   have HxQ := Lib.hid (show A ⟨(spanI x).1, (spanI x).2, c⟩ = (spanI x).1.toNat ∧ Z ⟨(spanI x).1, (spanI x).2, c⟩ = (spanI x).2.toNat from ⟨rfl, rfl⟩)
   generalize spanI x = y at *
   obtain ⟨p, q⟩ := x
   obtain ⟨y1, y2⟩ := y
   simp only at c0 c1 HSp p0 p1 p2 HxQ
   obtain ⟨ay, hay⟩ : ∃ ay : Nat, y1 = (ay : Int) := ⟨y1.toNat, by omega⟩
   obtain ⟨zy, hzy⟩ : ∃ zy : Nat, y2 = (zy : Int) := ⟨y2.toNat, by omega⟩
   obtain ⟨hA, hZ⟩ := HxQ.out
   subst hay hzy
   rw [Int.toNat_natCast] at hA hZ
   have hk5 := K5.out
   have hk6 := K6.out
   have hk7 := K789.out
   have hk2 := K2.out
   have hsl : s.data.toList.length = s.size := rfl
   have htl : T.data.toList.length = T.size := rfl
   simp only at hk2 hk5 hk7
   rw [hA] at hk2 hk5 hk7
   rw [hZ] at hk6 hk7
   have l9 : ((T.extract an m).toList == (s.extract fn ay).toList) = true := eq_toList (by rw [ex_data, ex_data, ← hk5, hk2.2, Nat.add_sub_cancel])
   have l4b : IntKind.i64.wrap ((kn : Int) - (c.size : Int)) = (m : Int) := by rw [IntWalk.i64_left]; exact l4
   have f1 : (an : Int) ≤ (m : Int) := by omega
   have f2 : (m : Int) ≤ (T.size : Int) := by omega
   have f3 : (fn : Int) ≤ (ay : Int) := by omega
   have f4 : (ay : Int) ≤ (s.size : Int) := by omega
   have f5 : (0 : Int) ≤ (an : Int) := by omega
   have f6 : (0 : Int) ≤ (fn : Int) := by omega
   have HK6 := Lib.hid hk6
   have HS := Lib.hid (fun w' (hw' : Ext wr w') => (⟨(hw'.cell (World.block_lt_of_cell? _ _ c0) (fun f => f)).trans c0, (hw'.cell (World.block_lt_of_cell? _ _ c1) (fun f => f)).trans c1, trivial, trivial⟩ : w'.cell? ⟨g5, n * 2, none⟩ = some (.int .i64 p) ∧ w'.cell? ⟨g5, n * 2 + 1, none⟩ = some (.int .i64 q) ∧ True ∧ True))
   clear c0 c1 hA hZ hk5 hk6 hk7 hk2 hsl htl p0 p1 p2 K5 K6 K789 K2 HxQ
   refine wp_region_E (by kernel_rfl) ?_
   refine wpE_t 0 140 (v := ?_) (fun w' hw' => qat_value ?_) ?_
   rotate_left
   ·go_simp
    rfl
   simp only [fr1, fr2, fr3, fr4]
   refine wpE_t 1 141 (v := ?_) (fun w' hw' => qat_value ?_) ?_
   rotate_left
   ·go_simp
    rfl
   simp only [fr1, fr2, fr3, fr4]
   refine wpE_t 2 142 (v := ?_) (fun w' hw' => qat_value ?_) ?_
   rotate_left
   ·go_simp
    rfl
   simp only [fr1, fr2, fr3, fr4]
   refine wpE_t 3 143 (v := ?_) (fun w' hw' => qat_value ?_) ?_
   rotate_left
   ·go_simp
    rfl
   simp only [fr1, fr2, fr3, fr4]
   refine wpE_t 4 144 (v := ?_) (fun w' hw' => qat_value ?_) ?_
   rotate_left
   ·go_simp
    rfl
   simp only [fr1, fr2, fr3, fr4]
   refine wpE_t 5 145 (v := ?_) (fun w' hw' => qat_value ?_) ?_
   rotate_left
   ·go_simp
    rfl
   simp only [fr1, fr2, fr3, fr4]
   refine wpE_t 6 146 (v := ?_) (fun w' hw' => qat_value ?_) ?_
   rotate_left
   ·go_simp
    rfl
   simp only [fr1, fr2, fr3, fr4]
   refine wpE_t 7 147 (v := ?_) (fun w' hw' => qat_value ?_) ?_
   rotate_left
   ·go_simp
    rfl
   simp only [fr1, fr2, fr3, fr4]
   refine wpE_t 8 148 (v := ?_) (fun w' hw' => qat_value ?_) ?_
   rotate_left
   ·go_simp
    rfl
   simp only [fr1, fr2, fr3, fr4]
   refine wpE_t 9 149 (v := ?_) (fun w' hw' => qat_value ?_) ?_
   rotate_left
   ·go_simp
    rfl
   simp only [fr1, fr2, fr3, fr4]
   refine wpE_t 10 150 (v := ?_) (fun w' hw' => qat_value ?_) ?_
   rotate_left
   ·go_simp
    rfl
   simp only [fr1, fr2, fr3, fr4]
   refine wpE_t 11 151 (v := ?_) (fun w' hw' => qat_value ?_) ?_
   rotate_left
   ·go_simp
    rfl
   simp only [fr1, fr2, fr3, fr4]
   refine wpE_t 12 152 (v := ?_) (fun w' hw' => ?_) ?_
   rotate_left
   ·obtain ⟨r0, r1, r2, r3⟩ := HS.out w' hw'
    refine qat_value ?_
    go_simp
    rfl
   simp only [fr1, fr2, fr3, fr4]
   refine wpE_t 13 153 (v := ?_) (fun w' hw' => ?_) ?_
   rotate_left
   ·refine qat_enter (by go_simp; exact ⟨rfl, rfl⟩) ?_
    exact HSp.out _
   simp only [fr1, fr2, fr3, fr4]
   refine wpE_t 14 154 (v := ?_) (fun w' hw' => qat_value ?_) ?_
   rotate_left
   ·go_simp
    rfl
   simp only [fr1, fr2, fr3, fr4]
   refine wpE_t 15 155 (v := ?_) (fun w' hw' => qat_value ?_) ?_
   rotate_left
   ·go_simp
    rfl
   simp only [fr1, fr2, fr3, fr4]
   refine wpE_t 16 156 (v := ?_) (fun w' hw' => qat_value ?_) ?_
   rotate_left
   ·go_simp
    rfl
   simp only [fr1, fr2, fr3, fr4]
   refine wpE_done (by kernel_rfl) (fun wk hwk => ?_) _
   have hwk2 : Ext wr wk := (ext_draw wr).ext_trans hwk
   obtain ⟨r0, r1, -, -⟩ := HS.out wk hwk2
   have hxk := hx.ext_trans hwk2
   have hbl := World.block_lt_of_cell? wk _ r0
   clear hx hwk hwk2 HS l9 l4 l4b l6 l8
   go_wp2_with fail
   refine (HSp.out _).mono ?_
   rintro e wl ⟨rfl, hxl⟩
   have hxn := hxk.ext_trans hxl
   clear r0 r1 hxk hxl hbl
   go_wp2_with fail
   rw [show Sem.run Tryz.prog (Instr.field 49 (Value.agg #[Value.int .i64 (ay : Int), Value.int .i64 (zy : Int)]) 1) wl = Result.ok (Value.int .i64 (zy : Int)) wl from rfl]
   have hN8 : N ≤ 8 := by rw [HN.out]; exact Hp1.out
   have hlt3 := HL.out
   go_wp2_with fail
   go_roundw
   case rel => exact ⟨n + 1, zy, kn, HL.out, by go_num, rfl, rfl, HK6, hxn⟩
   case measure => have := HL.out; simp [intOf]; omega
  ·have hlt' : ¬ (n : Int) < (N : Int) := by omega
   obtain rfl : n = N := by omega
   obtain ⟨d1, d2⟩ := HT.out.end (by rw [Hel.out, ← HN.out]; exact Nat.le_refl _)
   have hle := HT.out.le
   have htl : T.data.toList.length = T.size := rfl
   have hsl : s.data.toList.length = s.size := rfl
   have f1 : (an : Int) ≤ (T.size : Int) := by omega
   have f2 : (fn : Int) ≤ (s.size : Int) := by omega
   have f3 : (0 : Int) ≤ (an : Int) := by omega
   have f4 : (0 : Int) ≤ (fn : Int) := by omega
   have l9 : ((T.extract an T.size).toList == (s.extract fn s.size).toList) = true := eq_toList (by rw [ex_data, ex_data, ← htl, ← hsl, List.take_length, List.take_length]; exact d1)
   clear d1 d2 hle htl hsl HT
   go_upto_region 21 with fail
   refine wp_region_E (by kernel_rfl) ?_
   refine wpE_t 0 164 (v := ?_) (fun w' hw' => qat_value ?_) ?_
   rotate_left
   ·go_simp
    rfl
   simp only [fr1, fr2, fr3, fr4]
   refine wpE_t 1 165 (v := ?_) (fun w' hw' => qat_value ?_) ?_
   rotate_left
   ·go_simp
    rfl
   simp only [fr1, fr2, fr3, fr4]
   refine wpE_t 2 166 (v := ?_) (fun w' hw' => qat_value ?_) ?_
   rotate_left
   ·go_simp
    rfl
   simp only [fr1, fr2, fr3, fr4]
   refine wpE_t 3 167 (v := ?_) (fun w' hw' => qat_value ?_) ?_
   rotate_left
   ·go_simp
    rfl
   simp only [fr1, fr2, fr3, fr4]
   refine wpE_t 4 168 (v := ?_) (fun w' hw' => qat_value ?_) ?_
   rotate_left
   ·go_simp
    rfl
   simp only [fr1, fr2, fr3, fr4]
   refine wpE_t 5 169 (v := ?_) (fun w' hw' => qat_value ?_) ?_
   rotate_left
   ·go_simp
    rfl
   simp only [fr1, fr2, fr3, fr4]
   refine wpE_t 6 170 (v := ?_) (fun w' hw' => qat_value ?_) ?_
   rotate_left
   ·go_simp
    rfl
   simp only [fr1, fr2, fr3, fr4]
   refine wpE_t 7 171 (v := ?_) (fun w' hw' => qat_value ?_) ?_
   rotate_left
   ·go_simp
    rfl
   simp only [fr1, fr2, fr3, fr4]
   refine wpE_t 8 172 (v := ?_) (fun w' hw' => ?_) ?_
   rotate_left
   ·refine qat_enter (by go_simp; exact ⟨rfl, rfl⟩) ?_
    exact awakeS_any _
   simp only [fr1, fr2, fr3, fr4]
   refine wpE_t 9 173 (v := ?_) (fun w' hw' => qat_value ?_) ?_
   rotate_left
   ·go_simp
    rfl
   simp only [fr1, fr2, fr3, fr4]
   refine wpE_t 10 6 (v := ?_) (fun w' hw' => qat_value ?_) ?_
   rotate_left
   ·go_simp
    rfl
   simp only [fr1, fr2, fr3, fr4]
   refine wpE_done (by kernel_rfl) (fun wk hwk => ?_) _
   have hwk2 : Ext wr wk := (ext_draw wr).ext_trans hwk
   have hend := HX9.out.ext_trans (hx.ext_trans hwk2)
   clear hwk hwk2 hx
   go_wp2_with fail
   go_ret
   exact ⟨rfl, hend⟩
theorem sheetTyped_calls (w : World) (s : ByteArray) (_ : s.size ≤ 9223372036854775807) (ao : Option Addr) (cap : Nat) (L : List (Int × Int)) (hr : Reads w 2 ao L.length (prCells L)) (_ : L.length ≤ maxLen) (_ : ∀ x ∈ L, i64w x.1 ∧ i64w x.2) (c : ByteArray) (_ : c.size ≤ 9223372036854775807) :
  Calls Tryz.prog 3 #[.string s, .slice ao L.length cap, .string c] w fun e w' => e = .returned (.bool true) ∧ Ext w w' := by
 by_cases h1 : s.size ≤ 80
 ·have i1 : ¬ (80 : Int) < (s.size : Int) := by omega
  have i2 : decide ((80 : Int) < (s.size : Int)) = false := decide_eq_false i1
  by_cases h2 : L.length = 0
  ·have i3 : (L.length : Int) = 0 := by omega
   have i4 : ((L.length : Int) == 0) = true := by rw [i3]; rfl
   clear hr
   go_enter Tryz.func3, Tryz.ntmps3
   go_wp2_with fail
   refine (awakeS_any _).mono ?_
   rintro e w1 ⟨rfl, hx⟩
   go_wp2_with fail
   go_ret
   exact ⟨rfl, hx⟩
  ·have i3 : ¬ (L.length : Int) = 0 := by omega
   have i4 : decide ((L.length : Int) = 0) = false := decide_eq_false i3
   have i5 : ((L.length : Int) == 0) = false := i4
   by_cases h3 : L.length ≤ 8
   ·have i6 : ¬ (8 : Int) < (L.length : Int) := by omega
    have i7 : decide ((8 : Int) < (L.length : Int)) = false := decide_eq_false i6
    by_cases h4 : c.size ≤ 20
    ·exact sheetTyped_any w s ao cap L c h1 hr (by omega) h3 h4
    ·have i8 : (20 : Int) < (c.size : Int) := by omega
     have i9 : decide ((20 : Int) < (c.size : Int)) = true := decide_eq_true i8
     clear hr
     go_enter Tryz.func3, Tryz.ntmps3
     go_wp2_with fail
     refine (awakeS_any _).mono ?_
     rintro e w1 ⟨rfl, hx⟩
     go_wp2_with fail
     go_ret
     exact ⟨rfl, hx⟩
   ·have i6 : (8 : Int) < (L.length : Int) := by omega
    have i7 : decide ((8 : Int) < (L.length : Int)) = true := decide_eq_true i6
    clear hr
    go_enter Tryz.func3, Tryz.ntmps3
    go_wp2_with fail
    refine (awakeS_any _).mono ?_
    rintro e w1 ⟨rfl, hx⟩
    go_wp2_with fail
    go_ret
    exact ⟨rfl, hx⟩
 ·have i1 : (80 : Int) < (s.size : Int) := by omega
  have i2 : decide ((80 : Int) < (s.size : Int)) = true := decide_eq_true i1
  clear hr
  go_enter Tryz.func3, Tryz.ntmps3
  go_wp2_with fail
  refine (awakeS_any _).mono ?_
  rintro e w1 ⟨rfl, hx⟩
  go_wp2_with fail
  go_ret
  exact ⟨rfl, hx⟩
end Go.Proofs.YthlmgoagnfkhdaaGreat

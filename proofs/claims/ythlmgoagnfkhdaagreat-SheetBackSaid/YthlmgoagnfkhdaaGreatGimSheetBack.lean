/- What Do told turns the text back, behind whatever was done; and what that told turns it forth: the walk. Conditions: none. -/
import Derived.Test.YthlmgoagnfkhdaaGreatGimF45
set_option maxHeartbeats 6400000
set_option maxRecDepth 1000000
set_option linter.unusedVariables false
set_option linter.unusedSimpArgs false
namespace Go.Proofs.YthlmgoagnfkhdaaGreat
open Go.RowKit Go.Gim
theorem sheetBack_any (w : World) (s : ByteArray) (ao : Option Addr) (cap : Nat) (L : List Ds) (ae : Option Addr) (ce : Nat) (es : List Ed) (hs : s.size ≤ 80) (hr : Reads w 7 ao L.length (dsE.cells L)) (hok : ∀ x ∈ L, DsOk w x) (hn : L.length ≤ 8) (hmu : muchS L = false)
  (he : Reads w 3 ae es.length (edE.cells es)) (hmE : MuchB 6 60 es = false) :
  Calls Tryz.prog 8 #[.string s, .slice ao L.length cap, .slice ae es.length ce] w fun e w' => e = .returned (.bool true) ∧ Ext w w' := by
 have Hfit := Lib.hid (fit_of hmu)
 obtain ⟨hel, het⟩ := muchB_in hmE
 have HM := muchS_any 8 ao cap L w hr hok (by unfold maxLen; omega) (by omega)
 rw [if_neg (by omega), hmu] at HM
 have HM' := Lib.hid HM
 have HME := MuchE_any 6 60 ae ce es w he (by unfold maxLen; omega) (by omega) (by omega) (by omega)
 rw [hmE] at HME
 have HME' := Lib.hid HME
 have He := Lib.hid he
 have Hel := Lib.hid hel
 have Het := Lib.hid het
 obtain ⟨N, hN⟩ : ∃ N, N = L.length := ⟨_, rfl⟩
 have HN := Lib.hid hN
 have Hr := Lib.hid hr
 have Hok := Lib.hid hok
 rw [← hN] at hn HM' ⊢
 clear hr hok hN
 generalize hM : es.length = M at *
 have i1 : ¬ (80 : Int) < (s.size : Int) := by omega
 have i2 : decide ((80 : Int) < (s.size : Int)) = false := decide_eq_false i1
 clear hmu HM HME he hel het hmE
 go_enter Tryz.func8, Tryz.ntmps8
 go_wp2_with fail
 refine HM'.out.mono ?_
 rintro e v0 ⟨rfl, rfl⟩
 go_wp2_with fail
 refine HME'.out.mono ?_
 rintro e v1 ⟨rfl, rfl⟩
 clear HM' HME' i1 i2
 have HMl := Lib.hid hM
 clear hM
 go_wp2_with fail
 refine (dice_lit _ [5] #[.int .u32 5] rfl (by simp) (by simp)).mono ?_
 rintro e u1 ⟨D, rfl, hD⟩
 go_wp2_with fail
 refine (snew_any D s u1 hD.dice (by omega)).mono ?_
 rintro e u2 ⟨S, rfl, h1, h2, h3, h4, h5, -, h6, h7⟩
 have HA := Lib.hid (Alone.start (m := 6) hD.ext hD.d h1 h3 h4 h5 h6 h7 (by omega))
 have H2 := Lib.hid h2
 have H4 := Lib.hid h4
 have d1 := HA.out.sh.blk.cell 1
 simp only [List.getElem?_toArray, List.getElem?_cons_zero, List.getElem?_cons_succ] at d1
 have hlb := HA.out.sh.blk.lt
 have HB0 := Lib.hid (Both.start HA.out h5 h3 h4 s h2)
 clear hD h1 h2 h3 h4 h5 h6 h7
 go_upto_region 7 with fail
 obtain ⟨u5, hu5⟩ : ∃ u5, u5 = ((u2.alloc (.cells #[.int .i64 0, .int .i64 0] 47)).alloc (.cells #[.slice none 0 0, .slice none 0 0, .int .i64 0] 86)).alloc (.cells #[.string s, .slice (some ⟨u2.heap.size, 0, none⟩) 1 1, .pointer (some ⟨u2.heap.size + 1, 0, none⟩)] 88) := ⟨_, rfl⟩
 rw [← hu5] at HB0
 rw [← hu5]
 obtain ⟨p, hp⟩ : ∃ p : Pp, p = ⟨u2.heap.size + 2, some ⟨u2.heap.size, 0, none⟩, 1, u2.heap.size + 1, .slice none 0 0, .slice none 0 0⟩ := ⟨_, rfl⟩
 rw [← hp] at HB0
 have HB := HB0
 rw [show u2.heap.size + 2 = p.pb by rw [hp]]
 clear HB0 hp hu5 d1 hlb
 have HB4 := HB
 clear HB
 go_wp2_with fail
 go_loopw [10] (fun i wr => ∃ (k : Nat) (S1 : Sh) (p1 : Pp), k ≤ N ∧ i = .int .i64 k ∧ S1.sb = S.sb ∧ p1.pb = p.pb ∧ S1.last ≤ k ∧ S1.s.size ≤ 80 + 300 * k ∧ Hid (Both v1 wr S1 p1 (65536 + 2000000 * (k : Int)) 6)) (fun i _ => N - (intOf i).toNat)
 case atStart => exact ⟨0, S, p, by omega, rfl, rfl, rfl, by rw [H4.out]; omega, by rw [H2.out]; omega, Lib.hid (HB4.out.more (by omega))⟩
 case round =>
  obtain ⟨k, S1, p1, hk, rfl, hb1, hb2, hla, hsz, HB1⟩ := hrel
  by_cases hlt : k < N
  ·have hlt' : (k : Int) < (N : Int) := by omega
   have hk0 : (0 : Int) ≤ (k : Int) := by omega
   obtain ⟨b, off, rfl⟩ := Hr.out.some (by rw [← HN.out]; omega)
   have hlk : k < L.length := by rw [← HN.out]; exact hlt
   obtain ⟨⟨q0, q1, q2, q3⟩, q4, q5, q6⟩ := reads_ds (Hr.out.mod HB1.out.ext (fun _ _ f => f)) (List.getElem?_eq_getElem hlk)
   have HC := Lib.hid (doesS_all L[k] v1 wr S1 p1 _ HB1.out (by omega) (by omega) (by omega) (Hok.out _ (List.getElem_mem hlk)) (Hfit.out _ (List.getElem_mem hlk)))
   generalize L[k] = x at *
   unfold DoesPost dsV at HC
   rw [hb1, hb2] at HC
   have hbl := World.block_lt_of_cell? wr _ q0
   clear hlk
   go_wp2_with fail
   refine HC.out.mono ?_
   rintro e w5 ⟨rfl, S2, p2, hB2, g1, g2, g3, -, -, -, g4⟩
   have HB2 := Lib.hid hB2
   clear hB2 HC q0 q1 q2 q3 q4 q5 q6 hbl
   go_wp2_with fail
   go_roundw
   case rel => exact ⟨k + 1, S2, p2, by omega, by go_num, g2, g3, by omega, by omega, Lib.hid (HB2.out.more (by omega))⟩
   case measure => simp [intOf]; omega
  ·have hlt' : ¬ (k : Int) < (N : Int) := by omega
   obtain rfl : k = N := by omega
   have HA1 := Lib.hid (HB1.out.alone)
   have HTx := Lib.hid (text_rope S1.R wr HA1.out.sh.rope)
   rw [bs_eq HA1.out.sh.text] at HTx
   have d0 := SheetAt.cell0 (Alone.sh (Hid.out HA1))
   rw [hb1] at d0
   have hlb := Blk.lt (SheetAt.blk (Alone.sh (Hid.out HA1)))
   rw [hb1] at hlb
   have Hsz := Lib.hid hsz
   have Hb1 := Lib.hid hb1
   have Hk8 := Lib.hid hn
   have hz1 : S1.s.size ≤ 3000 := by omega
   clear HB1 hb2 hla hsz hlt' hlt hb1
   go_wp2_with fail
   refine HTx.out.mono ?_
   rintro e w3 ⟨rfl, hx3⟩
   have HA3 := Lib.hid (HA1.out.on hx3)
   have HE3 := Lib.hid (editsN_any S1.s.size ae ce es w3 (by rw [HMl.out]; exact He.out.mod HA3.out.ext (fun _ _ f => f)) (by have := Hel.out; have := HMl.out; omega) (by omega))
   have Hn := Lib.hid (show (editsN S1.s.size es).length ≤ 6 by rw [editsN_len]; have := Hel.out; have := HMl.out; omega)
   have Ht := Lib.hid (show ∀ e ∈ editsN S1.s.size es, e.t.size ≤ 60 from editsN_t (fun e he => by have := Het.out e he; omega))
   unfold Enc.Out at HE3
   rw [HMl.out] at HE3
   generalize editsN S1.s.size es = ES at *
   clear HTx hx3 d0 hlb
   go_wp2_with fail
   refine HE3.out.mono ?_
   rintro e w4 ⟨v, rfl, ho, hx4⟩
   have Ho := Lib.hid ho
   obtain ⟨az, cz, rfl, hrz⟩ := Enc.owns_reads (E := edE) ho
   have HA4 := Lib.hid (HA3.out.on hx4)
   have HDo := Lib.hid (HA4.out.do (by omega) (by omega) (by omega) az cz ES hrz (by have := Hn.out; omega) (fun e he => by have := Ht.out e he; omega) (fun _ => HA3.out.free Ho.out (Nat.le_refl _)))
   rw [Hb1.out] at HDo
   have Hb0 := Lib.hid (back_again (s := S1.s) (es := ES) (by omega))
   have Htl := Lib.hid (backC_tl (s := S1.s) (es := ES))
   have Hbl := Lib.hid (backC_len (s := S1.s) (es := ES) (by omega) (fun e he => by have := Ht.out e he; omega))
   have Hts := Lib.hid (textC_size (s := S1.s) (es := ES) (c := 60) Ht.out)
   clear HE3 ho hrz hx4 HA3
   go_wp2_with fail
   refine HDo.out.mono ?_
   rintro e w5 ⟨S2, a2, c2, rfl, ho2, hf2, hd2, e1, -, -, -, hA5⟩
   have HA5 := Lib.hid hA5
   have Ho2 := Lib.hid ho2
   have Hf2 := Lib.hid hf2
   have E1 := Lib.hid e1
   have Hb2 := Lib.hid (hd2.sb.trans Hb1.out)
   have HTx := Lib.hid (text_rope S2.R w5 hA5.sh.rope)
   rw [bs_eq hA5.sh.text] at HTx
   have d0 := SheetAt.cell0 (Alone.sh (Hid.out HA5))
   rw [Hb2.out] at d0
   have hlb := Blk.lt (SheetAt.blk (Alone.sh (Hid.out HA5)))
   rw [Hb2.out] at hlb
   clear HDo ho2 hf2 hd2 e1 hA5 Ho HA4
   by_cases hm : mayE S1.s.size ES = 0
   ·obtain ⟨hm2, ht2⟩ := Hb0.out hm
    rw [hm]
    have hz2 : S2.s.size ≤ 3400 := by rw [E1.out]; have := Hts.out; have := Hn.out; have : ES.length * 60 ≤ 6 * 60 := Nat.mul_le_mul_right _ this; omega
    have hbt : ∀ e ∈ backC S1.s ES, e.t.size ≤ 18000 := fun e he => by
     have h1 := Htl.out e he
     have h2 : ES.length * S1.s.size ≤ 6 * 3000 := Nat.mul_le_mul Hn.out hz1
     omega
    have hbl : (backC S1.s ES).length ≤ 6 := Nat.le_trans Hbl.out Hn.out
    have Hb3 := Lib.hid (back_again (s := S2.s) (es := backC S1.s ES) (by omega) (by rw [E1.out]; exact hm2))
    have Htl2 := Lib.hid (backC_tl (s := S2.s) (es := backC S1.s ES))
    have Hbl2 := Lib.hid (backC_len (s := S2.s) (es := backC S1.s ES) (by omega) (fun e he => by have := hbt e he; omega))
    have M2 := Lib.hid (show mayE S2.s.size (backC S1.s ES) = 0 by rw [E1.out]; exact hm2)
    have T2 := Lib.hid (show textC S2.s (backC S1.s ES) = S1.s by rw [E1.out]; exact ht2)
    generalize hK : backC S1.s ES = K at *
    clear hm hm2 ht2 Hb0 Htl Hbl Hts hK
    go_wp2_with fail
    refine HTx.out.mono ?_
    rintro e w6 ⟨rfl, hx6⟩
    have HA6 := Lib.hid (HA5.out.on hx6)
    have HDo := Lib.hid (HA6.out.do (by omega) (by omega) (by omega) a2 c2 K (Reads.own (ownsRow_mod Ho2.out hx6 (fun _ _ f => f))) (by omega) (fun e he => by have := hbt e he; omega) (fun _ => Hf2.out))
    rw [M2.out, Hb2.out] at HDo
    clear HTx d0 hlb hx6 Ho2
    go_wp2_with fail
    refine HDo.out.mono ?_
    rintro e w7 ⟨S3, a3, c3, rfl, ho3, hf3, hd3, e3, -, -, -, hA7⟩
    rw [T2.out] at e3
    have HA7 := Lib.hid hA7
    have Ho3 := Lib.hid ho3
    have Hf3 := Lib.hid hf3
    have E3 := Lib.hid e3
    have Hb4 := Lib.hid (hd3.sb.trans Hb2.out)
    have HTx := Lib.hid (text_rope S3.R w7 hA7.sh.rope)
    rw [bs_eq hA7.sh.text, e3] at HTx
    have d0 := SheetAt.cell0 (Alone.sh (Hid.out HA7))
    rw [Hb4.out] at d0
    have hlb := Blk.lt (SheetAt.blk (Alone.sh (Hid.out HA7)))
    rw [Hb4.out] at hlb
    have hss : (S1.s.toList == S1.s.toList) = true := beq_self_eq_true _
    have hbl3 : (backC S2.s K).length ≤ 6 := by have := Hbl2.out; omega
    have hbt3 : ∀ e ∈ backC S2.s K, e.t.size ≤ 24000 := fun e he => by
     have h1 := Htl2.out e he
     have h2 : K.length * S2.s.size ≤ 6 * 3400 := Nat.mul_le_mul hbl hz2
     omega
    obtain ⟨M3, T3⟩ := Hb3.out
    rw [T2.out] at M3 T3
    generalize hK2 : backC S2.s K = K2 at *
    clear HDo ho3 hf3 hd3 e3 hA7 hK2 Hb3 Htl2 Hbl2
    go_wp2_with fail
    refine HTx.out.mono ?_
    rintro e w8 ⟨rfl, hx8⟩
    have HA8 := Lib.hid (HA7.out.on hx8)
    have HDo := Lib.hid (HA8.out.do (by omega) (by omega) (by rw [E3.out]; omega) a3 c3 K2 (Reads.own (ownsRow_mod Ho3.out hx8 (fun _ _ f => f))) (by omega) (fun e he => by have := hbt3 e he; omega) (fun _ => Hf3.out))
    rw [E3.out, M3, Hb4.out] at HDo
    clear HTx d0 hlb hx8 Ho3
    go_wp2_with fail
    refine HDo.out.mono ?_
    rintro e w9 ⟨S4, a4, c4, rfl, -, -, hd4, e4, -, -, -, hA9⟩
    rw [T3] at e4
    have HA9 := Lib.hid hA9
    have hb5 := hd4.sb.trans Hb4.out
    have HTx := Lib.hid (text_rope S4.R w9 hA9.sh.rope)
    rw [bs_eq hA9.sh.text, e4] at HTx
    have d0 := SheetAt.cell0 (Alone.sh (Hid.out HA9))
    rw [hb5] at d0
    have hlb := Blk.lt (SheetAt.blk (Alone.sh (Hid.out HA9)))
    rw [hb5] at hlb
    have hss2 : (S2.s.toList == S2.s.toList) = true := beq_self_eq_true _
    clear HDo hd4 e4 hA9 M3 T3
    go_wp2_with fail
    refine HTx.out.mono ?_
    rintro e wa ⟨rfl, hxa⟩
    go_wp2_with fail
    refine (awakeS_any _).mono ?_
    rintro e wb ⟨rfl, hxb⟩
    go_wp2_with fail
    go_ret
    exact ⟨rfl, (HA9.out.ext.ext_trans hxa).ext_trans hxb⟩
   ·have hK : backC S1.s ES = [] := by unfold backC; rw [if_neg hm]
    have hT : S2.s = S1.s := by rw [E1.out]; unfold textC; rw [if_neg hm]
    rw [hK]
    rw [hT] at HTx
    have hm1 : (mayE S1.s.size ES != 0) = true := by simpa using hm
    have hss : (S1.s.toList == S1.s.toList) = true := beq_self_eq_true _
    generalize mayE S1.s.size ES = C at *
    clear hm hK hT Hb0 Htl Hbl Hts Ho2
    go_wp2_with fail
    refine HTx.out.mono ?_
    rintro e wa ⟨rfl, hxa⟩
    go_wp2_with fail
    refine (awakeS_any _).mono ?_
    rintro e wb ⟨rfl, hxb⟩
    go_wp2_with fail
    go_ret
    exact ⟨rfl, (HA5.out.ext.ext_trans hxa).ext_trans hxb⟩
theorem sheetBack_calls (w : World) (s : ByteArray) (_ : s.size ≤ 9223372036854775807) (ao : Option Addr) (cap : Nat) (L : List Ds) (hr : Reads w 7 ao L.length (dsE.cells L)) (hm : L.length ≤ maxLen) (hok : ∀ x ∈ L, DsOk w x) (ae : Option Addr) (ce : Nat) (es : List Ed) (he : Reads w 3 ae es.length (edE.cells es)) (hem : es.length ≤ maxLen) (_ : ∀ e ∈ es, e.t.size ≤ maxLen ∧ (Lit.int .i64 e.a).wf = true ∧ (Lit.int .i64 e.b).wf = true) :
  Calls Tryz.prog 8 #[.string s, .slice ao L.length cap, .slice ae es.length ce] w fun e w' => e = .returned (.bool true) ∧ Ext w w' := by
 by_cases h1 : s.size ≤ 80
 ·by_cases h2 : L.length ≤ 8
  ·cases hmu : muchS L with
   | false =>
    cases hme : MuchB 6 60 es with
    | false => exact sheetBack_any w s ao cap L ae ce es h1 hr hok h2 hmu he hme
    | true =>
     have HM := muchS_any 8 ao cap L w hr hok hm (by omega)
     rw [if_neg (by omega), hmu] at HM
     have HME := MuchE_any 6 60 ae ce es w he hem (by omega) (by omega) (by omega)
     rw [hme] at HME
     clear hr hok he
     have i1 : ¬ (80 : Int) < (s.size : Int) := by omega
     have i2 : decide ((80 : Int) < (s.size : Int)) = false := decide_eq_false i1
     have HM' := Lib.hid HM
     have HME' := Lib.hid HME
     clear HM HME
     go_enter Tryz.func8, Tryz.ntmps8
     go_wp2_with fail
     refine HM'.out.mono ?_
     rintro e v0 ⟨rfl, rfl⟩
     go_wp2_with fail
     refine HME'.out.mono ?_
     rintro e v1 ⟨rfl, rfl⟩
     go_wp2_with fail
     refine (awakeS_any _).mono ?_
     rintro e w9 ⟨rfl, hx9⟩
     go_wp2_with fail
     go_ret
     exact ⟨rfl, hx9⟩
   | true =>
    have HM := muchS_any 8 ao cap L w hr hok hm (by omega)
    rw [if_neg (by omega), hmu] at HM
    clear hr hok he
    have i1 : ¬ (80 : Int) < (s.size : Int) := by omega
    have i2 : decide ((80 : Int) < (s.size : Int)) = false := decide_eq_false i1
    have HM' := Lib.hid HM
    clear HM
    go_enter Tryz.func8, Tryz.ntmps8
    go_wp2_with fail
    refine HM'.out.mono ?_
    rintro e v0 ⟨rfl, rfl⟩
    go_wp2_with fail
    refine (awakeS_any _).mono ?_
    rintro e w9 ⟨rfl, hx9⟩
    go_wp2_with fail
    go_ret
    exact ⟨rfl, hx9⟩
  ·have HM := muchS_any 8 ao cap L w hr hok hm (by omega)
   rw [if_pos (by omega)] at HM
   clear hr hok he
   have i1 : ¬ (80 : Int) < (s.size : Int) := by omega
   have i2 : decide ((80 : Int) < (s.size : Int)) = false := decide_eq_false i1
   have HM' := Lib.hid HM
   clear HM
   go_enter Tryz.func8, Tryz.ntmps8
   go_wp2_with fail
   refine HM'.out.mono ?_
   rintro e v0 ⟨rfl, rfl⟩
   go_wp2_with fail
   refine (awakeS_any _).mono ?_
   rintro e w9 ⟨rfl, hx9⟩
   go_wp2_with fail
   go_ret
   exact ⟨rfl, hx9⟩
 ·have i1 : (80 : Int) < (s.size : Int) := by omega
  have i2 : decide ((80 : Int) < (s.size : Int)) = true := decide_eq_true i1
  clear hr hok he
  go_enter Tryz.func8, Tryz.ntmps8
  go_wp2_with fail
  refine (awakeS_any _).mono ?_
  rintro e w1 ⟨rfl, hx⟩
  go_wp2_with fail
  go_ret
  exact ⟨rfl, hx⟩
end Go.Proofs.YthlmgoagnfkhdaaGreat

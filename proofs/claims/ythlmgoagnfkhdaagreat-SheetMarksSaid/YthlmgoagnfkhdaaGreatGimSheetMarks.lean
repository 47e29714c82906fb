/- Behind edits that are done each mark is what its table, moved by them alone, has; selections are what theirs say: the walk. Conditions: none. -/
import Derived.Test.YthlmgoagnfkhdaaGreatGimG45
import Derived.Test.YthlmgoagnfkhdaaGreatGimBackTwiceP
import Derived.Test.YthlmgoagnfkhdaaGreatGimG35
set_option maxHeartbeats 6400000
set_option maxRecDepth 1000000
set_option linter.unusedVariables false
set_option linter.unusedSimpArgs false
namespace Go.Proofs.YthlmgoagnfkhdaaGreat
open Go.RowKit Go.Gim
theorem own_nottab {w : World} {B z n : Nat} {T : TypeId} {v : Value} {xs : List Value} {tb mb : Nat} {L : Tb} {last : Int} (h : w.ownsRow B T z v n xs) (ht : TabAt w tb mb L last) (hT : T ≠ 120) : ∀ k, v.ownBlock = some k → ¬ tabS tb mb k := by
 intro k hk
 rcases h.2 with ⟨hv, _⟩ | ⟨g, cap, cur, hv, _, hg, _⟩
 ·rw [hv] at hk; cases hk
 ·rw [hv] at hk
  cases hk
  rintro (e | e)
  ·have hb := ht.blk
   rw [← e, Blk, hg] at hb
   cases hb
   exact hT rfl
  ·obtain ⟨D, ⟨es, clock, hb, _⟩, _⟩ := ht.map
   rw [← e, hg] at hb
   cases hb
theorem Alone.beside {w0 w w1 : World} {S : Sh} {Bd : Int} {m t2 m2 : Nat} {L : Tb} {last : Int} (h : Alone w0 w S Bd m) (ht : TabAt w t2 m2 L last) (h1 : ¬ ShS S t2) (h2 : ¬ ShS S m2) (hs : ∀ k, S.R.D.sv.ownBlock = some k → k ≠ t2 ∧ k ≠ m2) (hB : w0.heap.size ≤ t2 ∧ w0.heap.size ≤ m2) (hm : Mod (tabS t2 m2) w w1) : Alone w0 w1 S Bd m := by
 refine ⟨h.sh.mod hm (fun k hk e => ?_) (fun k hk e => ?_) (fun a ha => ?_), h.own, h.tok, h.bd, h.q0, h.q1, h.inq, h.ext.trans hm (fun i hi e => ?_)⟩
 ·rcases e with e | e
  ·rw [e] at hk; exact h1 hk
  ·rw [e] at hk; exact h2 hk
 ·rcases e with e | e
  ·exact (hs k hk).1 e
  ·exact (hs k hk).2 e
 ·exact own_nottab h.sh.sels ht (by decide) a.block (by rw [ha]; rfl)
 ·rcases e with e | e <;> omega
structure MkAt (w0 w : World) (S : Sh) (Bd : Int) (t2 m2 : Nat) (v : Value) : Prop where
 al : Alone w0 w S Bd 6
 tab : TabAt w t2 m2 S.L S.last
 q : ∃ a c, v = .slice a S.q.length c ∧ Reads w 2 a S.q.length (prCells S.q)
theorem sheetMarks_any (w : World) (s : ByteArray) (ao : Option Addr) (cap : Nat) (L : List Ds) (ae : Option Addr) (ce : Nat) (es : List Ed) (hs : s.size ≤ 80) (hr : Reads w 7 ao L.length (dsE.cells L)) (hok : ∀ x ∈ L, DsOk w x) (hn : L.length ≤ 8) (hmu : muchS L = false)
  (he : Reads w 3 ae es.length (edE.cells es)) (hmE : MuchB 6 60 es = false) :
  Calls Tryz.prog 10 #[.string s, .slice ao L.length cap, .slice ae es.length ce] w fun e w' => e = .returned (.bool true) ∧ Ext w w' := by
 have Hfit := Lib.hid (fit_of hmu)
 obtain ⟨hel, het⟩ := muchB_in hmE
 have HM := muchS_any 8 ao cap L w hr hok (by unfold maxLen; omega) (by omega)
 rw [if_neg (by omega), hmu] at HM
 have HM' := Lib.hid HM
 have HME := MuchE_any 6 60 ae ce es w he (by unfold maxLen; omega) (by omega) (by omega) (by omega)
 rw [hmE] at HME
 have HME' := Lib.hid HME
 have He := Lib.hid he
 have Hel := Lib.hid hel
 have Het := Lib.hid het
 obtain ⟨N, hN⟩ : ∃ N, N = L.length := ⟨_, rfl⟩
 have HN := Lib.hid hN
 have Hr := Lib.hid hr
 have Hok := Lib.hid hok
 rw [← hN] at hn HM' ⊢
 clear hr hok hN
 generalize hM : es.length = M at *
 have i1 : ¬ (80 : Int) < (s.size : Int) := by omega
 have i2 : decide ((80 : Int) < (s.size : Int)) = false := decide_eq_false i1
 clear hmu HM HME he hel het hmE
 go_enter Tryz.func10, Tryz.ntmps10
 go_wp2_with fail
 refine HM'.out.mono ?_
 rintro e v0 ⟨rfl, rfl⟩
 go_wp2_with fail
 refine HME'.out.mono ?_
 rintro e v1 ⟨rfl, rfl⟩
 clear HM' HME' i1 i2
 have HMl := Lib.hid hM
 clear hM
 go_wp2_with fail
 refine (dice_lit _ [5] #[.int .u32 5] rfl (by simp) (by simp)).mono ?_
 rintro e u1 ⟨D, rfl, hD⟩
 go_wp2_with fail
 refine (snew_any D s u1 hD.dice (by omega)).mono ?_
 rintro e u2 ⟨S, rfl, h1, h2, h3, h4, h5, -, h6, h7⟩
 have HA := Lib.hid (Alone.start (m := 6) hD.ext hD.d h1 h3 h4 h5 h6 h7 (by omega))
 have H2 := Lib.hid h2
 have H4 := Lib.hid h4
 have d1 := HA.out.sh.blk.cell 1
 simp only [List.getElem?_toArray, List.getElem?_cons_zero, List.getElem?_cons_succ] at d1
 have hlb := HA.out.sh.blk.lt
 have HB0 := Lib.hid (Both.start HA.out h5 h3 h4 s h2)
 clear hD h1 h2 h3 h4 h5 h6 h7
 go_upto_region 7 with fail
 obtain ⟨u5, hu5⟩ : ∃ u5, u5 = ((u2.alloc (.cells #[.int .i64 0, .int .i64 0] 47)).alloc (.cells #[.slice none 0 0, .slice none 0 0, .int .i64 0] 86)).alloc (.cells #[.string s, .slice (some ⟨u2.heap.size, 0, none⟩) 1 1, .pointer (some ⟨u2.heap.size + 1, 0, none⟩)] 88) := ⟨_, rfl⟩
 rw [← hu5] at HB0
 rw [← hu5]
 obtain ⟨p, hp⟩ : ∃ p : Pp, p = ⟨u2.heap.size + 2, some ⟨u2.heap.size, 0, none⟩, 1, u2.heap.size + 1, .slice none 0 0, .slice none 0 0⟩ := ⟨_, rfl⟩
 rw [← hp] at HB0
 have HB := HB0
 rw [show u2.heap.size + 2 = p.pb by rw [hp]]
 clear HB0 hp hu5 d1 hlb
 have HB4 := HB
 clear HB
 go_wp2_with fail
 go_loopw [10] (fun i wr => ∃ (k : Nat) (S1 : Sh) (p1 : Pp), k ≤ N ∧ i = .int .i64 k ∧ S1.sb = S.sb ∧ p1.pb = p.pb ∧ S1.last ≤ k ∧ S1.s.size ≤ 80 + 300 * k ∧ Hid (Both v1 wr S1 p1 (65536 + 2000000 * (k : Int)) 6)) (fun i _ => N - (intOf i).toNat)
 case atStart => exact ⟨0, S, p, by omega, rfl, rfl, rfl, by rw [H4.out]; omega, by rw [H2.out]; omega, Lib.hid (HB4.out.more (by omega))⟩
 case round =>
  obtain ⟨k, S1, p1, hk, rfl, hb1, hb2, hla, hsz, HB1⟩ := hrel
  by_cases hlt : k < N
  ·have hlt' : (k : Int) < (N : Int) := by omega
   have hk0 : (0 : Int) ≤ (k : Int) := by omega
   obtain ⟨b, off, rfl⟩ := Hr.out.some (by rw [← HN.out]; omega)
   have hlk : k < L.length := by rw [← HN.out]; exact hlt
   obtain ⟨⟨q0, q1, q2, q3⟩, q4, q5, q6⟩ := reads_ds (Hr.out.mod HB1.out.ext (fun _ _ f => f)) (List.getElem?_eq_getElem hlk)
   have HC := Lib.hid (doesS_all L[k] v1 wr S1 p1 _ HB1.out (by omega) (by omega) (by omega) (Hok.out _ (List.getElem_mem hlk)) (Hfit.out _ (List.getElem_mem hlk)))
   generalize L[k] = x at *
   unfold DoesPost dsV at HC
   rw [hb1, hb2] at HC
   have hbl := World.block_lt_of_cell? wr _ q0
   clear hlk
   go_wp2_with fail
   refine HC.out.mono ?_
   rintro e w5 ⟨rfl, S2, p2, hB2, g1, g2, g3, -, -, -, g4⟩
   have HB2 := Lib.hid hB2
   clear hB2 HC q0 q1 q2 q3 q4 q5 q6 hbl
   go_wp2_with fail
   go_roundw
   case rel => exact ⟨k + 1, S2, p2, by omega, by go_num, g2, g3, by omega, by omega, Lib.hid (HB2.out.more (by omega))⟩
   case measure => simp [intOf]; omega
  ·have hlt' : ¬ (k : Int) < (N : Int) := by omega
   obtain rfl : k = N := by omega
   have hz1 : S1.s.size ≤ 3000 := by omega
   have Hz1 := Lib.hid hz1
   have Hk8 := Lib.hid hn
   have Hb1 := Lib.hid hb1
   have Hb2 := Lib.hid hb2
   have Hla := Lib.hid hla
   have d1 := SheetAt.cell1 HB1.out.sh
   rw [hb1] at d1
   have hlb := HB1.out.sh.blk.lt
   rw [hb1] at hlb
   have HTw := Lib.hid (ttwin_any S1.tb S1.mb S1.L S1.last wr HB1.out.sh.tab)
   unfold TTwinPost at HTw
   clear hsz hla hlt' hlt hb1 hb2 hz1
   go_wp2_with fail
   refine HTw.out.mono ?_
   rintro e w2 ⟨t2, m2, rfl, ht2, hz2, hz3, hx2⟩
   have Ht2 := Lib.hid ht2
   have HB2 := Lib.hid (HB1.out.on hx2)
   have Hn2 := Lib.hid (show (∀ j, ShS S1 j → j ≠ t2 ∧ j ≠ m2) ∧ (∀ j, S1.R.D.sv.ownBlock = some j → j ≠ t2 ∧ j ≠ m2) ∧ v1.heap.size ≤ t2 ∧ v1.heap.size ≤ m2 by
    have h0 := HB1.out.ext.size
    refine ⟨fun j hj => ?_, fun j hj => ?_, by omega, by omega⟩
    ·have := HB1.out.sh.lt j hj; omega
    ·have := HB1.out.sh.rope.near j (.inr hj); omega)
   have HSe := Lib.hid (ssels_any S1 w2 HB2.out.sh HB2.out.q0 (by have := HB2.out.q1; omega))
   unfold NewRow at HSe
   rw [Hb1.out] at HSe
   clear HTw ht2 hz2 hz3 hx2 d1 hlb HB1
   go_wp2_with fail
   refine HSe.out.mono ?_
   rintro e w3 ⟨g3, c3, rfl, ho3, hx3⟩
   have Ho3 := Lib.hid ho3
   have HB3 := Lib.hid (HB2.out.on hx3)
   have Ht3 := Lib.hid (Ht2.out.ext hx3)
   have Hg3 := Lib.hid (show ¬ ShS S1 g3 ∧ g3 < w3.heap.size from ⟨HB2.out.sh.free (ho3.lt g3 rfl).1, (ho3.lt g3 rfl).2⟩)
   have HLn := Lib.hid (len_any S1.R w3 HB3.out.sh.rope)
   rw [size_of HB3.out.sh.text] at HLn
   have d0 := SheetAt.cell0 HB3.out.sh
   rw [Hb1.out] at d0
   have hlb := HB3.out.sh.blk.lt
   rw [Hb1.out] at hlb
   have HE3 := Lib.hid (editsN_any S1.s.size ae ce es w3 (by rw [HMl.out]; exact He.out.mod HB3.out.ext (fun _ _ f => f)) (by have := Hel.out; have := HMl.out; omega) (by have := Hz1.out; omega))
   have Hn := Lib.hid (show (editsN S1.s.size es).length ≤ 6 by rw [editsN_len]; have := Hel.out; have := HMl.out; omega)
   have Ht := Lib.hid (show ∀ e ∈ editsN S1.s.size es, e.t.size ≤ 60 from editsN_t (fun e he => by have := Het.out e he; omega))
   unfold Enc.Out at HE3
   rw [HMl.out] at HE3
   generalize editsN S1.s.size es = ES at *
   clear HSe ho3 hx3
   go_wp2_with fail
   refine HLn.out.mono ?_
   rintro e wz ⟨rfl, rfl⟩
   go_wp2_with fail
   refine HE3.out.mono ?_
   rintro e w4 ⟨v, rfl, ho, hx4⟩
   have Ho := Lib.hid ho
   obtain ⟨az, cz, rfl, hrz⟩ := Enc.owns_reads (E := edE) ho
   have HB5 := Lib.hid (HB3.out.on hx4)
   have Hfe := Lib.hid (show ∀ a, az = some a → ¬ ShS S1 a.block from fun a ha => HB3.out.sh.free (Ho.out.lt a.block (by rw [ha]; rfl)).1)
   have HDo := Lib.hid (HB5.out.alone.do (by omega) (by have := Hk8.out; omega) (by have := Hz1.out; omega) az cz ES hrz (by have := Hn.out; omega) (fun e he => by have := Ht.out e he; omega) (fun _ => Hfe.out))
   rw [Hb1.out] at HDo
   have Ht4 := Lib.hid (Ht3.out.ext hx4)
   have Ho4 := Lib.hid (ownsRow_mod Ho3.out hx4 (fun _ _ f => f))
   have Hg4 := Lib.hid (show ¬ ShS S1 g3 ∧ g3 < w4.heap.size from ⟨Hg3.out.1, Nat.lt_of_lt_of_le Hg3.out.2 hx4.size⟩)
   clear HE3 ho hrz hx4 HLn d0 hlb HB3 Ht3 Ho3 Hg3 Ht2 HB2
   go_wp2_with fail
   refine HDo.out.mono ?_
   rintro e w5 ⟨S2, a7, c7, rfl, -, -, hd2, e1, e2, e3, e4, hA5⟩
   have HA5 := Lib.hid hA5
   have E2 := Lib.hid e2
   have E3 := Lib.hid e3
   have E4 := Lib.hid e4
   have Hs2 := Lib.hid (hd2.sb.trans Hb1.out)
   have Hz4 := Lib.hid Ht4.out.blk.lt
   have Hz5 := Lib.hid Ht4.out.map.lt
   have Hn5 := Lib.hid (show (¬ ShS S2 t2) ∧ (¬ ShS S2 m2) ∧ (∀ j, S2.R.D.sv.ownBlock = some j → j ≠ t2 ∧ j ≠ m2) from
    ⟨fun e => (Hn2.out.1 _ (hd2.grew t2 Hz4.out e)).1 rfl, fun e => (Hn2.out.1 _ (hd2.grew m2 Hz5.out e)).2 rfl, fun j hj => Hn2.out.2.1 j (by rw [← hd2.sv]; exact hj)⟩)
   have Ht5 := Lib.hid (Ht4.out.mod hd2.mod (fun e => (Hn2.out.1 _ e).1 rfl) (fun e => (Hn2.out.1 _ e).2 rfl))
   have Ho5 := Lib.hid (own_mod Ho4.out hd2.mod (fun a ha e => by cases ha; exact Hg4.out.1 e))
   have Hz5' := Lib.hid (own_mod Ho.out hd2.mod Hfe.out)
   have Hp5 := Lib.hid (HB5.out.half hd2).1
   have HMy := Lib.hid (fun w' (h' : Ext w5 w') => cmay_any S1.s.size az cz ES w' ((Reads.own Hz5'.out).mod h' (fun _ _ f => f)) (by have := Hn.out; omega) (by omega) (by have := Hz1.out; omega) (fun e he => by have := Ht.out e he; omega))
   have dp := Hp5.out.blk.cell 0
   simp only [List.getElem?_toArray, List.getElem?_cons_zero] at dp
   rw [Hb2.out] at dp
   have hlp := Hp5.out.blk.lt
   rw [Hb2.out] at hlp
   have HQp := Lib.hid HB5.out.q0
   have HQ6 := Lib.hid HB5.out.q1
   have HQi := Lib.hid HB5.out.inq
   have HTk := Lib.hid HB5.out.tok
   clear HDo hd2 e1 e2 e3 e4 hA5 Ht4 Ho4 Hg4 Ho Hfe HB5
   generalize hC : mayE S1.s.size ES = C at *
   have HC := Lib.hid hC
   clear hC
   go_wp2_with fail
   refine (HMy.out _ (Mod.refl _ _)).mono ?_
   rintro e w6 ⟨rfl, hx6⟩
   clear dp hlp
   have bb : ((C == 0) != (C == 0)) = false := by simp
   have HA6 := Lib.hid (HA5.out.on hx6)
   have Ht6 := Lib.hid (Ht5.out.ext hx6)
   have Ho6 := Lib.hid (ownsRow_mod Ho5.out hx6 (fun _ _ f => f))
   have Hz6 := Lib.hid (ownsRow_mod Hz5'.out hx6 (fun _ _ f => f))
   obtain ⟨Bd, hBd⟩ : ∃ Bd : Int, Bd = 65536 + 2000000 * (k : Int) := ⟨_, rfl⟩
   rw [← hBd] at HA6 HTk
   have HBd := Lib.hid (show 65536 ≤ Bd ∧ Bd ≤ 800000000 by have := Hk8.out; omega)
   clear HMy HA5 Ht5 Ho5 Hz5' hx6 hBd Hp5 Hz4 Hz5
   go_upto_if 111 with fail
   go_cut [12] (fun v12 wx => ∃ (wn : World) (vq : Value), wn = wx ∧ vq = v12 ∧ Hid (MkAt v1 wn S2 (Bd + 2000000) t2 m2 vq))
   case first =>
    by_cases hz : C = 0
    ·subst hz
     obtain ⟨hrz, hgr⟩ := mayE_zero HC.out
     have hL : S2.L = moveT ES S1.L := by rw [E2.out]; unfold tabC; rw [if_pos HC.out]
     have hQ : S2.q = selsM ES S1.q := by rw [E4.out]; unfold selC; rw [if_pos HC.out]
     have HMv := Lib.hid (smove_any (some ⟨g3, 0, none⟩) c3 S1.q az cz ES w6 (Reads.own Ho6.out) HQp.out (by have := HQ6.out; omega) (Reads.own Hz6.out) (by have := Hn.out; omega) (fun e he => by
      obtain ⟨h2, h3, h4⟩ := rangedE_mem hrz e he
      have := Ht.out e he
      have := Hz1.out
      exact ⟨h2, h3, by omega, by omega⟩) (HQi.out.near (by have := Hz1.out; omega)))
     unfold NewRow at HMv
     have HL := Lib.hid hL
     have HQ := Lib.hid hQ
     have Hr6 := Lib.hid (rangedE_more hrz (show (S1.s.size : Int) ≤ 65536 by have := Hz1.out; omega))
     clear hL hQ hrz hgr
     go_wp2_with fail
     refine HMv.out.mono ?_
     rintro e w7 ⟨g7, c7', rfl, ho7, hx7⟩
     have Ho7 := Lib.hid ho7
     have HTm := Lib.hid (tmove_all t2 m2 S1.L S1.last Bd ES az cz w7 (Ht6.out.ext hx7) HTk.out HBd.out.1 (by have := HBd.out; omega) (Reads.own (ownsRow_mod Hz6.out hx7 (fun _ _ f => f))) (by have := Hn.out; omega) (fun e he => by have := Ht.out e he; omega) (fun _ a ha => own_nottab (ownsRow_mod Hz6.out hx7 (fun _ _ f => f)) (Ht6.out.ext hx7) (by decide) a.block (by rw [ha]; rfl)))
     unfold MovePost at HTm
     have HA7 := Lib.hid (HA6.out.on hx7)
     have Ht7 := Lib.hid (Ht6.out.ext hx7)
     clear HMv ho7 hx7 Ht6 Ho6 Hz6 HA6
     go_wp2_with fail
     refine HTm.out.mono ?_
     intro e w8 hpost
     obtain ⟨rfl, ht8, hm8⟩ : e = .returned (.int .i64 0) ∧ TabAt w8 t2 m2 (moveT ES S1.L) S1.last ∧ Mod (tabS t2 m2) w7 w8 := by
      rcases hpost with ⟨_, h1, h2, h3⟩ | ⟨h1, _⟩
      ·exact ⟨h1, h2, h3⟩
      ·exact absurd Hr6.out h1
     have HM := Lib.hid (show MkAt v1 w8 S2 (Bd + 2000000) t2 m2 (.slice (some ⟨g7, 0, none⟩) (selsM ES S1.q).length c7') from
      ⟨HA7.out.beside Ht7.out Hn5.out.1 Hn5.out.2.1 Hn5.out.2.2 Hn2.out.2.2 hm8, by rw [HL.out, E3.out]; exact ht8, ⟨some ⟨g7, 0, none⟩, c7', by rw [HQ.out], by rw [HQ.out]; exact Reads.own (own_mod Ho7.out hm8 (fun a ha => own_nottab Ho7.out Ht7.out (by decide) a.block (by rw [ha]; rfl)))⟩⟩)
     clear hpost ht8 hm8 HTm
     go_wp2_with fail
     go_meet
     case rel => exact ⟨_, _, rfl, rfl, HM⟩
    ·have b1 : (C == 0) = false := by simpa using hz
     have hL : S2.L = S1.L := by rw [E2.out]; unfold tabC; rw [if_neg (by rw [HC.out]; exact hz)]
     have hQ : S2.q = S1.q := by rw [E4.out]; unfold selC; rw [if_neg (by rw [HC.out]; exact hz)]
     have HM := Lib.hid (show MkAt v1 w6 S2 (Bd + 2000000) t2 m2 (.slice (some ⟨g3, 0, none⟩) S1.q.length c3) from
      ⟨HA6.out, by rw [hL, E3.out]; exact Ht6.out, ⟨some ⟨g3, 0, none⟩, c3, by rw [hQ], by rw [hQ]; exact Reads.own Ho6.out⟩⟩)
     clear hz hL hQ
     go_wp2_with fail
     go_meet
     case rel => exact ⟨_, _, rfl, rfl, HM⟩
   case rest =>
    obtain ⟨wn, vq, rfl, rfl, HM⟩ := hcut
    clear bb HA6 Ht6 Ho6 Hz6 HTk HBd E2 E3 E4 Hn5 Hn2 HQp HQ6 HQi HC Hn Ht
    have HId := Lib.hid (ids_any t2 m2 S2.last S2.L wn HM.out.tab.blk HM.out.tab.map HM.out.al.tok.rise (by have := HM.out.al.tok.len; omega))
    unfold Enc.Out at HId
    obtain ⟨N3, hN3⟩ : ∃ N3, N3 = S2.L.length := ⟨_, rfl⟩
    have hil : (idsR S2.L).length = N3 := by rw [hN3]; exact idsR_len S2.L
    have HN3 := Lib.hid hN3
    have Hil := Lib.hid hil
    have hn256 : N3 ≤ 256 := by rw [hN3]; exact HM.out.al.tok.len
    rw [hil] at HId
    clear hN3 hil
    go_wp2_with fail
    refine HId.out.mono ?_
    rintro e wa ⟨v, rfl, hoi, hxa⟩
    obtain ⟨ai, ci, rfl, hri⟩ := Enc.owns_reads (E := inE) hoi
    have HrI := Lib.hid hri
    have Hal := Lib.hid (HM.out.al.on hxa)
    have Htb := Lib.hid (HM.out.tab.ext hxa)
    obtain ⟨aq, cq, hvq, hrq⟩ := HM.out.q
    subst hvq
    have Hrq := Lib.hid (hrq.mod hxa (fun _ _ f => f))
    have HT := Lib.hid HM.out.al.tok
    clear HId hoi hri hxa hrq HM
    go_wp2_with fail
    go_loopw [17] (fun i wr => ∃ j : Nat, j ≤ N3 ∧ i = .int .i64 j ∧ Ext wa wr) (fun i _ => N3 - (intOf i).toNat)
    case atStart => exact ⟨0, by omega, rfl, Mod.refl _ _⟩
    case round =>
     obtain ⟨j, hj, rfl, hx⟩ := hrel
     by_cases hlt : j < N3
     ·have hlt' : (j : Int) < (N3 : Int) := by omega
      have hj0 : (0 : Int) ≤ (j : Int) := by omega
      have HLt := Lib.hid hlt
      obtain ⟨bi, oi, rfl⟩ := HrI.out.some (by omega)
      have hmL : j < S2.L.length := by rw [← HN3.out]; exact hlt
      have hkL : S2.L[j]? = some (S2.L[j]'hmL) := List.getElem?_eq_getElem _
      have hidK : (idsR S2.L)[j]? = some (S2.L[j]'hmL).1 := by unfold idsR; rw [List.getElem?_map, hkL]; rfl
      have hgr := getR_of_mem HT.out.once (show ((S2.L[j]'hmL).1, (S2.L[j]'hmL).2) ∈ S2.L from List.getElem_mem _)
      have hib := HT.out.ids _ (List.getElem_mem hmL)
      have hl0 := HT.out.last0
      generalize S2.L[j]'hmL = z at *
      obtain ⟨id1, ra, rb, rp, rq, ru⟩ := z
      simp only at hidK hgr hib
      have HG1 := Lib.hid (fun w' (h' : Ext wa w') => tget_any t2 m2 S2.L S2.last id1 w' (Htb.out.ext h') (id_wf (by omega) (by omega)))
      have HG2 := Lib.hid (fun w' (h' : Ext wa w') => tget_any S2.tb S2.mb S2.L S2.last id1 w' (Hal.out.sh.tab.ext h') (id_wf (by omega) (by omega)))
      rw [hgr] at HG1 HG2
      rw [show (some (⟨ra, rb, rp, rq, ru⟩ : Rg)).getD rg0 = ⟨ra, rb, rp, rq, ru⟩ from rfl] at HG1 HG2
      unfold rgV at HG1 HG2
      simp only [Option.isSome_some] at HG1 HG2
      have HidK := Lib.hid hidK
      have q0 := rdIn_at (HrI.out.mod hx (fun _ _ f => f)) hidK
      have hbl := World.block_lt_of_cell? wr _ q0
      clear hgr hkL hidK hib hl0 hmL
      go_wp2_with fail
      refine (HG1.out _ hx).mono ?_
      rintro e wb ⟨rfl, hxb⟩
      clear q0 hbl
      go_upto_region 26 with fail
      obtain ⟨wc, hwc⟩ : ∃ wc, wc = wb.alloc (.cells #[.int .i64 ra, .int .i64 rb, .bool rp, .bool rq, .int .i64 ru] 66) := ⟨_, rfl⟩
      have hxc : Ext wa wc := by rw [hwc]; exact (hx.ext_trans hxb).alloc _
      have Hbc := Lib.hid (show Blk wc wb.heap.size 66 #[.int .i64 ra, .int .i64 rb, .bool rp, .bool rq, .int .i64 ru] by rw [hwc]; exact Blk.new _ _ _)
      rw [← hwc]
      clear hwc
      have HS := Lib.hid (fun w' (h' : Ext wc w') => (⟨by have h := SheetAt.cell1 (Hal.out.sh.ext (hxc.ext_trans h')); rw [Hs2.out] at h; exact h, rdIn_at (HrI.out.mod (hxc.ext_trans h') (fun _ _ f => f)) HidK.out, trivial, trivial⟩ : w'.cell? ⟨S.sb, 1, none⟩ = some (.pointer (some ⟨S2.tb, 0, none⟩)) ∧ w'.cell? ⟨bi, oi + j, none⟩ = some (.int .i64 id1) ∧ True ∧ True))
      refine wp_region_E (by kernel_rfl) ?_
      refine wpE_t 0 137 (v := ?_) (fun w' hw' => qat_value ?_) ?_
      rotate_left
      ·go_simp
       rfl
      simp only [fr1, fr2, fr3, fr4]
      refine wpE_t 1 138 (v := ?_) (fun w' hw' => qat_value ?_) ?_
      rotate_left
      ·go_simp
       rfl
      simp only [fr1, fr2, fr3, fr4]
      refine wpE_t 2 139 (v := ?_) (fun w' hw' => qat_value ?_) ?_
      rotate_left
      ·go_simp
       rfl
      simp only [fr1, fr2, fr3, fr4]
      refine wpE_t 3 140 (v := ?_) (fun w' hw' => ?_) ?_
      rotate_left
      ·obtain ⟨r0, r1, r2, r3⟩ := HS.out w' hw'
       refine qat_value ?_
       go_simp
       rfl
      simp only [fr1, fr2, fr3, fr4]
      refine wpE_t 4 141 (v := ?_) (fun w' hw' => qat_value ?_) ?_
      rotate_left
      ·go_simp
       rfl
      simp only [fr1, fr2, fr3, fr4]
      refine wpE_t 5 142 (v := ?_) (fun w' hw' => qat_value ?_) ?_
      rotate_left
      ·go_simp
       rfl
      simp only [fr1, fr2, fr3, fr4]
      refine wpE_t 6 143 (v := ?_) (fun w' hw' => qat_value ?_) ?_
      rotate_left
      ·go_simp
       rfl
      simp only [fr1, fr2, fr3, fr4]
      refine wpE_t 7 144 (v := ?_) (fun w' hw' => ?_) ?_
      rotate_left
      ·obtain ⟨r0, r1, r2, r3⟩ := HS.out w' hw'
       refine qat_value ?_
       go_simp
       rfl
      simp only [fr1, fr2, fr3, fr4]
      refine wpE_t 8 145 (v := ?_) (fun w' hw' => ?_) ?_
      rotate_left
      ·refine qat_enter (by go_simp; exact ⟨rfl, rfl⟩) ?_
       exact HG2.out _ (hxc.ext_trans hw')
      simp only [fr1, fr2, fr3, fr4]
      refine wpE_t 9 136 (v := ?_) (fun w' hw' => qat_value ?_) ?_
      rotate_left
      ·go_simp
       rfl
      simp only [fr1, fr2, fr3, fr4]
      refine wpE_t 10 146 (v := ?_) (fun w' hw' => qat_value ?_) ?_
      rotate_left
      ·go_simp
       rfl
      simp only [fr1, fr2, fr3, fr4]
      refine wpE_t 11 147 (v := ?_) (fun w' hw' => qat_value ?_) ?_
      rotate_left
      ·go_simp
       rfl
      simp only [fr1, fr2, fr3, fr4]
      refine wpE_boxT (x := #[.int .i64 ra, .int .i64 rb, .bool rp, .bool rq, .int .i64 ru]) box_rg 12 13 20 146 rfl rfl ⟨rfl, rfl⟩ ⟨rfl, rfl⟩ ⟨rfl, rfl⟩ (by kernel_rfl) (by kernel_rfl) ⟨by simp, by decide⟩ rfl rfl (by intro u hu; simp at hu; rcases hu with rfl | rfl | rfl | rfl | rfl <;> rfl) (ext_draw _) ?_
      intro wd bx hxd hbl hbu
      simp only [fr1, fr2, fr3, fr4]
      refine wpE_t 14 21 (v := ?_) (fun w' hw' => qat_value ?_) ?_
      rotate_left
      ·go_simp
       rfl
      simp only [fr1, fr2, fr3, fr4]
      refine wpE_done (by kernel_rfl) (fun wz hwz => ?_) _
      have hyz := hxc.ext_trans (hxd.ext_trans hwz)
      have hb1 := Hbc.out.mod (hxd.ext_trans hwz) (fun f => f)
      have hb2 := hbu.mod hwz (fun f => f)
      have c0 : wz.cell? ⟨wb.heap.size, 0, none⟩ = some (.int .i64 ra) := hb1.cell 0
      have c1 : wz.cell? ⟨wb.heap.size, 1, none⟩ = some (.int .i64 rb) := hb1.cell 1
      have c2 : wz.cell? ⟨wb.heap.size, 2, none⟩ = some (.bool rp) := hb1.cell 2
      have c3 : wz.cell? ⟨wb.heap.size, 3, none⟩ = some (.bool rq) := hb1.cell 3
      have c4 : wz.cell? ⟨wb.heap.size, 4, none⟩ = some (.int .i64 ru) := hb1.cell 4
      have e0 : wz.cell? ⟨bx, 0, none⟩ = some (.int .i64 ra) := hb2.cell 0
      have e1 : wz.cell? ⟨bx, 1, none⟩ = some (.int .i64 rb) := hb2.cell 1
      have e2 : wz.cell? ⟨bx, 2, none⟩ = some (.bool rp) := hb2.cell 2
      have e3 : wz.cell? ⟨bx, 3, none⟩ = some (.bool rq) := hb2.cell 3
      have e4 : wz.cell? ⟨bx, 4, none⟩ = some (.int .i64 ru) := hb2.cell 4
      have l1 := hb1.lt
      have l2 := hb2.lt
      clear HS HG1 HG2 hxd hwz hbu hbl hb1 hb2 hxc hxb hx Hbc
      go_wp2_with fail
      go_roundw
      case rel => exact ⟨j + 1, HLt.out, by go_num, hyz⟩
      case measure => have := HLt.out; simp [intOf]; omega
     ·have hlt' : ¬ (j : Int) < (N3 : Int) := by omega
      have Hall := Lib.hid (Hal.out.on hx)
      have HSe := Lib.hid (ssels_any S2 wr Hall.out.sh Hall.out.q0 (by have := Hall.out.q1; omega))
      unfold NewRow at HSe
      rw [Hs2.out] at HSe
      have HSa := Lib.hid (fun a b cc d w' (ha : Reads w' 2 a S2.q.length (prCells S2.q)) (hb : Reads w' 2 b S2.q.length (prCells S2.q)) => selsSame a b cc d S2.q w' ha hb (by have := Hall.out.q1; omega))
      have Hrq2 := Lib.hid (Hrq.out.mod hx (fun _ _ f => f))
      have HrI2 := Lib.hid (HrI.out.mod hx (fun _ _ f => f))
      clear hlt hx Hal Htb Hrq HrI
      go_wp2_with fail
      refine HSe.out.mono ?_
      rintro e wb ⟨gs, cs, rfl, hos, hxb⟩
      have Hos := Lib.hid (Reads.own hos)
      have Hrq3 := Lib.hid (Hrq2.out.mod hxb (fun _ _ f => f))
      have HrI3 := Lib.hid (HrI2.out.mod hxb (fun _ _ f => f))
      have Hal3 := Lib.hid (Hall.out.on hxb)
      clear hos
      go_wp2_with fail
      refine (HSa.out _ _ _ _ _ Hos.out Hrq3.out).mono ?_
      rintro e wc ⟨rfl, hxc⟩
      have Hal4 := Lib.hid (Hal3.out.on hxc)
      have HrI4 := Lib.hid (HrI3.out.mod hxc (fun _ _ f => f))
      have d1 := Hal4.out.sh.cell1
      rw [Hs2.out] at d1
      have hlb := Hal4.out.sh.blk.lt
      rw [Hs2.out] at hlb
      have HId := Lib.hid (ids_any S2.tb S2.mb S2.last S2.L wc Hal4.out.sh.tab.blk Hal4.out.sh.tab.map HT.out.rise (by have := HT.out.len; omega))
      unfold Enc.Out at HId
      rw [Hil.out] at HId
      clear HSe HSa Hos Hrq3 HrI3 Hal3 Hall Hrq2 HrI2
      go_wp2_with fail
      refine HId.out.mono ?_
      rintro e wd ⟨v2, rfl, ho2, hxd⟩
      obtain ⟨aj, cj, rfl, hrj⟩ := Enc.owns_reads (E := inE) ho2
      have hint := intsSame (idsR S2.L) aj ai cj ci wd (by rw [Hil.out]; exact hrj) (by rw [Hil.out]; exact HrI4.out.mod hxd (fun _ _ f => f)) (by rw [Hil.out]; omega)
      rw [Hil.out] at hint
      have Hint := Lib.hid hint
      have HX := Lib.hid (Hal4.out.ext.ext_trans hxd)
      clear hint d1 hlb ho2 hrj HId
      go_wp2_with fail
      refine Hint.out.mono ?_
      rintro e we ⟨rfl, hxe⟩
      go_wp2_with fail
      refine (awakeS_any _).mono ?_
      rintro e wf ⟨rfl, hxf⟩
      go_wp2_with fail
      go_ret
      exact ⟨rfl, HX.out.ext_trans (hxe.ext_trans hxf)⟩
theorem sheetMarks_calls (w : World) (s : ByteArray) (_ : s.size ≤ 9223372036854775807) (ao : Option Addr) (cap : Nat) (L : List Ds) (hr : Reads w 7 ao L.length (dsE.cells L)) (hm : L.length ≤ maxLen) (hok : ∀ x ∈ L, DsOk w x) (ae : Option Addr) (ce : Nat) (es : List Ed) (he : Reads w 3 ae es.length (edE.cells es)) (hem : es.length ≤ maxLen) (_ : ∀ e ∈ es, e.t.size ≤ maxLen ∧ (Lit.int .i64 e.a).wf = true ∧ (Lit.int .i64 e.b).wf = true) :
  Calls Tryz.prog 10 #[.string s, .slice ao L.length cap, .slice ae es.length ce] w fun e w' => e = .returned (.bool true) ∧ Ext w w' := by
 by_cases h1 : s.size ≤ 80
 ·by_cases h2 : L.length ≤ 8
  ·cases hmu : muchS L with
   | false =>
    cases hme : MuchB 6 60 es with
    | false => exact sheetMarks_any w s ao cap L ae ce es h1 hr hok h2 hmu he hme
    | true =>
     have HM := muchS_any 8 ao cap L w hr hok hm (by omega)
     rw [if_neg (by omega), hmu] at HM
     have HME := MuchE_any 6 60 ae ce es w he hem (by omega) (by omega) (by omega)
     rw [hme] at HME
     clear hr hok he
     have i1 : ¬ (80 : Int) < (s.size : Int) := by omega
     have i2 : decide ((80 : Int) < (s.size : Int)) = false := decide_eq_false i1
     have HM' := Lib.hid HM
     have HME' := Lib.hid HME
     clear HM HME
     go_enter Tryz.func10, Tryz.ntmps10
     go_wp2_with fail
     refine HM'.out.mono ?_
     rintro e v0 ⟨rfl, rfl⟩
     go_wp2_with fail
     refine HME'.out.mono ?_
     rintro e v1 ⟨rfl, rfl⟩
     go_wp2_with fail
     refine (awakeS_any _).mono ?_
     rintro e w9 ⟨rfl, hx9⟩
     go_wp2_with fail
     go_ret
     exact ⟨rfl, hx9⟩
   | true =>
    have HM := muchS_any 8 ao cap L w hr hok hm (by omega)
    rw [if_neg (by omega), hmu] at HM
    clear hr hok he
    have i1 : ¬ (80 : Int) < (s.size : Int) := by omega
    have i2 : decide ((80 : Int) < (s.size : Int)) = false := decide_eq_false i1
    have HM' := Lib.hid HM
    clear HM
    go_enter Tryz.func10, Tryz.ntmps10
    go_wp2_with fail
    refine HM'.out.mono ?_
    rintro e v0 ⟨rfl, rfl⟩
    go_wp2_with fail
    refine (awakeS_any _).mono ?_
    rintro e w9 ⟨rfl, hx9⟩
    go_wp2_with fail
    go_ret
    exact ⟨rfl, hx9⟩
  ·have HM := muchS_any 8 ao cap L w hr hok hm (by omega)
   rw [if_pos (by omega)] at HM
   clear hr hok he
   have i1 : ¬ (80 : Int) < (s.size : Int) := by omega
   have i2 : decide ((80 : Int) < (s.size : Int)) = false := decide_eq_false i1
   have HM' := Lib.hid HM
   clear HM
   go_enter Tryz.func10, Tryz.ntmps10
   go_wp2_with fail
   refine HM'.out.mono ?_
   rintro e v0 ⟨rfl, rfl⟩
   go_wp2_with fail
   refine (awakeS_any _).mono ?_
   rintro e w9 ⟨rfl, hx9⟩
   go_wp2_with fail
   go_ret
   exact ⟨rfl, hx9⟩
 ·have i1 : (80 : Int) < (s.size : Int) := by omega
  have i2 : decide ((80 : Int) < (s.size : Int)) = true := decide_eq_true i1
  clear hr hok he
  go_enter Tryz.func10, Tryz.ntmps10
  go_wp2_with fail
  refine (awakeS_any _).mono ?_
  rintro e w1 ⟨rfl, hx⟩
  go_wp2_with fail
  go_ret
  exact ⟨rfl, hx⟩
end Go.Proofs.YthlmgoagnfkhdaaGreat

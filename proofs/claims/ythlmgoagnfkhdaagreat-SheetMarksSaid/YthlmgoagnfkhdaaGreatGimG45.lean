/- A deed of gimletlaw10, done to a sheet and to the document's paper: selections picked, moved, a mark added. Conditions: as in GimDoesS. -/
import Derived.Test.YthlmgoagnfkhdaaGreatGimG44
import Derived.Test.YthlmgoagnfkhdaaGreatGimG32
import Derived.Test.YthlmgoagnfkhdaaGreatGimG38
import Derived.Test.YthlmgoagnfkhdaaGreatGimG05
import Derived.Test.YthlmgoagnfkhdaaGreatGimG40
set_option maxHeartbeats 6400000
set_option maxRecDepth 1000000
set_option linter.unusedVariables false
set_option linter.unusedSimpArgs false
namespace Go.Proofs.YthlmgoagnfkhdaaGreat
open Go.RowKit Go.Gim
theorem edits_none (w : World) : Calls Tryz.prog 35 #[.slice none 0 0, .slice none 0 0] w fun e w' => e = .returned (.bool true) ∧ Ext w w' :=
 editsSame none none 0 0 [] w (Enc.reads_none (E := edE)) (Enc.reads_none (E := edE)) (by simp)
theorem Both.pick {w0 w w1 : World} {S S' : Sh} {p p' : Pp} {Bd : Int} {w2 : World} (h : Both w0 w S p Bd 6) (hd : ShDone S S' w w1) (e1 : S'.s = S.s) (e2 : S'.L = S.L) (e3 : S'.last = S.last) (hp : PapAt w2 w0.heap.size p' S.s S'.q S.L S.last) (hm : Mod (PapS w0.heap.size w1) w1 w2) (q0 : 0 < S'.q.length) (q1 : S'.q.length ≤ 6) (hq : InT S.s.size S'.q) :
  Both w0 w2 S' p' (Bd + 2000000) 6 :=
 h.whole hd (by rw [e1, e2, e3]; exact hp) hm (by rw [e2, e3]; exact h.tok.mono (by omega)) (by have := h.bd; omega) q0 q1 (by rw [e1]; exact hq)
theorem doesS_select (x : Ds) (hk : ((lowN x.k 8 : Nat) : Int) = 3) (w0 w : World) (S : Sh) (p : Pp) (Bd : Int) (h : Both w0 w S p Bd 6) (hs : S.s.size ≤ 60000) (hok : DsOk w0 x) (hf : DsFit x) :
  Calls Tryz.prog 36 #[.pointer (some ⟨S.sb, 0, none⟩), .pointer (some ⟨p.pb, 0, none⟩), dsV x] w (DoesPost w0 S p Bd) := by
 have HP := Lib.hid (fun w' (h' : Ext w0 w') => picksN_any (S.s.size + 1) x.so x.scap x.sl w' (hok.sd.mod h' (fun _ _ f => f)) (by have := hf.sl; omega) (by omega))
 have hql : (picksN (S.s.size + 1) x.sl).length = x.sl.length := picksN_len _ _
 have hl6 := hf.sl
 have HN := Lib.hid (fun a c w' (h' : Reads w' 2 a (picksN (S.s.size + 1) x.sl).length (prCells (picksN (S.s.size + 1) x.sl))) => refNorm_any S.s.size a c (picksN (S.s.size + 1) x.sl) w' h' (by omega))
 have HSl := Lib.hid (fun a c w' (hS : SheetAt w' S) (h' : Reads w' 2 a (picksN (S.s.size + 1) x.sl).length (prCells (picksN (S.s.size + 1) x.sl))) => sselect_any S a c (picksN (S.s.size + 1) x.sl) w' hS h' (by omega))
 generalize picksN (S.s.size + 1) x.sl = l at *
 rw [hql] at HN HSl
 have hol := orderN_len l
 have Hin := Lib.hid (orderN_inT (n := S.s.size) (l := l))
 have Hpos := Lib.hid (fun (hz : normE S.s.size l = 0) => orderN_pos (normE_ok hz).1)
 have HB := Lib.hid h
 unfold NormPost at HN
 have Hln := Lib.hid (show (orderN l).length ≤ 6 by omega)
 have Hsz := Lib.hid hs
 clear h hok hf hql hol hl6
 have L8 := lowC x.k 8 8 rfl (by omega) (by omega)
 rw [hk] at L8
 have HL := Lib.hid L8
 obtain ⟨u, hu⟩ : ∃ u, u = w.alloc (.cells #[.int .i64 x.k, .int .i64 x.a, .int .i64 x.b, .bool x.p, .string x.t, .slice x.ao x.es.length x.cap, .slice x.so x.sl.length x.scap] 79) := ⟨_, rfl⟩
 have hxu : Ext w u := by rw [hu]; exact (Mod.refl _ w).alloc _
 have hbd : Blk u w.heap.size 79 #[.int .i64 x.k, .int .i64 x.a, .int .i64 x.b, .bool x.p, .string x.t, .slice x.ao x.es.length x.cap, .slice x.so x.sl.length x.scap] := by rw [hu]; exact Blk.new w _ _
 have HB1 := Lib.hid (HB.out.on hxu)
 try unfold dsV
 clear L8 hk
 go_enter Tryz.func36, Tryz.ntmps36
 go_upto_region 1 with fail
 rw [← hu]
 clear hu
 have c0 := hbd.cell 0
 have c1 := hbd.cell 1
 have c2 := hbd.cell 2
 have c3 := hbd.cell 3
 have c4 := hbd.cell 4
 have c5 := hbd.cell 5
 have c6 := hbd.cell 6
 simp only [List.getElem?_toArray, List.getElem?_cons_zero, List.getElem?_cons_succ] at c0 c1 c2 c3 c4 c5 c6
 have hltd := hbd.lt
 have d0 := HB1.out.pap.blk.cell 0
 simp only [List.getElem?_toArray, List.getElem?_cons_zero] at d0
 have hlp := HB1.out.pap.blk.lt
 go_wp2_with fail
 refine (HL.out _).mono ?_
 rintro e v0 ⟨rfl, rfl⟩
 have HP1 := Lib.hid (HP.out v0 HB1.out.ext)
 have Hbx := Lib.hid hbd
 go_wp2_with fail
 rw [show (S.s.size : Int) + 1 = ((S.s.size + 1 : Nat) : Int) from by omega]
 refine HP1.out.mono ?_
 rintro e w1 ⟨v, rfl, ho1, hx1⟩
 obtain ⟨a1, c1', rfl, hr1⟩ := owns_reads ho1
 have HN1 := Lib.hid (HN.out a1 c1' w1 hr1)
 clear c0 c1 c2 c3 c4 c5 c6 hltd d0 hlp HP1 HN hxu hbd ho1 hr1
 go_wp2_with fail
 refine HN1.out.mono ?_
 rintro e w2 ⟨vq, rfl, hoq, hx2⟩
 have hy2 := hx1.ext_trans hx2
 have HB2 := Lib.hid (HB1.out.on hy2)
 have Hoq := Lib.hid (show w2.ownsRow v0.heap.size 47 2 vq _ _ from ownsRow_base hoq hx1.size)
 have HP2 := Lib.hid (HP.out w2 HB2.out.ext)
 have hb2 := Hbx.out.mod hy2 (fun f => f)
 have c6 : w2.cell? ⟨w.heap.size, 6, none⟩ = some (.slice x.so x.sl.length x.scap) := hb2.cell 6
 have hltd := hb2.lt
 clear HN1 HP hoq hx1 hx2 hy2 hb2 Hbx
 go_wp2_with fail
 rw [show (S.s.size : Int) + 1 = ((S.s.size + 1 : Nat) : Int) from by omega]
 refine HP2.out.mono ?_
 rintro e w3 ⟨v, rfl, ho3, hx3⟩
 obtain ⟨a3, c3', rfl, hr3⟩ := owns_reads ho3
 have HB3 := Lib.hid (HB2.out.on hx3)
 have HS3 := Lib.hid (HSl.out a3 c3' w3 HB3.out.sh hr3)
 have Hoq3 := Lib.hid (ownsRow_mod Hoq.out hx3 (fun _ _ f => f))
 clear HP2 HSl ho3 hr3 hx3 c6 hltd HB2 Hoq
 go_wp2_with fail
 refine HS3.out.mono ?_
 rintro e w4 ⟨S', rfl, hd, e1, e2, e3, e4⟩
 obtain ⟨hp4, _, _⟩ := HB3.out.half hd
 have Hd := Lib.hid hd
 have Hp4 := Lib.hid hp4
 have E1 := Lib.hid e1
 have E2 := Lib.hid e2
 have E3 := Lib.hid e3
 have Hoq4 := Lib.hid (ownsRow_mod Hoq3.out hd.mod (fun k hk e => by
  have h1 := (Hoq3.out.lt k hk).1
  have h2 := HB1.out.sh.lt k e
  omega))
 have hlp : p.pb < w4.heap.size := hp4.blk.lt
 have fp := hp4.blk.free 1
 have d1 := hp4.blk.cell 1
 simp only [List.getElem?_toArray, List.getElem?_cons_zero, List.getElem?_cons_succ] at d1
 clear HS3 Hoq3 hp4 hd e1 e2 e3
 by_cases hz : normE S.s.size l = 0
 ·rw [if_pos hz] at e4
  have E4 := Lib.hid e4
  have hnl := normL_ok hz
  rw [hnl] at Hoq4
  have H1 := Lib.hid (Hin.out hz)
  have H2 := Lib.hid (Hpos.out hz)
  rw [hz]
  generalize orderN l = Q at *
  obtain ⟨aq, cq, hvq, _, _⟩ := ownsRow_shape Hoq4.out
  subst hvq
  clear hz hnl e4 Hin Hpos
  go_upto_region 40 with fail
  obtain ⟨w5, hw5⟩ : ∃ w5, w5 = w4.setCell ⟨p.pb, 1, none⟩ (.slice aq Q.length cq) := ⟨_, rfl⟩
  rw [← hw5]
  have hp5 := Hp4.out.picked Hoq4.out
  rw [← hw5] at hp5
  obtain ⟨hp5, hm5⟩ := hp5
  have HW := Lib.hid (HB3.out.pick Hd.out E1.out E2.out E3.out (by rw [E4.out]; exact hp5) hm5 (by rw [E4.out]; exact H2.out) (by rw [E4.out]; exact Hln.out) (by rw [E4.out]; exact H1.out))
  clear hw5 hp5 hm5 d1 fp hlp
  go_wp2_with fail
  refine (edits_none _).mono ?_
  rintro e w6 ⟨rfl, hx6⟩
  go_wp2_with fail
  go_ret
  exact ⟨rfl, S', _, HW.out.on hx6, by rw [E1.out]; omega, Hd.out.sb, rfl, Hd.out.sv, Hd.out.tabs.1, Hd.out.tabs.2, by rw [E3.out]; omega⟩
 ·rw [if_neg hz] at e4
  have HW := Lib.hid (HB3.out.pick Hd.out E1.out E2.out E3.out (by rw [e4]; exact Hp4.out) (Mod.refl _ w4) (by rw [e4]; exact HB3.out.q0) (by rw [e4]; exact HB3.out.q1) (by rw [e4]; exact HB3.out.inq))
  obtain ⟨aq, cq, hvq, _, _⟩ := ownsRow_shape Hoq4.out
  subst hvq
  have hz1 : (normE S.s.size l == 0) = false := by simpa using hz
  generalize normE S.s.size l = C at *
  have hcc : (C == C) = true := by simp
  clear e4 Hin Hpos hz Hoq4
  go_wp2_with fail
  refine (edits_none _).mono ?_
  rintro e w6 ⟨rfl, hx6⟩
  go_wp2_with fail
  go_ret
  exact ⟨rfl, S', p, HW.out.on hx6, by rw [E1.out]; omega, Hd.out.sb, rfl, Hd.out.sv, Hd.out.tabs.1, Hd.out.tabs.2, by rw [E3.out]; omega⟩
theorem doesS_go (m : Int) (hm : m = 4 ∨ m = 5) (x : Ds) (hk : ((lowN x.k 8 : Nat) : Int) = m) (w0 w : World) (S : Sh) (p : Pp) (Bd : Int) (h : Both w0 w S p Bd 6) (hs : S.s.size ≤ 60000) :
  Calls Tryz.prog 36 #[.pointer (some ⟨S.sb, 0, none⟩), .pointer (some ⟨p.pb, 0, none⟩), dsV x] w (DoesPost w0 S p Bd) := by
 have BW := lowN_lt x.a 12 (by omega)
 have LW := Lib.hid (lowC x.a 12 12 rfl (by omega) (by omega))
 generalize lowN x.a 12 = W at *
 have HG := Lib.hid (fun a c w' (h' : Reads w' 2 a S.q.length (prCells S.q)) => refGo_any S.s a c S.q (W : Int) x.p w' (by omega) h' (by have := h.q1; omega))
 have HSg := Lib.hid (fun w' (hS : SheetAt w' S) => sgo_any S (W : Int) x.p w' hS (by have := h.q1; omega))
 have Hin := Lib.hid (show InT S.s.size (goL S.s.data.toList (W : Int) x.p S.q) from goL_in)
 have Hln := Lib.hid (Nat.le_trans (goL_len S.s.data.toList (W : Int) x.p S.q) h.q1)
 have Hpos := Lib.hid (show goE S.s.size (W : Int) S.q = 0 → 0 < (goL S.s.data.toList (W : Int) x.p S.q).length from fun h => goL_pos h)
 unfold GoPost at HG
 generalize goL S.s.data.toList (W : Int) x.p S.q = Q at *
 generalize goE S.s.size (W : Int) S.q = C at *
 have HB := Lib.hid h
 clear h
 have L8 := lowC x.k 8 8 rfl (by omega) (by omega)
 rw [hk] at L8
 have HL := Lib.hid L8
 obtain ⟨u, hu⟩ : ∃ u, u = w.alloc (.cells #[.int .i64 x.k, .int .i64 x.a, .int .i64 x.b, .bool x.p, .string x.t, .slice x.ao x.es.length x.cap, .slice x.so x.sl.length x.scap] 79) := ⟨_, rfl⟩
 have hxu : Ext w u := by rw [hu]; exact (Mod.refl _ w).alloc _
 have hbd : Blk u w.heap.size 79 #[.int .i64 x.k, .int .i64 x.a, .int .i64 x.b, .bool x.p, .string x.t, .slice x.ao x.es.length x.cap, .slice x.so x.sl.length x.scap] := by rw [hu]; exact Blk.new w _ _
 have HB1 := Lib.hid (HB.out.on hxu)
 try unfold dsV
 clear L8 hk
 go_enter Tryz.func36, Tryz.ntmps36
 go_upto_region 1 with fail
 rw [← hu]
 clear hu
 have c0 := hbd.cell 0
 have c1 := hbd.cell 1
 have c2 := hbd.cell 2
 have c3 := hbd.cell 3
 have c4 := hbd.cell 4
 have c5 := hbd.cell 5
 have c6 := hbd.cell 6
 simp only [List.getElem?_toArray, List.getElem?_cons_zero, List.getElem?_cons_succ] at c0 c1 c2 c3 c4 c5 c6
 have hltd := hbd.lt
 have d0 := HB1.out.pap.blk.cell 0
 simp only [List.getElem?_toArray, List.getElem?_cons_zero] at d0
 have hlp := HB1.out.pap.blk.lt
 go_wp2_with fail
 refine (HL.out _).mono ?_
 rintro e v0 ⟨rfl, rfl⟩
 rcases hm with rfl | rfl
 all_goals
  have Hbx := Lib.hid hbd
  go_wp2_with fail
  refine (LW.out _).mono ?_
  rintro e v1 ⟨rfl, rfl⟩
  have HS := Lib.hid (fun w' (h' : Ext v1 w') => (⟨(HB1.out.pap.ext h').blk.cell 0, (hbd.mod h' (fun f => f)).cell 3, (HB1.out.pap.ext h').blk.cell 1, trivial⟩ : w'.cell? ⟨p.pb, 0, none⟩ = some (.string S.s) ∧ w'.cell? ⟨w.heap.size, 3, none⟩ = some (.bool x.p) ∧ w'.cell? ⟨p.pb, 1, none⟩ = some (.slice p.ao S.q.length p.c) ∧ True))
  clear c0 c1 c2 c3 c4 c5 c6 hltd d0 hlp hxu LW hbd
  go_upto_region 31 with fail
  refine wp_region_E (by kernel_rfl) ?_
  refine wpE_t 0 156 (v := ?_) (fun w' hw' => qat_value ?_) ?_
  rotate_left
  ·go_simp
   rfl
  simp only [fr1, fr2, fr3, fr4]
  refine wpE_t 1 157 (v := ?_) (fun w' hw' => qat_value ?_) ?_
  rotate_left
  ·go_simp
   rfl
  simp only [fr1, fr2, fr3, fr4]
  refine wpE_t 2 158 (v := ?_) (fun w' hw' => qat_value ?_) ?_
  rotate_left
  ·go_simp
   rfl
  simp only [fr1, fr2, fr3, fr4]
  refine wpE_t 3 159 (v := ?_) (fun w' hw' => ?_) ?_
  rotate_left
  ·obtain ⟨r0, r1, r2, r3⟩ := HS.out w' hw'
   refine qat_value ?_
   go_simp
   rfl
  simp only [fr1, fr2, fr3, fr4]
  refine wpE_t 4 160 (v := ?_) (fun w' hw' => qat_value ?_) ?_
  rotate_left
  ·go_simp
   rfl
  simp only [fr1, fr2, fr3, fr4]
  refine wpE_t 5 161 (v := ?_) (fun w' hw' => qat_value ?_) ?_
  rotate_left
  ·go_simp
   rfl
  simp only [fr1, fr2, fr3, fr4]
  refine wpE_t 6 162 (v := ?_) (fun w' hw' => ?_) ?_
  rotate_left
  ·obtain ⟨r0, r1, r2, r3⟩ := HS.out w' hw'
   refine qat_value ?_
   go_simp
   rfl
  simp only [fr1, fr2, fr3, fr4]
  refine wpE_t 7 163 (v := ?_) (fun w' hw' => qat_value ?_) ?_
  rotate_left
  ·go_simp
   rfl
  simp only [fr1, fr2, fr3, fr4]
  refine wpE_t 8 164 (v := ?_) (fun w' hw' => qat_value ?_) ?_
  rotate_left
  ·go_simp
   rfl
  simp only [fr1, fr2, fr3, fr4]
  refine wpE_t 9 165 (v := ?_) (fun w' hw' => qat_value ?_) ?_
  rotate_left
  ·go_simp
   rfl
  simp only [fr1, fr2, fr3, fr4]
  refine wpE_t 10 166 (v := ?_) (fun w' hw' => ?_) ?_
  rotate_left
  ·obtain ⟨r0, r1, r2, r3⟩ := HS.out w' hw'
   refine qat_value ?_
   go_simp
   rfl
  simp only [fr1, fr2, fr3, fr4]
  refine wpE_callw 11 167 (f := 65) (args := #[.string S.s, .int .i64 W, .bool x.p, .slice p.ao S.q.length p.c]) rfl rfl (by kernel_rfl) rfl (fun w' => by first | (go_simp; done) | (go_simp; exact ⟨rfl, rfl⟩)) fun wb hwb => ?_
  have hyb : Ext v1 wb := (ext_draw v1).ext_trans hwb
  refine (HG.out p.ao p.c wb (Reads.own (HB1.out.pap.ext hyb).sels)).mono ?_
  rintro e w1 ⟨aq, cq, rfl, hoq, hx1⟩
  have hy1 := hyb.ext_trans hx1
  refine ⟨_, rfl, hy1, ?_⟩
  simp only [fr1, fr2, fr3, fr4]
  refine wpE_t 12 155 (v := ?_) (fun w' hw' => qat_value ?_) ?_
  rotate_left
  ·go_simp
   rfl
  simp only [fr1, fr2, fr3, fr4]
  refine wpE_t 13 168 (v := ?_) (fun w' hw' => qat_value ?_) ?_
  rotate_left
  ·go_simp
   rfl
  simp only [fr1, fr2, fr3, fr4]
  refine wpE_t 14 169 (v := ?_) (fun w' hw' => qat_value ?_) ?_
  rotate_left
  ·go_simp
   rfl
  simp only [fr1, fr2, fr3, fr4]
  refine wpE_t 15 16 (v := ?_) (fun w' hw' => qat_value ?_) ?_
  rotate_left
  ·go_simp
   rfl
  simp only [fr1, fr2, fr3, fr4]
  refine wpE_t 16 17 (v := ?_) (fun w' hw' => qat_value ?_) ?_
  rotate_left
  ·go_simp
   rfl
  simp only [fr1, fr2, fr3, fr4]
  refine wpE_done (by kernel_rfl) (fun w2 hw2 => ?_) _
  have hy2 := hy1.ext_trans hw2
  have HB2 := Lib.hid (HB1.out.on hy2)
  have Hoq := Lib.hid (show w2.ownsRow v1.heap.size 47 2 (.slice aq Q.length cq) Q.length (prCells Q) from ownsRow_base (ownsRow_mod hoq hw2 (fun _ _ f => f)) hyb.size)
  have HSg2 := Lib.hid (HSg.out w2 HB2.out.sh)
  have hb2 := Hbx.out.mod hy2 (fun f => f)
  have c3 : w2.cell? ⟨w.heap.size, 3, none⟩ = some (.bool x.p) := hb2.cell 3
  have hltd := hb2.lt
  clear HG HSg HS hoq hy1 hw2 hx1 hyb hwb hb2 Hbx hy2
  go_wp2_with fail
  refine HSg2.out.mono ?_
  rintro e w4 ⟨S', rfl, hd, e1, e2, e3, e4⟩
  obtain ⟨hp4, _, _⟩ := HB2.out.half hd
  have Hd := Lib.hid hd
  have Hp4 := Lib.hid hp4
  have E1 := Lib.hid e1
  have E2 := Lib.hid e2
  have E3 := Lib.hid e3
  have Hoq4 := Lib.hid (ownsRow_mod Hoq.out hd.mod (fun k hk e => by
   have h1 := (Hoq.out.lt k hk).1
   have h2 := HB1.out.sh.lt k e
   omega))
  have hlp : p.pb < w4.heap.size := hp4.blk.lt
  have fp := hp4.blk.free 1
  have d1 := hp4.blk.cell 1
  simp only [List.getElem?_toArray, List.getElem?_cons_zero, List.getElem?_cons_succ] at d1
  clear HSg2 Hoq hp4 hd e1 e2 e3 c3 hltd
  by_cases hz : C = 0
  ·rw [if_pos hz] at e4
   have E4 := Lib.hid e4
   have H2 := Lib.hid (Hpos.out hz)
   subst hz
   clear e4 Hpos
   go_upto_region 40 with fail
   obtain ⟨w5, hw5⟩ : ∃ w5, w5 = w4.setCell ⟨p.pb, 1, none⟩ (.slice aq Q.length cq) := ⟨_, rfl⟩
   rw [← hw5]
   have hp5 := Hp4.out.picked Hoq4.out
   rw [← hw5] at hp5
   obtain ⟨hp5, hm5⟩ := hp5
   have HW := Lib.hid (HB2.out.pick Hd.out E1.out E2.out E3.out (by rw [E4.out]; exact hp5) hm5 (by rw [E4.out]; exact H2.out) (by rw [E4.out]; exact Hln.out) (by rw [E4.out]; exact Hin.out))
   clear hw5 hp5 hm5 d1 fp hlp
   go_wp2_with fail
   refine (edits_none _).mono ?_
   rintro e w6 ⟨rfl, hx6⟩
   go_wp2_with fail
   go_ret
   exact ⟨rfl, S', _, HW.out.on hx6, by rw [E1.out]; omega, Hd.out.sb, rfl, Hd.out.sv, Hd.out.tabs.1, Hd.out.tabs.2, by rw [E3.out]; omega⟩
  ·rw [if_neg hz] at e4
   have HW := Lib.hid (HB2.out.pick Hd.out E1.out E2.out E3.out (by rw [e4]; exact Hp4.out) (Mod.refl _ w4) (by rw [e4]; exact HB2.out.q0) (by rw [e4]; exact HB2.out.q1) (by rw [e4]; exact HB2.out.inq))
   have hz1 : (C == 0) = false := by simpa using hz
   have hcc : (C == C) = true := by simp
   clear e4 Hpos hz Hoq4
   go_wp2_with fail
   refine (edits_none _).mono ?_
   rintro e w6 ⟨rfl, hx6⟩
   go_wp2_with fail
   go_ret
   exact ⟨rfl, S', p, HW.out.on hx6, by rw [E1.out]; omega, Hd.out.sb, rfl, Hd.out.sv, Hd.out.tabs.1, Hd.out.tabs.2, by rw [E3.out]; omega⟩
theorem doesS_mark (x : Ds) (hk : ((lowN x.k 8 : Nat) : Int) = 6) (w0 w : World) (S : Sh) (p : Pp) (Bd : Int) (h : Both w0 w S p Bd 6) (hs : S.s.size ≤ 60000) (hl : S.last ≤ 1000) :
  Calls Tryz.prog 36 #[.pointer (some ⟨S.sb, 0, none⟩), .pointer (some ⟨p.pb, 0, none⟩), dsV x] w (DoesPost w0 S p Bd) := by
 have BA := lowN_lt x.a (S.s.size + 1) (by omega)
 have BB := lowN_lt x.b 5 (by omega)
 have BU := lowN_lt x.b 3 (by omega)
 have LA := Lib.hid (fun v => Calls.same_ext (lowC x.a (S.s.size + 1) ((S.s.size : Int) + 1) (by omega) (by omega) (by omega) v))
 have LB := Lib.hid (fun v => Calls.same_ext (lowC x.b 5 5 rfl (by omega) (by omega) v))
 have LU := Lib.hid (fun v => Calls.same_ext (lowC x.b 3 3 rfl (by omega) (by omega) v))
 generalize lowN x.a (S.s.size + 1) = A at *
 generalize lowN x.b 5 = D at *
 generalize lowN x.b 3 = U at *
 obtain ⟨r, hr⟩ : ∃ r : Rg, r = ⟨(A : Int), (A : Int) + D, x.p, false, (U : Int)⟩ := ⟨_, rfl⟩
 have hT := h.tok
 have HA := Lib.hid (fun w' (h' : TabAt w' S.tb S.mb S.L S.last) => tadd_any S.tb S.mb S.L S.last r w' h' (by have := hT.len; omega) hT.next hT.last0.1 (by have := hT.last0; omega) (by rw [hr]; exact (id_wf (by omega) (by omega) : (Lit.int .i64 (U : Int)).wf = true)))
 have HR := Lib.hid (fun w' (h' : RefAt w' w0.heap.size p.ub p.v1 p.v2 S.L S.last) (hB' : w0.heap.size ≤ w'.heap.size) => radd_any w0.heap.size p.ub p.v1 p.v2 S.L S.last Bd r w' h' hB' hT)
 have Hyes := Lib.hid (show addE S.L r = 0 → addD S.L S.last r = ⟨S.L ++ [(S.last + 1, r)], S.last + 1, S.last + 1, 0⟩ from fun h => by unfold addD; rw [if_pos h])
 have Hno := Lib.hid (show addE S.L r ≠ 0 → addD S.L S.last r = ⟨S.L, S.last, 0, addE S.L r⟩ from fun h => by unfold addD; rw [if_neg h])
 have Hd := Lib.hid (addD_ok (r := r) hT h.bd (by omega))
 have HB := Lib.hid h
 unfold AddPost at HA
 unfold RnPost at HR
 generalize addD S.L S.last r = d at *
 rw [hr] at HA HR
 clear h hT
 have L8 := lowC x.k 8 8 rfl (by omega) (by omega)
 rw [hk] at L8
 have HL := Lib.hid L8
 obtain ⟨u, hu⟩ : ∃ u, u = w.alloc (.cells #[.int .i64 x.k, .int .i64 x.a, .int .i64 x.b, .bool x.p, .string x.t, .slice x.ao x.es.length x.cap, .slice x.so x.sl.length x.scap] 79) := ⟨_, rfl⟩
 have hxu : Ext w u := by rw [hu]; exact (Mod.refl _ w).alloc _
 have hbd : Blk u w.heap.size 79 #[.int .i64 x.k, .int .i64 x.a, .int .i64 x.b, .bool x.p, .string x.t, .slice x.ao x.es.length x.cap, .slice x.so x.sl.length x.scap] := by rw [hu]; exact Blk.new w _ _
 have HB1 := Lib.hid (HB.out.on hxu)
 try unfold dsV
 clear L8 hk
 go_enter Tryz.func36, Tryz.ntmps36
 go_upto_region 1 with fail
 rw [← hu]
 clear hu
 have c0 := hbd.cell 0
 have c1 := hbd.cell 1
 have c2 := hbd.cell 2
 have c3 := hbd.cell 3
 have c4 := hbd.cell 4
 have c5 := hbd.cell 5
 have c6 := hbd.cell 6
 simp only [List.getElem?_toArray, List.getElem?_cons_zero, List.getElem?_cons_succ] at c0 c1 c2 c3 c4 c5 c6
 have hltd := hbd.lt
 have d0 := HB1.out.pap.blk.cell 0
 simp only [List.getElem?_toArray, List.getElem?_cons_zero] at d0
 have hlp := HB1.out.pap.blk.lt
 go_wp2_with fail
 refine (HL.out _).mono ?_
 rintro e v0 ⟨rfl, rfl⟩
 have HS := Lib.hid (fun w' (h' : Ext v0 w') => (⟨(hbd.mod h' (fun f => f)).cell 1, (hbd.mod h' (fun f => f)).cell 2, (hbd.mod h' (fun f => f)).cell 3, trivial⟩ : w'.cell? ⟨w.heap.size, 1, none⟩ = some (.int .i64 x.a) ∧ w'.cell? ⟨w.heap.size, 2, none⟩ = some (.int .i64 x.b) ∧ w'.cell? ⟨w.heap.size, 3, none⟩ = some (.bool x.p) ∧ True))
 clear c0 c1 c2 c3 c4 c5 c6 hltd d0 hlp hxu
 go_upto_region 36 with fail
 refine wp_region_E (by kernel_rfl) ?_
 refine wpE_t 0 184 (v := ?_) (fun w' hw' => qat_value ?_) ?_
 rotate_left
 ·go_simp
  rfl
 simp only [fr1, fr2, fr3, fr4]
 refine wpE_t 1 185 (v := ?_) (fun w' hw' => ?_) ?_
 rotate_left
 ·obtain ⟨r0, r1, r2, r3⟩ := HS.out w' hw'
  refine qat_value ?_
  go_simp
  rfl
 simp only [fr1, fr2, fr3, fr4]
 refine wpE_t 2 186 (v := ?_) (fun w' hw' => qat_value ?_) ?_
 rotate_left
 ·go_simp
  rfl
 simp only [fr1, fr2, fr3, fr4]
 have hwr : IntKind.i64.wrap ((S.s.size : Int) + 1) = (S.s.size : Int) + 1 := IntWalk.i64_in _ (by omega)
 refine wpE_t 3 187 (v := ?_) (fun w' hw' => qat_value ?_) ?_
 rotate_left
 ·go_simp
  rfl
 simp only [fr1, fr2, fr3, fr4]
 clear hwr
 refine wpE_t 4 188 (v := ?_) (fun w' hw' => ?_) ?_
 rotate_left
 ·refine qat_enter (by go_simp; exact ⟨rfl, rfl⟩) ?_
  exact LA.out _
 simp only [fr1, fr2, fr3, fr4]
 refine wpE_t 5 189 (v := ?_) (fun w' hw' => qat_value ?_) ?_
 rotate_left
 ·go_simp
  rfl
 simp only [fr1, fr2, fr3, fr4]
 refine wpE_t 6 190 (v := ?_) (fun w' hw' => ?_) ?_
 rotate_left
 ·obtain ⟨r0, r1, r2, r3⟩ := HS.out w' hw'
  refine qat_value ?_
  go_simp
  rfl
 simp only [fr1, fr2, fr3, fr4]
 refine wpE_t 7 191 (v := ?_) (fun w' hw' => qat_value ?_) ?_
 rotate_left
 ·go_simp
  rfl
 simp only [fr1, fr2, fr3, fr4]
 have hwr : IntKind.i64.wrap ((S.s.size : Int) + 1) = (S.s.size : Int) + 1 := IntWalk.i64_in _ (by omega)
 refine wpE_t 8 192 (v := ?_) (fun w' hw' => qat_value ?_) ?_
 rotate_left
 ·go_simp
  rfl
 simp only [fr1, fr2, fr3, fr4]
 clear hwr
 refine wpE_t 9 193 (v := ?_) (fun w' hw' => ?_) ?_
 rotate_left
 ·refine qat_enter (by go_simp; exact ⟨rfl, rfl⟩) ?_
  exact LA.out _
 simp only [fr1, fr2, fr3, fr4]
 refine wpE_t 10 194 (v := ?_) (fun w' hw' => qat_value ?_) ?_
 rotate_left
 ·go_simp
  rfl
 simp only [fr1, fr2, fr3, fr4]
 refine wpE_t 11 195 (v := ?_) (fun w' hw' => ?_) ?_
 rotate_left
 ·obtain ⟨r0, r1, r2, r3⟩ := HS.out w' hw'
  refine qat_value ?_
  go_simp
  rfl
 simp only [fr1, fr2, fr3, fr4]
 refine wpE_t 12 196 (v := ?_) (fun w' hw' => ?_) ?_
 rotate_left
 ·refine qat_enter (by go_simp; exact ⟨rfl, rfl⟩) ?_
  exact LB.out _
 simp only [fr1, fr2, fr3, fr4]
 have hwr : IntKind.i64.wrap ((A : Int) + (D : Int)) = (A : Int) + (D : Int) := IntWalk.i64_in _ (by omega)
 refine wpE_t 13 197 (v := ?_) (fun w' hw' => qat_value ?_) ?_
 rotate_left
 ·go_simp
  rfl
 simp only [fr1, fr2, fr3, fr4]
 clear hwr
 refine wpE_t 14 198 (v := ?_) (fun w' hw' => qat_value ?_) ?_
 rotate_left
 ·go_simp
  rfl
 simp only [fr1, fr2, fr3, fr4]
 refine wpE_t 15 199 (v := ?_) (fun w' hw' => qat_value ?_) ?_
 rotate_left
 ·go_simp
  rfl
 simp only [fr1, fr2, fr3, fr4]
 refine wpE_t 16 200 (v := ?_) (fun w' hw' => ?_) ?_
 rotate_left
 ·obtain ⟨r0, r1, r2, r3⟩ := HS.out w' hw'
  refine qat_value ?_
  go_simp
  rfl
 simp only [fr1, fr2, fr3, fr4]
 refine wpE_t 17 201 (v := ?_) (fun w' hw' => qat_value ?_) ?_
 rotate_left
 ·go_simp
  rfl
 simp only [fr1, fr2, fr3, fr4]
 refine wpE_t 18 202 (v := ?_) (fun w' hw' => ?_) ?_
 rotate_left
 ·obtain ⟨r0, r1, r2, r3⟩ := HS.out w' hw'
  refine qat_value ?_
  go_simp
  rfl
 simp only [fr1, fr2, fr3, fr4]
 refine wpE_t 19 203 (v := ?_) (fun w' hw' => ?_) ?_
 rotate_left
 ·refine qat_enter (by go_simp; exact ⟨rfl, rfl⟩) ?_
  exact LU.out _
 simp only [fr1, fr2, fr3, fr4]
 refine wpE_t 20 204 (v := ?_) (fun w' hw' => qat_value ?_) ?_
 rotate_left
 ·go_simp
  rfl
 simp only [fr1, fr2, fr3, fr4]
 refine wpE_box (x := #[.int .i64 A, .int .i64 ((A : Int) + D), .bool x.p, .bool false, .int .i64 U]) box_rg 21 22 18 204 rfl rfl ⟨rfl, rfl⟩ ⟨rfl, rfl⟩ ⟨rfl, rfl⟩ (by kernel_rfl) (by kernel_rfl) (by kernel_rfl) ⟨by simp, by decide⟩ rfl rfl (by intro u hu; simp at hu; rcases hu with rfl | rfl | rfl | rfl | rfl <;> rfl) (ext_draw _) ?_
 intro w1 bx hx1 hbl hbr
 simp only [fr1, fr2, fr3, fr4]
 have HB2 := Lib.hid (HB1.out.on hx1)
 have Hbr := Lib.hid hbr
 clear HS LA LB LU hbd hbr
 have HS := Lib.hid (fun w' (h' : Ext w1 w') => (⟨(HB2.out.sh.ext h').blk.cell 1, (Hbr.out.mod h' (fun f => f)).cell 0, (Hbr.out.mod h' (fun f => f)).cell 1, (Hbr.out.mod h' (fun f => f)).cell 2, (Hbr.out.mod h' (fun f => f)).cell 3, (Hbr.out.mod h' (fun f => f)).cell 4⟩ :
  w'.cell? ⟨S.sb, 1, none⟩ = some (.pointer (some ⟨S.tb, 0, none⟩)) ∧ w'.cell? ⟨bx, 0, none⟩ = some (.int .i64 A) ∧ w'.cell? ⟨bx, 1, none⟩ = some (.int .i64 ((A : Int) + D)) ∧ w'.cell? ⟨bx, 2, none⟩ = some (.bool x.p) ∧ w'.cell? ⟨bx, 3, none⟩ = some (.bool false) ∧ w'.cell? ⟨bx, 4, none⟩ = some (.int .i64 U)))
 go_upto_region 37 with fail
 refine wp_region_B 5 (by kernel_rfl) ?_
 refine wpB_take 5 0 206 (v := ?_) rfl rfl (by kernel_rfl) (by kernel_rfl) (by kernel_rfl) (by decide) (by kernel_rfl) (by kernel_rfl) (fun _ _ _ h => h) (by first | exact ext_draw _ | assumption) rfl ?_ ?_
 rotate_left
 ·intro w' hw'
  refine qat_value ?_
  go_simp
  rfl
 simp only [fr1, fr2, fr3, fr4]
 refine wpB_take 5 1 207 (v := ?_) rfl rfl (by kernel_rfl) (by kernel_rfl) (by kernel_rfl) (by decide) (by kernel_rfl) (by kernel_rfl) (fun _ _ _ h => h) (by first | exact ext_draw _ | assumption) rfl ?_ ?_
 rotate_left
 ·intro w' hw'
  refine qat_value ?_
  go_simp
  rfl
 simp only [fr1, fr2, fr3, fr4]
 refine wpB_take 5 2 208 (v := ?_) rfl rfl (by kernel_rfl) (by kernel_rfl) (by kernel_rfl) (by decide) (by kernel_rfl) (by kernel_rfl) (fun _ _ _ h => h) (by first | exact ext_draw _ | assumption) rfl ?_ ?_
 rotate_left
 ·intro w' hw'
  refine qat_value ?_
  go_simp
  rfl
 simp only [fr1, fr2, fr3, fr4]
 refine wpB_take 5 3 209 (v := ?_) rfl rfl (by kernel_rfl) (by kernel_rfl) (by kernel_rfl) (by decide) (by kernel_rfl) (by kernel_rfl) (fun _ _ _ h => h) (by first | exact ext_draw _ | assumption) rfl ?_ ?_
 rotate_left
 ·intro w' hw'
  obtain ⟨r0, r1, r2, r3, r4, r5⟩ := HS.out w' hw'
  refine qat_value ?_
  go_simp
  rfl
 simp only [fr1, fr2, fr3, fr4]
 refine wpB_take 5 4 210 (v := ?_) rfl rfl (by kernel_rfl) (by kernel_rfl) (by kernel_rfl) (by decide) (by kernel_rfl) (by kernel_rfl) (fun _ _ _ h => h) (by first | exact ext_draw _ | assumption) rfl ?_ ?_
 rotate_left
 ·intro w' hw'
  obtain ⟨r0, r1, r2, r3, r4, r5⟩ := HS.out w' hw'
  refine qat_value ?_
  go_simp
  rfl
 simp only [fr1, fr2, fr3, fr4]
 refine wpB_call 5 211 (f := 28) (args := #[.pointer (some ⟨S.tb, 0, none⟩), .agg #[.int .i64 A, .int .i64 ((A : Int) + D), .bool x.p, .bool false, .int .i64 U]]) rfl rfl (by kernel_rfl) rfl (fun w' => by first | (go_simp; done) | (go_simp; exact ⟨rfl, rfl⟩)) fun wb hwb => ?_
 have hyb : Ext w1 wb := (ext_draw w1).ext_trans hwb
 refine (HA.out wb (HB2.out.sh.tab.ext hyb)).mono ?_
 intro e wc hpost
 have hres : ∃ S' : Sh, e = .returned (.tuple #[.int .i64 d.n, .int .i64 d.e]) ∧ ShDone S S' w1 wc ∧ S'.s = S.s ∧ S'.L = d.L ∧ S'.last = d.last ∧ S'.q = S.q ∧ Mod (tabS S.tb S.mb) w1 wc := by
  rcases hpost with ⟨h0, rfl, h2, hm2⟩ | ⟨h0, rfl, hx3⟩
  ·have hdd := Hyes.out (by rw [hr]; exact h0)
   refine ⟨_, by rw [hdd], ShDone.after hyb ((HB2.out.sh.ext hyb).tabbed h2 hm2), rfl, ?_, ?_, rfl, (Mod.any hyb).trans hm2 (fun _ _ f => f)⟩
   ·rw [hdd, hr]
   ·rw [hdd]
  ·have hdd := Hno.out (by rw [hr]; exact h0)
   refine ⟨S, by rw [hdd, hr], ShDone.after (hyb.ext_trans hx3) (ShDone.refl (HB2.out.sh.ext (hyb.ext_trans hx3))), rfl, ?_, ?_, rfl, Mod.any (hyb.ext_trans hx3)⟩
   ·rw [hdd]
   ·rw [hdd]
 obtain ⟨S', rfl, hd4, e1, e2, e3, e4, hmc⟩ := hres
 refine ⟨_, rfl, ?_⟩
 simp only [fr1, fr2, fr3, fr4]
 have hrf : Ext wc wc := Mod.refl _ wc
 refine wpE_t 6 205 (v := ?_) (fun w' hw' => qat_value ?_) ?_
 rotate_left
 ·go_simp
  rfl
 simp only [fr1, fr2, fr3, fr4]
 refine wpE_t 7 212 (v := ?_) (fun w' hw' => qat_value ?_) ?_
 rotate_left
 ·go_simp
  rfl
 simp only [fr1, fr2, fr3, fr4]
 refine wpE_t 8 213 (v := ?_) (fun w' hw' => qat_value ?_) ?_
 rotate_left
 ·go_simp
  rfl
 simp only [fr1, fr2, fr3, fr4]
 refine wpE_t 9 19 (v := ?_) (fun w' hw' => qat_value ?_) ?_
 rotate_left
 ·go_simp
  rfl
 simp only [fr1, fr2, fr3, fr4]
 refine wpE_t 10 20 (v := ?_) (fun w' hw' => qat_value ?_) ?_
 rotate_left
 ·go_simp
  rfl
 simp only [fr1, fr2, fr3, fr4]
 refine wpE_done (by kernel_rfl) (fun w4 hw4 => ?_) _
 have hd5 := hd4.ext hw4
 have hbt : ¬ tabS S.tb S.mb bx := fun e => by
  have h1 := HB1.out.sh.tab.blk.lt
  have h2 := HB1.out.sh.tab.map.lt
  rcases e with rfl | rfl <;> omega
 have hm5 : Mod (tabS S.tb S.mb) w1 w4 := hmc.trans hw4 (fun _ _ f => f.elim)
 have HD := Lib.hid hd5
 obtain ⟨hp5, _, hx5⟩ := HB2.out.half hd5
 have HP5 := Lib.hid hp5
 have Hx5 := Lib.hid hx5
 have Hbx5 := Lib.hid (Hbr.out.mod hm5 hbt)
 have E1 := Lib.hid e1
 have E2 := Lib.hid e2
 have E3 := Lib.hid e3
 have E4 := Lib.hid e4
 clear hd4 hd5 hm5 hmc hw4 hp5 hx5 e1 e2 e3 e4 HS HA hyb hwb Hyes Hno hrf hbt
 have HS := Lib.hid (fun w' (h' : Ext w4 w') => (⟨(HP5.out.ext h').blk.cell 2, (Hbx5.out.mod h' (fun f => f)).cell 0, (Hbx5.out.mod h' (fun f => f)).cell 1, (Hbx5.out.mod h' (fun f => f)).cell 2, (Hbx5.out.mod h' (fun f => f)).cell 3, (Hbx5.out.mod h' (fun f => f)).cell 4⟩ :
  w'.cell? ⟨p.pb, 2, none⟩ = some (.pointer (some ⟨p.ub, 0, none⟩)) ∧ w'.cell? ⟨bx, 0, none⟩ = some (.int .i64 A) ∧ w'.cell? ⟨bx, 1, none⟩ = some (.int .i64 ((A : Int) + D)) ∧ w'.cell? ⟨bx, 2, none⟩ = some (.bool x.p) ∧ w'.cell? ⟨bx, 3, none⟩ = some (.bool false) ∧ w'.cell? ⟨bx, 4, none⟩ = some (.int .i64 U)))
 go_upto_region 38 with fail
 refine wp_region_B 5 (by kernel_rfl) ?_
 refine wpB_take 5 0 215 (v := ?_) rfl rfl (by kernel_rfl) (by kernel_rfl) (by kernel_rfl) (by decide) (by kernel_rfl) (by kernel_rfl) (fun _ _ _ h => h) (by first | exact ext_draw _ | assumption) rfl ?_ ?_
 rotate_left
 ·intro w' hw'
  refine qat_value ?_
  go_simp
  rfl
 simp only [fr1, fr2, fr3, fr4]
 refine wpB_take 5 1 216 (v := ?_) rfl rfl (by kernel_rfl) (by kernel_rfl) (by kernel_rfl) (by decide) (by kernel_rfl) (by kernel_rfl) (fun _ _ _ h => h) (by first | exact ext_draw _ | assumption) rfl ?_ ?_
 rotate_left
 ·intro w' hw'
  refine qat_value ?_
  go_simp
  rfl
 simp only [fr1, fr2, fr3, fr4]
 refine wpB_take 5 2 217 (v := ?_) rfl rfl (by kernel_rfl) (by kernel_rfl) (by kernel_rfl) (by decide) (by kernel_rfl) (by kernel_rfl) (fun _ _ _ h => h) (by first | exact ext_draw _ | assumption) rfl ?_ ?_
 rotate_left
 ·intro w' hw'
  refine qat_value ?_
  go_simp
  rfl
 simp only [fr1, fr2, fr3, fr4]
 refine wpB_take 5 3 218 (v := ?_) rfl rfl (by kernel_rfl) (by kernel_rfl) (by kernel_rfl) (by decide) (by kernel_rfl) (by kernel_rfl) (fun _ _ _ h => h) (by first | exact ext_draw _ | assumption) rfl ?_ ?_
 rotate_left
 ·intro w' hw'
  obtain ⟨r0, r1, r2, r3, r4, r5⟩ := HS.out w' hw'
  refine qat_value ?_
  go_simp
  rfl
 simp only [fr1, fr2, fr3, fr4]
 refine wpB_take 5 4 219 (v := ?_) rfl rfl (by kernel_rfl) (by kernel_rfl) (by kernel_rfl) (by decide) (by kernel_rfl) (by kernel_rfl) (fun _ _ _ h => h) (by first | exact ext_draw _ | assumption) rfl ?_ ?_
 rotate_left
 ·intro w' hw'
  obtain ⟨r0, r1, r2, r3, r4, r5⟩ := HS.out w' hw'
  refine qat_value ?_
  go_simp
  rfl
 simp only [fr1, fr2, fr3, fr4]
 refine wpB_call 5 220 (f := 66) (args := #[.pointer (some ⟨p.ub, 0, none⟩), .agg #[.int .i64 A, .int .i64 ((A : Int) + D), .bool x.p, .bool false, .int .i64 U]]) rfl rfl (by kernel_rfl) rfl (fun w' => by first | (go_simp; done) | (go_simp; exact ⟨rfl, rfl⟩)) fun wb hwb => ?_
 have hyb : Ext w4 wb := (ext_draw w4).ext_trans hwb
 refine (HR.out wb (HP5.out.ext hyb).ref (Hx5.out.ext_trans hyb).size).mono ?_
 rintro e wc ⟨rfl, ⟨v1, v2, hrc⟩, hmc⟩
 obtain ⟨hp6, hm6⟩ := (HP5.out.ext hyb).tabbed hrc hmc
 have HP6 := Lib.hid hp6
 have Hm6 := Lib.hid (show Mod (PapS w0.heap.size w4) w4 wc from PapS.trans hyb.any hm6)
 refine ⟨_, rfl, ?_⟩
 simp only [fr1, fr2, fr3, fr4]
 have hrf : Ext wc wc := Mod.refl _ wc
 refine wpE_t 6 214 (v := ?_) (fun w' hw' => qat_value ?_) ?_
 rotate_left
 ·go_simp
  rfl
 simp only [fr1, fr2, fr3, fr4]
 refine wpE_t 7 221 (v := ?_) (fun w' hw' => qat_value ?_) ?_
 rotate_left
 ·go_simp
  rfl
 simp only [fr1, fr2, fr3, fr4]
 refine wpE_t 8 222 (v := ?_) (fun w' hw' => qat_value ?_) ?_
 rotate_left
 ·go_simp
  rfl
 simp only [fr1, fr2, fr3, fr4]
 refine wpE_t 9 21 (v := ?_) (fun w' hw' => qat_value ?_) ?_
 rotate_left
 ·go_simp
  rfl
 simp only [fr1, fr2, fr3, fr4]
 refine wpE_t 10 22 (v := ?_) (fun w' hw' => qat_value ?_) ?_
 rotate_left
 ·go_simp
  rfl
 simp only [fr1, fr2, fr3, fr4]
 refine wpE_done (by kernel_rfl) (fun w7 hw7 => ?_) _
 have HW := Lib.hid (HB2.out.whole (Bd' := Bd + 2000000) HD.out (by rw [E1.out, E2.out, E3.out, E4.out]; exact HP6.out.ext hw7) (PapS.trans Hm6.out hw7.any) (by rw [E2.out, E3.out]; exact Hd.out.1) (by have := HB2.out.bd; omega) (by rw [E4.out]; exact HB2.out.q0) (by rw [E4.out]; exact HB2.out.q1) (by rw [E1.out, E4.out]; exact HB2.out.inq))
 have Hdl := Lib.hid Hd.out.2.2
 clear HS HR hyb hwb hrc hmc hp6 hm6 hrf hw7 Hd
 have n1 : (d.n == d.n) = true := by simp
 have n2 : (d.e == d.e) = true := by simp
 go_wp2_with fail
 go_ret
 exact ⟨rfl, S', _, HW.out, by rw [E1.out]; omega, HD.out.sb, rfl, HD.out.sv, HD.out.tabs.1, HD.out.tabs.2, by rw [E3.out]; exact Hdl.out⟩
end Go.Proofs.YthlmgoagnfkhdaaGreat
namespace Go.Gim
def awA : ByteArray := ⟨#[97, 98]⟩
def awX : ByteArray := ⟨#[120]⟩
def awZ : ByteArray := ⟨#[120, 97, 98]⟩
def awE1 : List Ed := [⟨0, 0, awX⟩]
def awE2 : List Ed := [⟨0, 2, ⟨#[]⟩⟩, ⟨1, 2, ⟨#[]⟩⟩]
theorem awT : typedL awX [(0, 0)] = awE1 := by rfl
theorem awM1 : mayE awA.size awE1 = 0 := by decide +kernel
theorem awM2 : mayE awZ.size awE2 = 5 := by decide +kernel
theorem awTx : textC awA awE1 = awZ := by
 unfold textC
 rw [if_pos awM1]
 rfl
theorem awQ : selC awA awE1 [(0, 0)] = [(1, 1)] := by
 unfold selC
 rw [if_pos awM1]
 rfl
theorem awTx2 : textC awZ awE2 = awZ := by
 unfold textC
 rw [if_neg (by rw [awM2]; decide)]
theorem awQ2 : selC awZ awE2 [(1, 1)] = [(1, 1)] := by
 unfold selC
 rw [if_neg (by rw [awM2]; decide)]
theorem awB2 : backC awZ awE2 = [] := by
 unfold backC
 rw [if_neg (by rw [awM2]; decide)]
end Go.Gim
namespace Go.Proofs.YthlmgoagnfkhdaaGreat
open Go.RowKit Go.Gim
structure Alone (w0 w : World) (S : Sh) (Bd : Int) (m : Nat) : Prop where
 sh : SheetAt w S
 own : ∀ k, ShS S k → w0.heap.size ≤ k
 tok : Tok S.L S.last Bd
 bd : 65536 ≤ Bd
 q0 : 0 < S.q.length
 q1 : S.q.length ≤ m
 inq : InT S.s.size S.q
 ext : Ext w0 w
theorem Alone.on {w0 w w' : World} {S : Sh} {Bd : Int} {m : Nat} (h : Alone w0 w S Bd m) (hx : Ext w w') : Alone w0 w' S Bd m :=
 ⟨h.sh.ext hx, h.own, h.tok, h.bd, h.q0, h.q1, h.inq, h.ext.ext_trans hx⟩
theorem Alone.more {w0 w : World} {S : Sh} {Bd : Int} {m m' : Nat} (h : Alone w0 w S Bd m) (hm : m ≤ m') : Alone w0 w S Bd m' :=
 ⟨h.sh, h.own, h.tok, h.bd, h.q0, Nat.le_trans h.q1 hm, h.inq, h.ext⟩
theorem Both.alone {w0 w : World} {S : Sh} {p : Pp} {Bd : Int} {m : Nat} (h : Both w0 w S p Bd m) : Alone w0 w S Bd m := ⟨h.sh, h.own, h.tok, h.bd, h.q0, h.q1, h.inq, h.ext⟩
theorem Alone.turned {w0 w w1 : World} {S S' : Sh} {Bd : Int} {m : Nat} (h : Alone w0 w S Bd m) (hd : ShDone S S' w w1) : (∀ k, ShS S' k → w0.heap.size ≤ k) ∧ Ext w0 w1 := by
 refine ⟨fun k hk => ?_, h.ext.trans hd.mod (fun i hi e => by have := h.own i e; omega)⟩
 by_cases hl : k < w.heap.size
 ·exact h.own k (hd.grew k hl hk)
 ·have := h.ext.size; omega
theorem Alone.did {w0 w w1 : World} {S S' : Sh} {Bd : Int} {m : Nat} {es : List Ed} (h : Alone w0 w S Bd m) (hs : S.s.size ≤ 65536) (hn : es.length ≤ 19) (ht : ∀ e ∈ es, e.t.size ≤ 100000) (hd : ShDone S S' w w1) (e1 : S'.s = textC S.s es) (e2 : S'.L = tabC S.s es S.L) (e3 : S'.last = S.last) (e4 : S'.q = selC S.s es S.q) : Alone w0 w1 S' (Bd + 2000000) m := by
 obtain ⟨h1, h2⟩ := h.turned hd
 refine ⟨hd.at_, h1, ?_, by have := h.bd; omega, ?_, ?_, ?_, h2⟩
 ·rw [e2, e3]; exact tabC_tok hs h.tok hn ht h.bd
 ·rw [e4]; exact selC_pos _ _ h.q0
 ·rw [e4]; exact Nat.le_trans (selC_len _ _ _) h.q1
 ·rw [e1, e4]; exact selC_in h.inq
theorem Alone.pick {w0 w w1 : World} {S S' : Sh} {Bd : Int} {m m' : Nat} (h : Alone w0 w S Bd m) (hd : ShDone S S' w w1) (e1 : S'.s = S.s) (e2 : S'.L = S.L) (e3 : S'.last = S.last) (q0 : 0 < S'.q.length) (q1 : S'.q.length ≤ m') (hq : InT S.s.size S'.q) : Alone w0 w1 S' Bd m' := by
 obtain ⟨h1, h2⟩ := h.turned hd
 exact ⟨hd.at_, h1, by rw [e2, e3]; exact h.tok, h.bd, q0, q1, by rw [e1]; exact hq, h2⟩
theorem Alone.start {w0 w1 w2 : World} {D : Dice} {S : Sh} {m : Nat} (hx : Ext w0 w1) (hd : w0.heap.size ≤ D.d) (h1 : SheetAt w2 S) (h3 : S.L = []) (h4 : S.last = 0) (h5 : S.q = [(0, 0)]) (h6 : ∀ k, ShS S k → w1.heap.size ≤ k ∨ k = D.d) (h7 : Mod (· = D.d) w1 w2) (hm : 1 ≤ m) : Alone w0 w2 S 65536 m := by
 refine ⟨h1, fun k hk => ?_, ?_, by omega, by rw [h5]; simp, by rw [h5]; exact hm, ?_, hx.trans h7 (fun i hi e => by omega)⟩
 ·have := hx.size
  rcases h6 k hk with h | h <;> omega
 ·rw [h3, h4]; exact Tok.nil.mono (by omega)
 ·rw [h5]
  intro x hx
  rw [List.mem_singleton.1 hx]
  simp only
  omega
theorem Alone.do {w0 w : World} {S : Sh} {Bd : Int} {m : Nat} (h : Alone w0 w S Bd m) (hm : m ≤ 19) (hB : Bd ≤ 900000000) (hs : S.s.size ≤ 65536) (ao : Option Addr) (cap : Nat) (es : List Ed) (he : Reads w 3 ao es.length (edE.cells es)) (hn : es.length ≤ 19) (ht : ∀ e ∈ es, e.t.size ≤ 100000) (hfar : 0 < es.length → ∀ a, ao = some a → ¬ ShS S a.block) :
  Calls Tryz.prog 17 #[.pointer (some ⟨S.sb, 0, none⟩), .slice ao es.length cap] w fun e w' => ∃ (S' : Sh) (a : Option Addr) (c : Nat), e = .returned (.tuple #[.slice a (backC S.s es).length c, .int .i64 (mayE S.s.size es)]) ∧
   w'.ownsRow w.heap.size 59 3 (.slice a (backC S.s es).length c) (backC S.s es).length (edE.cells (backC S.s es)) ∧ (∀ ad, a = some ad → ¬ ShS S' ad.block) ∧ ShDone S S' w w' ∧ S'.s = textC S.s es ∧ S'.L = tabC S.s es S.L ∧ S'.last = S.last ∧ S'.q = selC S.s es S.q ∧ Alone w0 w' S' (Bd + 2000000) m := by
 refine (sdo_all S Bd ao cap es w h.sh hs he hn ht hfar h.q0 (by have := h.q1; omega) h.inq h.tok h.bd hB).mono ?_
 rintro e w' ⟨S', a, c, rfl, h1, h2, h3, h4, h5, h6, h7⟩
 exact ⟨S', a, c, rfl, h1, h2, h3, h4, h5, h6, h7, h.did hs hn ht h3 h4 h5 h6 h7⟩
theorem Alone.free {w0 w w' : World} {S : Sh} {Bd : Int} {m B n : Nat} {ao : Option Addr} {c z : Nat} {T : TypeId} {xs : List Value} (h : Alone w0 w S Bd m) (ho : w'.ownsRow B T z (.slice ao n c) n xs) (hB : w.heap.size ≤ B) : ∀ a, ao = some a → ¬ ShS S a.block := fun a ha =>
 h.sh.free (Nat.le_trans hB (ho.lt a.block (by rw [ha]; rfl)).1)
theorem awakeS_any (w : World) : Calls Tryz.prog 11 #[] w fun e w' => e = .returned (.bool true) ∧ Ext w w' := by
 have T1 := Lib.hid awTx
 have T2 := Lib.hid awTx2
 have Q1 := Lib.hid awQ
 have Q2 := Lib.hid awQ2
 have M2 := Lib.hid awM2
 have B2 := Lib.hid awB2
 have TT := Lib.hid awT
 go_enter Tryz.func11, Tryz.ntmps11
 go_wp2_with fail
 refine (dice_lit _ [3] #[.int .u32 3] rfl (by simp) (by simp)).mono ?_
 rintro e u1 ⟨D, rfl, hD⟩
 go_wp2_with fail
 refine (snew_any D awA u1 hD.dice (by decide)).mono ?_
 rintro e u2 ⟨S, rfl, h1, h2, h3, h4, h5, -, h6, h7⟩
 have HA := Lib.hid (Alone.start (m := 1) hD.ext hD.d h1 h3 h4 h5 h6 h7 (by omega))
 have H2 := Lib.hid h2
 have H5 := Lib.hid h5
 have d1 := HA.out.sh.blk.cell 1
 simp only [List.getElem?_toArray, List.getElem?_cons_zero, List.getElem?_cons_succ] at d1
 have hlb := HA.out.sh.blk.lt
 have HTy := Lib.hid (styped_any S awX u2 HA.out.sh (by rw [H5.out]; simp) (by rw [H5.out]; simp))
 unfold Enc.Out at HTy
 rw [H5.out, TT.out] at HTy
 clear hD h1 h2 h3 h4 h5 h6 h7
 go_wp2_with fail
 refine HTy.out.mono ?_
 rintro e u3 ⟨v, rfl, ho, hx3⟩
 have Ho := Lib.hid ho
 obtain ⟨az, cz, rfl, hr⟩ := Enc.owns_reads (E := edE) ho
 have HA3 := Lib.hid (HA.out.on hx3)
 have HDo := Lib.hid (HA3.out.do (by omega) (by omega) (by rw [H2.out]; decide) az cz awE1 hr (by decide) (by intro e he; rw [List.mem_singleton.1 he]; decide) (fun _ => HA.out.free Ho.out (Nat.le_refl _)))
 rw [H2.out, awM1] at HDo
 clear ho hr hx3 HTy d1 hlb
 go_wp2_with fail
 refine HDo.out.mono ?_
 rintro e u4 ⟨S1, a1, c1, rfl, -, -, hd1, e1, e2, e3, e4, hA4⟩
 rw [T1.out] at e1
 rw [H5.out, Q1.out] at e4
 have E1 := Lib.hid e1
 have E4 := Lib.hid e4
 have Hd1 := Lib.hid hd1
 have HA4 := Lib.hid hA4
 have hsb1 := hd1.sb
 clear HDo e1 e2 e3 e4 hd1 hA4
 obtain ⟨u5, hu5⟩ : ∃ u5, u5 = u4.alloc (.cells #[.int .i64 0, .int .i64 2, .string ⟨#[]⟩, .int .i64 1, .int .i64 2, .string ⟨#[]⟩] 59) := ⟨_, rfl⟩
 have hx5 : Ext u4 u5 := by rw [hu5]; exact (Mod.refl _ u4).alloc _
 have hr5 : Reads u5 3 (some ⟨u4.heap.size, 0, none⟩) 2 (edE.cells awE2) := by rw [hu5]; exact Reads.new u4 59 #[.int .i64 0, .int .i64 2, .string ⟨#[]⟩, .int .i64 1, .int .i64 2, .string ⟨#[]⟩] 3 2 rfl
 have HA5 := Lib.hid (HA4.out.on hx5)
 have HDo := Lib.hid (HA5.out.do (by omega) (by omega) (by rw [E1.out]; decide) (some ⟨u4.heap.size, 0, none⟩) 2 awE2 hr5 (by decide) (by intro e he; simp only [awE2, List.mem_cons, List.not_mem_nil, or_false] at he; rcases he with rfl | rfl <;> decide) (fun _ a ha => by cases ha; exact HA4.out.sh.free (Nat.le_refl _)))
 rw [E1.out, M2.out, B2.out, hsb1] at HDo
 clear hr5
 go_wp2_with fail
 rw [← hu5]
 refine HDo.out.mono ?_
 rintro e u6 ⟨S2, a2, c2, rfl, ho2, -, hd2, e1, e2, e3, e4, hA6⟩
 rw [T2.out] at e1
 rw [E4.out, Q2.out] at e4
 have E1' := Lib.hid e1
 have E4' := Lib.hid e4
 have HA6 := Lib.hid hA6
 have hsb2 : S2.sb = S.sb := hd2.sb.trans hsb1
 have HSe := Lib.hid (ssels_any S2 u6 hA6.sh hA6.q0 (by have := hA6.q1; omega))
 have HTx := Lib.hid (fun w' (h' : Ext u6 w') => text_rope S2.R w' (hA6.sh.rope.ext h'))
 rw [bs_eq hA6.sh.text, E1'.out] at HTx
 unfold NewRow at HSe
 rw [E4'.out, hsb2] at HSe
 clear hd2 e1 e2 e3 e4 hA6 HDo hu5 ho2
 go_wp2_with fail
 refine HSe.out.mono ?_
 rintro e u7 ⟨g7, c7, rfl, ho7, hx7⟩
 have HA7 := Lib.hid (HA6.out.on hx7)
 have Hr7 := Lib.hid (Reads.own ho7)
 have HTx7 := Lib.hid (HTx.out u7 hx7)
 unfold awZ at HTx7
 have d0 := HA7.out.sh.blk.cell 0
 simp only [List.getElem?_toArray, List.getElem?_cons_zero] at d0
 rw [hsb2] at d0
 have hlb := HA7.out.sh.blk.lt
 rw [hsb2] at hlb
 clear HSe HTx ho7 hx7
 go_wp2_with fail
 refine HTx7.out.mono ?_
 rintro e u8 ⟨rfl, hx8⟩
 obtain ⟨c0, c1'⟩ := reads_pair (Hr7.out.mod hx8 (fun _ _ f => f)) (i := 0) (x := (1, 1)) rfl
 simp only [Nat.zero_mul, Nat.zero_add, Nat.add_zero] at c0 c1'
 have hbl := World.block_lt_of_cell? u8 _ c0
 have hzz : ((⟨#[120, 97, 98]⟩ : ByteArray).toList == (⟨#[120, 97, 98]⟩ : ByteArray).toList) = true := beq_self_eq_true _
 go_wp2_with fail
 go_ret
 exact ⟨rfl, HA7.out.ext.ext_trans hx8⟩
theorem doesS_all (x : Ds) (w0 w : World) (S : Sh) (p : Pp) (Bd : Int) (h : Both w0 w S p Bd 6) (hB2 : Bd ≤ 800000000) (hs : S.s.size ≤ 60000) (hl : S.last ≤ 1000) (hok : DsOk w0 x) (hf : DsFit x) :
  Calls Tryz.prog 36 #[.pointer (some ⟨S.sb, 0, none⟩), .pointer (some ⟨p.pb, 0, none⟩), dsV x] w (DoesPost w0 S p Bd) := by
 have hlt := lowN_lt x.k 8 (by omega)
 have hc : lowN x.k 8 = 0 ∨ lowN x.k 8 = 1 ∨ lowN x.k 8 = 2 ∨ lowN x.k 8 = 3 ∨ lowN x.k 8 = 4 ∨ lowN x.k 8 = 5 ∨ lowN x.k 8 = 6 ∨ lowN x.k 8 = 7 := by omega
 rcases hc with e | e | e | e | e | e | e | e
 ·exact doesS_near x (by rw [e]; rfl) w0 w S p Bd h hB2 hs hok hf
 ·exact doesS_typed x (by rw [e]; rfl) w0 w S p Bd h hB2 hs hf
 ·exact doesS_erased x (by rw [e]; rfl) w0 w S p Bd h hB2 hs
 ·exact doesS_select x (by rw [e]; rfl) w0 w S p Bd h hs hok hf
 ·exact doesS_go 4 (.inl rfl) x (by rw [e]; rfl) w0 w S p Bd h hs
 ·exact doesS_go 5 (.inr rfl) x (by rw [e]; rfl) w0 w S p Bd h hs
 ·exact doesS_mark x (by rw [e]; rfl) w0 w S p Bd h hs hl
 ·exact doesS_whatever x (by rw [e]; rfl) w0 w S p Bd h hB2 hs hok hf
theorem SheetAt.cell0 {w : World} {S : Sh} (h : SheetAt w S) : w.cell? ⟨S.sb, 0, none⟩ = some (.pointer (some ⟨S.R.rb, 0, none⟩)) := h.blk.cell 0
theorem SheetAt.cell1 {w : World} {S : Sh} (h : SheetAt w S) : w.cell? ⟨S.sb, 1, none⟩ = some (.pointer (some ⟨S.tb, 0, none⟩)) := h.blk.cell 1
theorem fit_of {L : List Ds} (h : muchS L = false) : ∀ x ∈ L, DsFit x := fun x hx => by
 obtain ⟨h1, h2, h3, h4⟩ := muchS_no h x hx
 exact ⟨h1, h2, h3, h4⟩
theorem Both.start {w0 w : World} {S : Sh} {Bd : Int} {m : Nat} (h : Alone w0 w S Bd m) (hq : S.q = [(0, 0)]) (hL : S.L = []) (hl : S.last = 0) (s : ByteArray) (hs : S.s = s) :
  Both w0 (((w.alloc (.cells #[.int .i64 0, .int .i64 0] 47)).alloc (.cells #[.slice none 0 0, .slice none 0 0, .int .i64 0] 86)).alloc (.cells #[.string s, .slice (some ⟨w.heap.size, 0, none⟩) 1 1, .pointer (some ⟨w.heap.size + 1, 0, none⟩)] 88)) S ⟨w.heap.size + 2, some ⟨w.heap.size, 0, none⟩, 1, w.heap.size + 1, .slice none 0 0, .slice none 0 0⟩ Bd m := by
 obtain ⟨w1, hw1⟩ : ∃ w1, w1 = w.alloc (.cells #[.int .i64 0, .int .i64 0] 47) := ⟨_, rfl⟩
 obtain ⟨w2, hw2⟩ : ∃ w2, w2 = w1.alloc (.cells #[.slice none 0 0, .slice none 0 0, .int .i64 0] 86) := ⟨_, rfl⟩
 have x1 : Ext w w1 := by rw [hw1]; exact (Mod.refl _ w).alloc _
 have x2 : Ext w1 w2 := by rw [hw2]; exact (Mod.refl _ w1).alloc _
 have x3 : Ext w2 (w2.alloc (.cells #[.string s, .slice (some ⟨w.heap.size, 0, none⟩) 1 1, .pointer (some ⟨w.heap.size + 1, 0, none⟩)] 88)) := (Mod.refl _ w2).alloc _
 have z1 : w1.heap.size = w.heap.size + 1 := by rw [hw1]; simp
 have z2 : w2.heap.size = w.heap.size + 2 := by rw [hw2]; simp [z1]
 have r1 : w1.ownsRow 0 47 2 (.slice (some ⟨w.heap.size, 0, none⟩) 1 1) 1 (prCells [(0, 0)]) := by rw [hw1]; exact World.ownsRow_lit w #[.int .i64 0, .int .i64 0] 1 (Nat.zero_le _) (by unfold maxLen; omega) rfl
 have b2 : Blk w2 (w.heap.size + 1) 86 #[.slice none 0 0, .slice none 0 0, .int .i64 0] := by
  have := Blk.new w1 86 #[.slice none 0 0, .slice none 0 0, .int .i64 0]
  rw [hw2]
  rwa [z1] at this
 have b3 : Blk (w2.alloc (.cells #[.string s, .slice (some ⟨w.heap.size, 0, none⟩) 1 1, .pointer (some ⟨w.heap.size + 1, 0, none⟩)] 88)) (w.heap.size + 2) 88 #[.string s, .slice (some ⟨w.heap.size, 0, none⟩) 1 1, .pointer (some ⟨w.heap.size + 1, 0, none⟩)] := by
  have := Blk.new w2 88 #[.string s, .slice (some ⟨w.heap.size, 0, none⟩) 1 1, .pointer (some ⟨w.heap.size + 1, 0, none⟩)]
  rwa [z2] at this
 have hz := h.ext.size
 rw [← hw1, ← hw2]
 have hx := (x1.ext_trans x2).ext_trans x3
 refine ⟨h.sh.ext hx, ?_, h.own, h.tok, h.bd, h.q0, h.q1, h.inq, h.ext.ext_trans hx⟩
 rw [hs, hq, hL, hl]
 exact ⟨b3, by simp only; omega, own_mod r1 (x2.ext_trans x3) (fun _ _ f => f), ⟨b2.mod x3 (fun f => f), by simp only; omega, World.ownsRow_nil _ _ _ _, World.ownsRow_nil _ _ _ _⟩⟩
end Go.Proofs.YthlmgoagnfkhdaaGreat
namespace Go.Proofs.YthlmgoagnfkhdaaGreat
open Go.ChangeShapes Go.WideShapes Go.ChangeAt Go.RowKit Go.Gim
theorem open_edits {H : Type} {enc : TypeId × Value → H} {P : Program} {W : World} {t e sp : TypeId} {f0 f1 g0 g1 : Field} {b0 : Nat} {v : Value} {d : DataW H} {ps : List MemPlace} (ht : P.underlying t = some (.slice e)) (he : P.underlying e = some (.struct #[f0, f1])) (hc : P.cellsOf e = 3)
  (hs : P.underlying sp = some (.struct #[g0, g1])) (t0 : f0.type = sp ∧ f0.offset = 0 ∧ P.cellsOf sp = 2) (o1 : f1.offset = 2 ∧ P.cellsOf f1.type = 1) (p0 : g0.offset = 0 ∧ P.cellsOf g0.type = 1) (p1 : g1.offset = 1 ∧ P.cellsOf g1.type = 1)
  (u0 : P.underlying g0.type = some (.int .i64)) (u1 : P.underlying g1.type = some (.int .i64)) (u2 : P.underlying f1.type = some .string)
  (hval : Value.okWide P W .any b0 t v) (hd : DataW.Trod enc P W 0 (fun _ => true) true t v d ps) :
  ∃ (ao : Option Addr) (cap : Nat) (es : List Ed), v = .slice ao es.length cap ∧ Reads W 3 ao es.length (edE.cells es) ∧ es.length ≤ maxLen ∧ ∀ e ∈ es, e.t.size ≤ maxLen ∧ (Lit.int .i64 e.a).wf = true ∧ (Lit.int .i64 e.b).wf = true := by
 obtain ⟨ao, cap, els, rfl, hr, hm, hel⟩ := open_slice_reads (enc := enc) 3 ht hc (by omega) hval hd
 obtain ⟨L, rfl, hq⟩ := list_choose edE.f (fun e => e.t.size ≤ maxLen ∧ (Lit.int .i64 e.a).wf = true ∧ (Lit.int .i64 e.b).wf = true) els (fun el h => by
  obtain ⟨hl, n, x, hx⟩ := hel el h
  obtain ⟨y0, y1, m, _, _, h0, h1⟩ := trod_struct2 he hx
  obtain ⟨c0, c1, c2, hcs⟩ := Go.Joins.array3 (cs := el.toArray) (by simpa using hl)
  have hcs : el = [c0, c1, c2] := by simpa using congrArg Array.toList hcs
  subst hcs
  rw [t0.2.1, t0.1, t0.2.2] at h0
  rw [o1.1, o1.2] at h1
  simp at h0 h1
  obtain ⟨z0, z1, m2, _, _, k0, k1⟩ := trod_struct2 hs h0
  rw [p0.1, p0.2] at k0
  rw [p1.1, p1.2] at k1
  simp at k0 k1
  obtain ⟨a0, e0, _, l0⟩ := DataW.trod_int u0 k0
  obtain ⟨a1, e1, _, l1⟩ := DataW.trod_int u1 k1
  obtain ⟨a2, e2, _, l2⟩ := DataW.trod_string u2 h1
  simp at e0 e1 e2
  subst e0 e1 e2
  exact ⟨⟨a0, a1, a2⟩, rfl, l2, l0, l1⟩)
 rw [show (L.map edE.f).flatten = edE.cells L from rfl, List.length_map] at hr
 rw [List.length_map] at hm ⊢
 exact ⟨ao, cap, L, rfl, hr, hm, hq⟩
end Go.Proofs.YthlmgoagnfkhdaaGreat

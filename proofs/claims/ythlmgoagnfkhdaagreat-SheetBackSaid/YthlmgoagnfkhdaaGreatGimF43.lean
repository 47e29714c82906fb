/- A deed of gimletlaw10, done to a sheet and to the document's paper: edits near the text, edits of what is typed, of what is erased, any edits. Conditions: a text of at most 60000 bytes, at most 6 edits, 40 bytes, 6 selections in a deed. -/
import Derived.Test.YthlmgoagnfkhdaaGreatGimF42
import Derived.Test.YthlmgoagnfkhdaaGreatGimF30
import Derived.Test.YthlmgoagnfkhdaaGreatGimF05
set_option maxHeartbeats 6400000
set_option maxRecDepth 1000000
set_option linter.unusedVariables false
set_option linter.unusedSimpArgs false
namespace Go.Gim
theorem backC_len {s : ByteArray} {es : List Ed} (hs : s.size ≤ 65536) (ht : ∀ e ∈ es, e.t.size ≤ 100000) : (backC s es).length ≤ es.length := by
 unfold backC
 split
 ·rename_i h
  obtain ⟨h1, _⟩ := mayE_zero h
  have hok : ∀ e ∈ sorted lessE es, EdOk e := fun e he => by
   have he := (sorted_mem lessE es e).1 he
   obtain ⟨h2, h3, h4⟩ := rangedE_mem h1 e he
   exact ⟨h2, h3, by omega, ht e he⟩
  have := (backT_bd (s := s) hok (sorted lessE es).length (Nat.le_refl _)).len
  rw [List.take_of_length_le (Nat.le_refl _), sorted_length] at this
  exact this
 ·simp
end Go.Gim
namespace Go.Proofs.YthlmgoagnfkhdaaGreat
open Go.RowKit Go.Gim
def dsV (x : Ds) : Value := .agg #[.int .i64 x.k, .int .i64 x.a, .int .i64 x.b, .bool x.p, .string x.t, .slice x.ao x.es.length x.cap, .slice x.so x.sl.length x.scap]
structure DsFit (x : Ds) : Prop where
 es : x.es.length ≤ 6
 et : ∀ e ∈ x.es, e.t.size ≤ 40
 t : x.t.size ≤ 40
 sl : x.sl.length ≤ 6
def DoesPost (w0 : World) (S : Sh) (p : Pp) (Bd : Int) (e : Ending) (w' : World) : Prop :=
 e = .returned (.bool true) ∧ ∃ S' p', Both w0 w' S' p' (Bd + 2000000) 6 ∧ S'.s.size ≤ S.s.size + 300 ∧ S'.sb = S.sb ∧ p'.pb = p.pb ∧ S'.R.D = S.R.D ∧ S'.tb = S.tb ∧ S'.mb = S.mb ∧ S'.last ≤ S.last + 1
theorem doesS_near (x : Ds) (hk : ((lowN x.k 8 : Nat) : Int) = 0) (w0 w : World) (S : Sh) (p : Pp) (Bd : Int) (h : Both w0 w S p Bd 6) (hB2 : Bd ≤ 800000000) (hs : S.s.size ≤ 60000) (hok : DsOk w0 x) (hf : DsFit x) :
  Calls Tryz.prog 36 #[.pointer (some ⟨S.sb, 0, none⟩), .pointer (some ⟨p.pb, 0, none⟩), dsV x] w (DoesPost w0 S p Bd) := by
 have HE := Lib.hid (fun w' (h' : Ext w0 w') => editsN_any S.s.size x.ao x.cap x.es w' (hok.rd.mod h' (fun _ _ f => f)) (by have := hf.es; omega) (by omega))
 have Hn := Lib.hid (show (editsN S.s.size x.es).length ≤ 6 by rw [editsN_len]; exact hf.es)
 have Ht := Lib.hid (show ∀ e ∈ editsN S.s.size x.es, e.t.size ≤ 40 from editsN_t hf.et)
 unfold Enc.Out at HE
 generalize editsN S.s.size x.es = ES at *
 have HB := Lib.hid h
 clear h hok hf
 have L8 := lowC x.k 8 8 rfl (by omega) (by omega)
 rw [hk] at L8
 have HL := Lib.hid L8
 obtain ⟨u, hu⟩ : ∃ u, u = w.alloc (.cells #[.int .i64 x.k, .int .i64 x.a, .int .i64 x.b, .bool x.p, .string x.t, .slice x.ao x.es.length x.cap, .slice x.so x.sl.length x.scap] 79) := ⟨_, rfl⟩
 have hxu : Ext w u := by rw [hu]; exact (Mod.refl _ w).alloc _
 have hbd : Blk u w.heap.size 79 #[.int .i64 x.k, .int .i64 x.a, .int .i64 x.b, .bool x.p, .string x.t, .slice x.ao x.es.length x.cap, .slice x.so x.sl.length x.scap] := by rw [hu]; exact Blk.new w _ _
 have HB1 := Lib.hid (HB.out.on hxu)
 try unfold dsV
 clear L8 hk
 go_enter Tryz.func36, Tryz.ntmps36
 go_upto_region 1 with fail
 rw [← hu]
 clear hu
 have c0 := hbd.cell 0
 have c1 := hbd.cell 1
 have c2 := hbd.cell 2
 have c3 := hbd.cell 3
 have c4 := hbd.cell 4
 have c5 := hbd.cell 5
 have c6 := hbd.cell 6
 simp only [List.getElem?_toArray, List.getElem?_cons_zero, List.getElem?_cons_succ] at c0 c1 c2 c3 c4 c5 c6
 have hltd := hbd.lt
 have d0 := HB1.out.pap.blk.cell 0
 simp only [List.getElem?_toArray, List.getElem?_cons_zero] at d0
 have hlp := HB1.out.pap.blk.lt
 go_wp2_with fail
 refine (HL.out _).mono ?_
 rintro e v0 ⟨rfl, rfl⟩
 have HE1 := Lib.hid (HE.out v0 HB1.out.ext)
 clear HE
 go_wp2_with fail
 refine HE1.out.mono ?_
 rintro e wz ⟨v, rfl, ho, hx1⟩
 have Ho := Lib.hid ho
 obtain ⟨az, cz, rfl, hr⟩ := Enc.owns_reads (E := edE) ho
 have Hes := Lib.hid hr
 have HZ := Lib.hid (HB1.out.on hx1)
 have Hf1 := Lib.hid (show 0 < ES.length → ∀ a, az = some a → ¬ ShS S a.block from fun _ a ha => HB1.out.sh.free (Ho.out.lt a.block (by rw [ha]; rfl)).1)
 have Hf2 := Lib.hid (show ∀ w2, Mod (ShS S) wz w2 → 0 < ES.length → ∀ a, az = some a → ¬ PapS w0.heap.size w2 a.block from fun w2 hm hz a ha => own_notpap (own_mod Ho.out hm (fun a ha => Hf1.out hz a ha)) papT_ed a.block (by rw [ha]; rfl))
 clear ho hr hx1 HE1 c0 c1 c2 c3 c4 c5 c6 hltd d0 hlp hxu hbd
 have hn19 : ES.length ≤ 19 := by have := Hn.out; omega
 have hte : ∀ e ∈ ES, e.t.size ≤ 100000 := fun e he => by have := Ht.out e he; omega
 have HDo := Lib.hid (sdo_all S Bd az cz ES wz HZ.out.sh (by omega) Hes.out hn19 hte Hf1.out HZ.out.q0 (by have := HZ.out.q1; omega) HZ.out.inq HZ.out.tok HZ.out.bd (by omega))
 have HPd := Lib.hid (fun w' hp hB' hr hf => pdo_all w0.heap.size p S.s S.q S.L S.last Bd az cz ES w' hp hB' (by omega) hr hn19 hte hf HZ.out.q0 (by have := HZ.out.q1; omega) HZ.out.inq HZ.out.tok HZ.out.bd (by omega))
 have hKl := Lib.hid (show (backC S.s ES).length ≤ 1000000 by have := backC_len (s := S.s) (es := ES) (by omega) hte; omega)
 generalize backC S.s ES = K at *
 generalize mayE S.s.size ES = C at *
 go_wp2_with fail
 refine HDo.out.mono ?_
 rintro e w2 ⟨S', a2, c2, rfl, ho2, hf2, hd, e1, e2, e3, e4⟩
 have Hd := Lib.hid hd
 have E1 := Lib.hid e1
 have E2 := Lib.hid e2
 have E3 := Lib.hid e3
 have E4 := Lib.hid e4
 have Ho2 := Lib.hid ho2
 have Hp2 := Lib.hid (HZ.out.half hd)
 have He2 := Lib.hid (reads_mod0 Hes.out hd.mod Hf1.out)
 have HP2 := Lib.hid (HPd.out w2 Hp2.out.1 Hp2.out.2.2.size He2.out (Hf2.out w2 hd.mod))
 skip
 clear hd e1 e2 e3 e4 ho2 hf2 HDo HPd
 go_wp2_with fail
 refine HP2.out.mono ?_
 rintro e w3 ⟨p', a3, c3, rfl, ho3, hpb, hp3, hm3⟩
 have HW := Lib.hid (Both.done HZ.out (by omega) hn19 Ht.out (by omega) Hd.out E1.out E2.out E3.out E4.out hp3 hm3)
 have Hq2 := Lib.hid (Reads.own (owned_pap Ho2.out hm3))
 have HSm := Lib.hid (editsSame a2 a3 c2 c3 K w3 Hq2.out (Reads.own ho3) hKl.out)
 have Hpb := Lib.hid hpb
 have hcc : (C == C) = true := by simp
 clear ho3 hpb hp3 hm3 HP2 Ho2
 go_wp2_with fail
 refine HSm.out.mono ?_
 rintro e w4 ⟨rfl, hx4⟩
 go_wp2_with fail
 go_ret
 exact ⟨rfl, S', p', HW.out.1.on hx4, by have := HW.out.2; have := Hn.out; have : ES.length * 40 ≤ 6 * 40 := Nat.mul_le_mul_right _ this; omega, Hd.out.sb, Hpb.out, Hd.out.sv, Hd.out.tabs.1, Hd.out.tabs.2, by rw [E3.out]; omega⟩
theorem doesS_whatever (x : Ds) (hk : ((lowN x.k 8 : Nat) : Int) = 7) (w0 w : World) (S : Sh) (p : Pp) (Bd : Int) (h : Both w0 w S p Bd 6) (hB2 : Bd ≤ 800000000) (hs : S.s.size ≤ 60000) (hok : DsOk w0 x) (hf : DsFit x) :
  Calls Tryz.prog 36 #[.pointer (some ⟨S.sb, 0, none⟩), .pointer (some ⟨p.pb, 0, none⟩), dsV x] w (DoesPost w0 S p Bd) := by
 have Hn := Lib.hid hf.es
 have Ht := Lib.hid hf.et
 have HB := Lib.hid h
 have Hes0 := Lib.hid (fun w' (h' : Ext w0 w') => hok.rd.mod h' (fun _ _ f => f))
 have Hlt := Lib.hid (fun (hz : 0 < x.es.length) a (ha : x.ao = some a) => ed_lt hok.rd hz ha)
 unfold dsV
 obtain ⟨xk, xa, xb, xp, xt, az, cz, ES, so, sc, sl⟩ := x
 simp only at hk Hn Ht Hes0 Hlt ⊢
 clear h hok hf
 have L8 := lowC xk 8 8 rfl (by omega) (by omega)
 rw [hk] at L8
 have HL := Lib.hid L8
 obtain ⟨u, hu⟩ : ∃ u, u = w.alloc (.cells #[.int .i64 xk, .int .i64 xa, .int .i64 xb, .bool xp, .string xt, .slice az ES.length cz, .slice so sl.length sc] 79) := ⟨_, rfl⟩
 have hxu : Ext w u := by rw [hu]; exact (Mod.refl _ w).alloc _
 have hbd : Blk u w.heap.size 79 #[.int .i64 xk, .int .i64 xa, .int .i64 xb, .bool xp, .string xt, .slice az ES.length cz, .slice so sl.length sc] := by rw [hu]; exact Blk.new w _ _
 have HB1 := Lib.hid (HB.out.on hxu)
 try unfold dsV
 clear L8 hk
 go_enter Tryz.func36, Tryz.ntmps36
 go_upto_region 1 with fail
 rw [← hu]
 clear hu
 have c0 := hbd.cell 0
 have c1 := hbd.cell 1
 have c2 := hbd.cell 2
 have c3 := hbd.cell 3
 have c4 := hbd.cell 4
 have c5 := hbd.cell 5
 have c6 := hbd.cell 6
 simp only [List.getElem?_toArray, List.getElem?_cons_zero, List.getElem?_cons_succ] at c0 c1 c2 c3 c4 c5 c6
 have hltd := hbd.lt
 have d0 := HB1.out.pap.blk.cell 0
 simp only [List.getElem?_toArray, List.getElem?_cons_zero] at d0
 have hlp := HB1.out.pap.blk.lt
 go_wp2_with fail
 refine (HL.out _).mono ?_
 rintro e v0 ⟨rfl, rfl⟩
 obtain ⟨wz, rfl⟩ : ∃ wz, wz = v0 := ⟨_, rfl⟩
 have HZ := HB1
 have Hes := Lib.hid (Hes0.out wz HZ.out.ext)
 have Hf1 := Lib.hid (show 0 < ES.length → ∀ a, az = some a → ¬ ShS S a.block from fun hz a ha e => by have h1 := Hlt.out hz a ha; have h2 := HZ.out.own _ e; omega)
 have Hf2 := Lib.hid (show ∀ w2, Mod (ShS S) wz w2 → 0 < ES.length → ∀ a, az = some a → ¬ PapS w0.heap.size w2 a.block from fun w2 hm hz a ha e => by have h1 := Hlt.out hz a ha; have h2 := e.1; omega)
 have Hbx := Lib.hid hbd
 have Hbf := Lib.hid (HB.out.sh.free (Nat.le_refl _))
 clear Hes0 Hlt
 have hn19 : ES.length ≤ 19 := by have := Hn.out; omega
 have hte : ∀ e ∈ ES, e.t.size ≤ 100000 := fun e he => by have := Ht.out e he; omega
 have HDo := Lib.hid (sdo_all S Bd az cz ES wz HZ.out.sh (by omega) Hes.out hn19 hte Hf1.out HZ.out.q0 (by have := HZ.out.q1; omega) HZ.out.inq HZ.out.tok HZ.out.bd (by omega))
 have HPd := Lib.hid (fun w' hp hB' hr hf => pdo_all w0.heap.size p S.s S.q S.L S.last Bd az cz ES w' hp hB' (by omega) hr hn19 hte hf HZ.out.q0 (by have := HZ.out.q1; omega) HZ.out.inq HZ.out.tok HZ.out.bd (by omega))
 have hKl := Lib.hid (show (backC S.s ES).length ≤ 1000000 by have := backC_len (s := S.s) (es := ES) (by omega) hte; omega)
 generalize backC S.s ES = K at *
 generalize mayE S.s.size ES = C at *
 go_wp2_with fail
 refine HDo.out.mono ?_
 rintro e w2 ⟨S', a2, c2, rfl, ho2, hf2, hd, e1, e2, e3, e4⟩
 have Hd := Lib.hid hd
 have E1 := Lib.hid e1
 have E2 := Lib.hid e2
 have E3 := Lib.hid e3
 have E4 := Lib.hid e4
 have Ho2 := Lib.hid ho2
 have Hp2 := Lib.hid (HZ.out.half hd)
 have He2 := Lib.hid (reads_mod0 Hes.out hd.mod Hf1.out)
 have HP2 := Lib.hid (HPd.out w2 Hp2.out.1 Hp2.out.2.2.size He2.out (Hf2.out w2 hd.mod))
 have hb2 := Hbx.out.mod hd.mod Hbf.out; have c5 : w2.cell? ⟨w.heap.size, 5, none⟩ = some (.slice az ES.length cz) := hb2.cell 5; have hltd := hb2.lt
 clear hd e1 e2 e3 e4 ho2 hf2 HDo HPd
 go_wp2_with fail
 refine HP2.out.mono ?_
 rintro e w3 ⟨p', a3, c3, rfl, ho3, hpb, hp3, hm3⟩
 have HW := Lib.hid (Both.done HZ.out (by omega) hn19 Ht.out (by omega) Hd.out E1.out E2.out E3.out E4.out hp3 hm3)
 have Hq2 := Lib.hid (Reads.own (owned_pap Ho2.out hm3))
 have HSm := Lib.hid (editsSame a2 a3 c2 c3 K w3 Hq2.out (Reads.own ho3) hKl.out)
 have Hpb := Lib.hid hpb
 have hcc : (C == C) = true := by simp
 clear ho3 hpb hp3 hm3 HP2 Ho2
 go_wp2_with fail
 refine HSm.out.mono ?_
 rintro e w4 ⟨rfl, hx4⟩
 go_wp2_with fail
 go_ret
 exact ⟨rfl, S', p', HW.out.1.on hx4, by have := HW.out.2; have := Hn.out; have : ES.length * 40 ≤ 6 * 40 := Nat.mul_le_mul_right _ this; omega, Hd.out.sb, Hpb.out, Hd.out.sv, Hd.out.tabs.1, Hd.out.tabs.2, by rw [E3.out]; omega⟩
theorem doesS_typed (x : Ds) (hk : ((lowN x.k 8 : Nat) : Int) = 1) (w0 w : World) (S : Sh) (p : Pp) (Bd : Int) (h : Both w0 w S p Bd 6) (hB2 : Bd ≤ 800000000) (hs : S.s.size ≤ 60000) (hf : DsFit x) :
  Calls Tryz.prog 36 #[.pointer (some ⟨S.sb, 0, none⟩), .pointer (some ⟨p.pb, 0, none⟩), dsV x] w (DoesPost w0 S p Bd) := by
 have HE := Lib.hid (fun w' (h' : SheetAt w' S) => styped_any S x.t w' h' h.q0 (by have := h.q1; omega))
 have HTy := Lib.hid (fun a c w' (h' : Reads w' 2 a S.q.length (prCells S.q)) => rfTyped_any x.t a c S.q w' h' (by have := h.q1; omega))
 have Hn := Lib.hid (show (typedL x.t S.q).length ≤ 6 by rw [typedL_len]; exact h.q1)
 have Ht := Lib.hid (show ∀ e ∈ typedL x.t S.q, e.t.size ≤ 40 from fun e he => by
  obtain ⟨y, _, rfl⟩ := List.mem_map.1 he
  exact hf.t)
 unfold Enc.Out at HE HTy
 generalize typedL x.t S.q = ES at *
 have HB := Lib.hid h
 clear h hf
 have L8 := lowC x.k 8 8 rfl (by omega) (by omega)
 rw [hk] at L8
 have HL := Lib.hid L8
 obtain ⟨u, hu⟩ : ∃ u, u = w.alloc (.cells #[.int .i64 x.k, .int .i64 x.a, .int .i64 x.b, .bool x.p, .string x.t, .slice x.ao x.es.length x.cap, .slice x.so x.sl.length x.scap] 79) := ⟨_, rfl⟩
 have hxu : Ext w u := by rw [hu]; exact (Mod.refl _ w).alloc _
 have hbd : Blk u w.heap.size 79 #[.int .i64 x.k, .int .i64 x.a, .int .i64 x.b, .bool x.p, .string x.t, .slice x.ao x.es.length x.cap, .slice x.so x.sl.length x.scap] := by rw [hu]; exact Blk.new w _ _
 have HB1 := Lib.hid (HB.out.on hxu)
 try unfold dsV
 clear L8 hk
 go_enter Tryz.func36, Tryz.ntmps36
 go_upto_region 1 with fail
 rw [← hu]
 clear hu
 have c0 := hbd.cell 0
 have c1 := hbd.cell 1
 have c2 := hbd.cell 2
 have c3 := hbd.cell 3
 have c4 := hbd.cell 4
 have c5 := hbd.cell 5
 have c6 := hbd.cell 6
 simp only [List.getElem?_toArray, List.getElem?_cons_zero, List.getElem?_cons_succ] at c0 c1 c2 c3 c4 c5 c6
 have hltd := hbd.lt
 have d0 := HB1.out.pap.blk.cell 0
 simp only [List.getElem?_toArray, List.getElem?_cons_zero] at d0
 have hlp := HB1.out.pap.blk.lt
 go_wp2_with fail
 refine (HL.out _).mono ?_
 rintro e v0 ⟨rfl, rfl⟩
 have HE1 := Lib.hid (HE.out v0 HB1.out.sh)
 clear HE
 go_wp2_with fail
 refine HE1.out.mono ?_
 rintro e w1 ⟨v, rfl, ho, hx1⟩
 have Ho := Lib.hid ho
 obtain ⟨az, cz, rfl, hr⟩ := Enc.owns_reads (E := edE) ho
 have Hes1 := Lib.hid hr
 have HZ1 := Lib.hid (HB1.out.on hx1)
 have HT := Lib.hid (fun w' (h' : Ext w1 w') => HTy.out p.ao p.c w' (Reads.own (HZ1.out.pap.ext h').sels))
 have HS := Lib.hid (fun w' (h' : Ext w1 w') => (⟨(HZ1.out.pap.ext h').blk.cell 1, (hbd.mod (hx1.ext_trans h') (fun f => f)).cell 4, trivial, trivial⟩ : w'.cell? ⟨p.pb, 1, none⟩ = some (.slice p.ao S.q.length p.c) ∧ w'.cell? ⟨w.heap.size, 4, none⟩ = some (.string x.t) ∧ True ∧ True))
 clear ho hr HE1 HTy c0 c1 c2 c3 c4 c5 c6 hltd d0 hlp hxu
 go_upto_region 13 with fail
 refine wp_region_E (by kernel_rfl) ?_
 refine wpE_t 0 69 (v := ?_) (fun w' hw' => qat_value ?_) ?_
 rotate_left
 ·go_simp
  rfl
 simp only [fr1, fr2, fr3, fr4]
 refine wpE_t 1 70 (v := ?_) (fun w' hw' => qat_value ?_) ?_
 rotate_left
 ·go_simp
  rfl
 simp only [fr1, fr2, fr3, fr4]
 refine wpE_t 2 71 (v := ?_) (fun w' hw' => qat_value ?_) ?_
 rotate_left
 ·go_simp
  rfl
 simp only [fr1, fr2, fr3, fr4]
 refine wpE_t 3 72 (v := ?_) (fun w' hw' => qat_value ?_) ?_
 rotate_left
 ·go_simp
  rfl
 simp only [fr1, fr2, fr3, fr4]
 refine wpE_t 4 73 (v := ?_) (fun w' hw' => ?_) ?_
 rotate_left
 ·obtain ⟨r0, r1, r2, r3⟩ := HS.out w' hw'
  refine qat_value ?_
  go_simp
  rfl
 simp only [fr1, fr2, fr3, fr4]
 refine wpE_t 5 74 (v := ?_) (fun w' hw' => qat_value ?_) ?_
 rotate_left
 ·go_simp
  rfl
 simp only [fr1, fr2, fr3, fr4]
 refine wpE_t 6 75 (v := ?_) (fun w' hw' => ?_) ?_
 rotate_left
 ·obtain ⟨r0, r1, r2, r3⟩ := HS.out w' hw'
  refine qat_value ?_
  go_simp
  rfl
 simp only [fr1, fr2, fr3, fr4]
 refine wpE_callw 7 76 (f := 62) (args := #[.slice p.ao S.q.length p.c, .string x.t]) rfl rfl (by kernel_rfl) rfl (fun w' => by first | (go_simp; done) | (go_simp; exact ⟨rfl, rfl⟩)) fun wb hwb => ?_
 have hyb : Ext w1 wb := (ext_draw w1).ext_trans hwb
 refine (HT.out wb hyb).mono ?_
 rintro e wc ⟨v2, rfl, ho2, hx2⟩
 obtain ⟨ar, cr, rfl, hrr⟩ := Enc.owns_reads (E := edE) ho2
 have hyc := hyb.ext_trans hx2
 refine ⟨_, rfl, hyc, ?_⟩
 simp only [fr1, fr2, fr3, fr4]
 refine wpE_callw 8 77 (f := 35) (args := #[.slice az ES.length cz, .slice ar ES.length cr]) rfl rfl (by kernel_rfl) rfl (fun w' => by first | (go_simp; done) | (go_simp; exact ⟨rfl, rfl⟩)) fun wd hwd => ?_
 refine (editsSame az ar cz cr ES wd (Hes1.out.mod (hyc.ext_trans hwd) (fun _ _ f => f)) (hrr.mod hwd (fun _ _ f => f)) (by have := Hn.out; omega)).mono ?_
 rintro e we ⟨rfl, hx3⟩
 have hye := (hyc.ext_trans hwd).ext_trans hx3
 refine ⟨_, rfl, hye, ?_⟩
 simp only [fr1, fr2, fr3, fr4]
 refine wpE_t 9 78 (v := ?_) (fun w' hw' => qat_value ?_) ?_
 rotate_left
 ·go_simp
  rfl
 simp only [fr1, fr2, fr3, fr4]
 refine wpE_done (by kernel_rfl) (fun wz hwz => ?_) _
 have hyz := hye.ext_trans hwz
 have HZ := Lib.hid (HZ1.out.on hyz)
 have Hes := Lib.hid (Hes1.out.mod hyz (fun _ _ f => f))
 have Ho3 := Lib.hid (ownsRow_mod Ho.out hyz (fun _ _ f => f))
 have Hf1 := Lib.hid (show 0 < ES.length → ∀ a, az = some a → ¬ ShS S a.block from fun _ a ha => HB1.out.sh.free (Ho.out.lt a.block (by rw [ha]; rfl)).1)
 have Hf2 := Lib.hid (show ∀ w2, Mod (ShS S) wz w2 → 0 < ES.length → ∀ a, az = some a → ¬ PapS w0.heap.size w2 a.block from fun w2 hm hz a ha => own_notpap (own_mod Ho3.out hm (fun a ha => Hf1.out hz a ha)) papT_ed a.block (by rw [ha]; rfl))
 clear hyz hwz hye hwd hx3 hyc hx2 ho2 hrr hyb hwb hx1 HS HT hbd
 have hn19 : ES.length ≤ 19 := by have := Hn.out; omega
 have hte : ∀ e ∈ ES, e.t.size ≤ 100000 := fun e he => by have := Ht.out e he; omega
 have HDo := Lib.hid (sdo_all S Bd az cz ES wz HZ.out.sh (by omega) Hes.out hn19 hte Hf1.out HZ.out.q0 (by have := HZ.out.q1; omega) HZ.out.inq HZ.out.tok HZ.out.bd (by omega))
 have HPd := Lib.hid (fun w' hp hB' hr hf => pdo_all w0.heap.size p S.s S.q S.L S.last Bd az cz ES w' hp hB' (by omega) hr hn19 hte hf HZ.out.q0 (by have := HZ.out.q1; omega) HZ.out.inq HZ.out.tok HZ.out.bd (by omega))
 have hKl := Lib.hid (show (backC S.s ES).length ≤ 1000000 by have := backC_len (s := S.s) (es := ES) (by omega) hte; omega)
 generalize backC S.s ES = K at *
 generalize mayE S.s.size ES = C at *
 go_wp2_with fail
 refine HDo.out.mono ?_
 rintro e w2 ⟨S', a2, c2, rfl, ho2, hf2, hd, e1, e2, e3, e4⟩
 have Hd := Lib.hid hd
 have E1 := Lib.hid e1
 have E2 := Lib.hid e2
 have E3 := Lib.hid e3
 have E4 := Lib.hid e4
 have Ho2 := Lib.hid ho2
 have Hp2 := Lib.hid (HZ.out.half hd)
 have He2 := Lib.hid (reads_mod0 Hes.out hd.mod Hf1.out)
 have HP2 := Lib.hid (HPd.out w2 Hp2.out.1 Hp2.out.2.2.size He2.out (Hf2.out w2 hd.mod))
 skip
 clear hd e1 e2 e3 e4 ho2 hf2 HDo HPd
 go_wp2_with fail
 refine HP2.out.mono ?_
 rintro e w3 ⟨p', a3, c3, rfl, ho3, hpb, hp3, hm3⟩
 have HW := Lib.hid (Both.done HZ.out (by omega) hn19 Ht.out (by omega) Hd.out E1.out E2.out E3.out E4.out hp3 hm3)
 have Hq2 := Lib.hid (Reads.own (owned_pap Ho2.out hm3))
 have HSm := Lib.hid (editsSame a2 a3 c2 c3 K w3 Hq2.out (Reads.own ho3) hKl.out)
 have Hpb := Lib.hid hpb
 have hcc : (C == C) = true := by simp
 clear ho3 hpb hp3 hm3 HP2 Ho2
 go_wp2_with fail
 refine HSm.out.mono ?_
 rintro e w4 ⟨rfl, hx4⟩
 go_wp2_with fail
 go_ret
 exact ⟨rfl, S', p', HW.out.1.on hx4, by have := HW.out.2; have := Hn.out; have : ES.length * 40 ≤ 6 * 40 := Nat.mul_le_mul_right _ this; omega, Hd.out.sb, Hpb.out, Hd.out.sv, Hd.out.tabs.1, Hd.out.tabs.2, by rw [E3.out]; omega⟩
theorem doesS_erased (x : Ds) (hk : ((lowN x.k 8 : Nat) : Int) = 2) (w0 w : World) (S : Sh) (p : Pp) (Bd : Int) (h : Both w0 w S p Bd 6) (hB2 : Bd ≤ 800000000) (hs : S.s.size ≤ 60000) :
  Calls Tryz.prog 36 #[.pointer (some ⟨S.sb, 0, none⟩), .pointer (some ⟨p.pb, 0, none⟩), dsV x] w (DoesPost w0 S p Bd) := by
 have HE := Lib.hid (fun w' (h' : SheetAt w' S) => serased_any S x.p w' h' h.q0 (by have := h.q1; omega) h.inq)
 have HTy := Lib.hid (fun a c w' (h' : Reads w' 2 a S.q.length (prCells S.q)) => rfErased_any S.s x.p a c S.q w' (by omega) h' (by have := h.q1; omega) h.inq)
 have Hn := Lib.hid (show (erasedL S.s.data.toList x.p S.q).length ≤ 6 from Nat.le_trans (erasedL_len _ _ _) h.q1)
 have Ht := Lib.hid (show ∀ e ∈ erasedL S.s.data.toList x.p S.q, e.t.size ≤ 40 from fun e he => by
  obtain ⟨y, _, rfl⟩ := List.mem_map.1 he
  show (0 : Nat) ≤ 40
  omega)
 unfold Enc.Out at HE HTy
 generalize erasedL S.s.data.toList x.p S.q = ES at *
 have HB := Lib.hid h
 clear h
 have L8 := lowC x.k 8 8 rfl (by omega) (by omega)
 rw [hk] at L8
 have HL := Lib.hid L8
 obtain ⟨u, hu⟩ : ∃ u, u = w.alloc (.cells #[.int .i64 x.k, .int .i64 x.a, .int .i64 x.b, .bool x.p, .string x.t, .slice x.ao x.es.length x.cap, .slice x.so x.sl.length x.scap] 79) := ⟨_, rfl⟩
 have hxu : Ext w u := by rw [hu]; exact (Mod.refl _ w).alloc _
 have hbd : Blk u w.heap.size 79 #[.int .i64 x.k, .int .i64 x.a, .int .i64 x.b, .bool x.p, .string x.t, .slice x.ao x.es.length x.cap, .slice x.so x.sl.length x.scap] := by rw [hu]; exact Blk.new w _ _
 have HB1 := Lib.hid (HB.out.on hxu)
 try unfold dsV
 clear L8 hk
 go_enter Tryz.func36, Tryz.ntmps36
 go_upto_region 1 with fail
 rw [← hu]
 clear hu
 have c0 := hbd.cell 0
 have c1 := hbd.cell 1
 have c2 := hbd.cell 2
 have c3 := hbd.cell 3
 have c4 := hbd.cell 4
 have c5 := hbd.cell 5
 have c6 := hbd.cell 6
 simp only [List.getElem?_toArray, List.getElem?_cons_zero, List.getElem?_cons_succ] at c0 c1 c2 c3 c4 c5 c6
 have hltd := hbd.lt
 have d0 := HB1.out.pap.blk.cell 0
 simp only [List.getElem?_toArray, List.getElem?_cons_zero] at d0
 have hlp := HB1.out.pap.blk.lt
 go_wp2_with fail
 refine (HL.out _).mono ?_
 rintro e v0 ⟨rfl, rfl⟩
 have HE1 := Lib.hid (HE.out v0 HB1.out.sh)
 clear HE
 go_wp2_with fail
 refine HE1.out.mono ?_
 rintro e w1 ⟨v, rfl, ho, hx1⟩
 have Ho := Lib.hid ho
 obtain ⟨az, cz, rfl, hr⟩ := Enc.owns_reads (E := edE) ho
 have Hes1 := Lib.hid hr
 have HZ1 := Lib.hid (HB1.out.on hx1)
 have HT := Lib.hid (fun w' (h' : Ext w1 w') => HTy.out p.ao p.c w' (Reads.own (HZ1.out.pap.ext h').sels))
 have HS := Lib.hid (fun w' (h' : Ext w1 w') => (⟨(HZ1.out.pap.ext h').blk.cell 1, (hbd.mod (hx1.ext_trans h') (fun f => f)).cell 3, (HZ1.out.pap.ext h').blk.cell 0, trivial⟩ : w'.cell? ⟨p.pb, 1, none⟩ = some (.slice p.ao S.q.length p.c) ∧ w'.cell? ⟨w.heap.size, 3, none⟩ = some (.bool x.p) ∧ w'.cell? ⟨p.pb, 0, none⟩ = some (.string S.s) ∧ True))
 clear ho hr HE1 HTy c0 c1 c2 c3 c4 c5 c6 hltd d0 hlp hxu
 go_upto_region 19 with fail
 refine wp_region_E (by kernel_rfl) ?_
 refine wpE_t 0 97 (v := ?_) (fun w' hw' => qat_value ?_) ?_
 rotate_left
 ·go_simp
  rfl
 simp only [fr1, fr2, fr3, fr4]
 refine wpE_t 1 98 (v := ?_) (fun w' hw' => qat_value ?_) ?_
 rotate_left
 ·go_simp
  rfl
 simp only [fr1, fr2, fr3, fr4]
 refine wpE_t 2 99 (v := ?_) (fun w' hw' => qat_value ?_) ?_
 rotate_left
 ·go_simp
  rfl
 simp only [fr1, fr2, fr3, fr4]
 refine wpE_t 3 100 (v := ?_) (fun w' hw' => qat_value ?_) ?_
 rotate_left
 ·go_simp
  rfl
 simp only [fr1, fr2, fr3, fr4]
 refine wpE_t 4 101 (v := ?_) (fun w' hw' => ?_) ?_
 rotate_left
 ·obtain ⟨r0, r1, r2, r3⟩ := HS.out w' hw'
  refine qat_value ?_
  go_simp
  rfl
 simp only [fr1, fr2, fr3, fr4]
 refine wpE_t 5 102 (v := ?_) (fun w' hw' => qat_value ?_) ?_
 rotate_left
 ·go_simp
  rfl
 simp only [fr1, fr2, fr3, fr4]
 refine wpE_t 6 103 (v := ?_) (fun w' hw' => qat_value ?_) ?_
 rotate_left
 ·go_simp
  rfl
 simp only [fr1, fr2, fr3, fr4]
 refine wpE_t 7 104 (v := ?_) (fun w' hw' => qat_value ?_) ?_
 rotate_left
 ·go_simp
  rfl
 simp only [fr1, fr2, fr3, fr4]
 refine wpE_t 8 105 (v := ?_) (fun w' hw' => ?_) ?_
 rotate_left
 ·obtain ⟨r0, r1, r2, r3⟩ := HS.out w' hw'
  refine qat_value ?_
  go_simp
  rfl
 simp only [fr1, fr2, fr3, fr4]
 refine wpE_t 9 106 (v := ?_) (fun w' hw' => qat_value ?_) ?_
 rotate_left
 ·go_simp
  rfl
 simp only [fr1, fr2, fr3, fr4]
 refine wpE_t 10 107 (v := ?_) (fun w' hw' => ?_) ?_
 rotate_left
 ·obtain ⟨r0, r1, r2, r3⟩ := HS.out w' hw'
  refine qat_value ?_
  go_simp
  rfl
 simp only [fr1, fr2, fr3, fr4]
 refine wpE_callw 11 108 (f := 63) (args := #[.string S.s, .slice p.ao S.q.length p.c, .bool x.p]) rfl rfl (by kernel_rfl) rfl (fun w' => by first | (go_simp; done) | (go_simp; exact ⟨rfl, rfl⟩)) fun wb hwb => ?_
 have hyb : Ext w1 wb := (ext_draw w1).ext_trans hwb
 refine (HT.out wb hyb).mono ?_
 rintro e wc ⟨v2, rfl, ho2, hx2⟩
 obtain ⟨ar, cr, rfl, hrr⟩ := Enc.owns_reads (E := edE) ho2
 have hyc := hyb.ext_trans hx2
 refine ⟨_, rfl, hyc, ?_⟩
 simp only [fr1, fr2, fr3, fr4]
 refine wpE_callw 12 109 (f := 35) (args := #[.slice az ES.length cz, .slice ar ES.length cr]) rfl rfl (by kernel_rfl) rfl (fun w' => by first | (go_simp; done) | (go_simp; exact ⟨rfl, rfl⟩)) fun wd hwd => ?_
 refine (editsSame az ar cz cr ES wd (Hes1.out.mod (hyc.ext_trans hwd) (fun _ _ f => f)) (hrr.mod hwd (fun _ _ f => f)) (by have := Hn.out; omega)).mono ?_
 rintro e we ⟨rfl, hx3⟩
 have hye := (hyc.ext_trans hwd).ext_trans hx3
 refine ⟨_, rfl, hye, ?_⟩
 simp only [fr1, fr2, fr3, fr4]
 refine wpE_t 13 110 (v := ?_) (fun w' hw' => qat_value ?_) ?_
 rotate_left
 ·go_simp
  rfl
 simp only [fr1, fr2, fr3, fr4]
 refine wpE_done (by kernel_rfl) (fun wz hwz => ?_) _
 have hyz := hye.ext_trans hwz
 have HZ := Lib.hid (HZ1.out.on hyz)
 have Hes := Lib.hid (Hes1.out.mod hyz (fun _ _ f => f))
 have Ho3 := Lib.hid (ownsRow_mod Ho.out hyz (fun _ _ f => f))
 have Hf1 := Lib.hid (show 0 < ES.length → ∀ a, az = some a → ¬ ShS S a.block from fun _ a ha => HB1.out.sh.free (Ho.out.lt a.block (by rw [ha]; rfl)).1)
 have Hf2 := Lib.hid (show ∀ w2, Mod (ShS S) wz w2 → 0 < ES.length → ∀ a, az = some a → ¬ PapS w0.heap.size w2 a.block from fun w2 hm hz a ha => own_notpap (own_mod Ho3.out hm (fun a ha => Hf1.out hz a ha)) papT_ed a.block (by rw [ha]; rfl))
 clear hyz hwz hye hwd hx3 hyc hx2 ho2 hrr hyb hwb hx1 HS HT hbd
 have hn19 : ES.length ≤ 19 := by have := Hn.out; omega
 have hte : ∀ e ∈ ES, e.t.size ≤ 100000 := fun e he => by have := Ht.out e he; omega
 have HDo := Lib.hid (sdo_all S Bd az cz ES wz HZ.out.sh (by omega) Hes.out hn19 hte Hf1.out HZ.out.q0 (by have := HZ.out.q1; omega) HZ.out.inq HZ.out.tok HZ.out.bd (by omega))
 have HPd := Lib.hid (fun w' hp hB' hr hf => pdo_all w0.heap.size p S.s S.q S.L S.last Bd az cz ES w' hp hB' (by omega) hr hn19 hte hf HZ.out.q0 (by have := HZ.out.q1; omega) HZ.out.inq HZ.out.tok HZ.out.bd (by omega))
 have hKl := Lib.hid (show (backC S.s ES).length ≤ 1000000 by have := backC_len (s := S.s) (es := ES) (by omega) hte; omega)
 generalize backC S.s ES = K at *
 generalize mayE S.s.size ES = C at *
 go_wp2_with fail
 refine HDo.out.mono ?_
 rintro e w2 ⟨S', a2, c2, rfl, ho2, hf2, hd, e1, e2, e3, e4⟩
 have Hd := Lib.hid hd
 have E1 := Lib.hid e1
 have E2 := Lib.hid e2
 have E3 := Lib.hid e3
 have E4 := Lib.hid e4
 have Ho2 := Lib.hid ho2
 have Hp2 := Lib.hid (HZ.out.half hd)
 have He2 := Lib.hid (reads_mod0 Hes.out hd.mod Hf1.out)
 have HP2 := Lib.hid (HPd.out w2 Hp2.out.1 Hp2.out.2.2.size He2.out (Hf2.out w2 hd.mod))
 skip
 clear hd e1 e2 e3 e4 ho2 hf2 HDo HPd
 go_wp2_with fail
 refine HP2.out.mono ?_
 rintro e w3 ⟨p', a3, c3, rfl, ho3, hpb, hp3, hm3⟩
 have HW := Lib.hid (Both.done HZ.out (by omega) hn19 Ht.out (by omega) Hd.out E1.out E2.out E3.out E4.out hp3 hm3)
 have Hq2 := Lib.hid (Reads.own (owned_pap Ho2.out hm3))
 have HSm := Lib.hid (editsSame a2 a3 c2 c3 K w3 Hq2.out (Reads.own ho3) hKl.out)
 have Hpb := Lib.hid hpb
 have hcc : (C == C) = true := by simp
 clear ho3 hpb hp3 hm3 HP2 Ho2
 go_wp2_with fail
 refine HSm.out.mono ?_
 rintro e w4 ⟨rfl, hx4⟩
 go_wp2_with fail
 go_ret
 exact ⟨rfl, S', p', HW.out.1.on hx4, by have := HW.out.2; have := Hn.out; have : ES.length * 40 ≤ 6 * 40 := Nat.mul_le_mul_right _ this; omega, Hd.out.sb, Hpb.out, Hd.out.sv, Hd.out.tabs.1, Hd.out.tabs.2, by rw [E3.out]; omega⟩
end Go.Proofs.YthlmgoagnfkhdaaGreat

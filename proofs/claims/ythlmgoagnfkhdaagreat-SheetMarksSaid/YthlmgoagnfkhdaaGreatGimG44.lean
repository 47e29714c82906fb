/- A sheet and the document's paper of it, side by side, and edits done to both. Conditions: a text of at most 65536 bytes, at most 19 edits of at most 100000 bytes each, 1 to 19 selections in the text. -/
import Derived.Test.YthlmgoagnfkhdaaGreatGimG41
import Derived.Test.YthlmgoagnfkhdaaGreatGimG42
import Derived.Test.YthlmgoagnfkhdaaGreatGimG43
import Derived.Test.YthlmgoagnfkhdaaGreatGimG31
import Derived.Test.YthlmgoagnfkhdaaGreatGimG05
set_option maxHeartbeats 6400000
set_option maxRecDepth 1000000
set_option linter.unusedVariables false
set_option linter.unusedSimpArgs false
namespace Go.Gim
def backC (s : ByteArray) (es : List Ed) : List Ed := if mayE s.size es = 0 then backE s es else []
def textC (s : ByteArray) (es : List Ed) : ByteArray := if mayE s.size es = 0 then bs (applyL s.data.toList es) else s
def tabC (s : ByteArray) (es : List Ed) (L : Tb) : Tb := if mayE s.size es = 0 then moveT es L else L
def selC (s : ByteArray) (es : List Ed) (q : List (Int × Int)) : List (Int × Int) := if mayE s.size es = 0 then selsM es q else q
theorem textC_size {s : ByteArray} {es : List Ed} {c : Nat} (ht : ∀ e ∈ es, e.t.size ≤ c) : (textC s es).size ≤ s.size + es.length * c := by
 unfold textC
 split
 ·rename_i h
  obtain ⟨h1, h2⟩ := mayE_zero h
  have h3 := applyL_len (s := s.data.toList) h1
  have h4 := grownE_most es s.size (fun e he => ⟨(rangedE_mem h1 e he).2.1, ht e he⟩)
  have h5 : (bs (applyL s.data.toList es)).size = (applyL s.data.toList es).length := rfl
  have h6 : s.data.toList.length = s.size := rfl
  rw [h5]
  rw [h6] at h3
  omega
 ·omega
theorem textC_len {s : ByteArray} {es : List Ed} (h : mayE s.size es = 0) : ((textC s es).size : Int) = grownE s.size es ∧ (textC s es).size ≤ 65536 := by
 obtain ⟨h1, h2⟩ := mayE_zero h
 have h3 := applyL_len (s := s.data.toList) h1
 have h5 : (bs (applyL s.data.toList es)).size = (applyL s.data.toList es).length := rfl
 have h6 : s.data.toList.length = s.size := rfl
 unfold textC
 rw [if_pos h, h5]
 rw [h6] at h3
 omega
theorem selC_in {s : ByteArray} {es : List Ed} {q : List (Int × Int)} (hq : InT s.size q) : InT (textC s es).size (selC s es q) := by
 by_cases h : mayE s.size es = 0
 ·rw [(textC_len h).1]
  unfold selC
  rw [if_pos h]
  exact selsM_in (mayE_zero h).1 hq
 ·unfold textC selC
  rw [if_neg h, if_neg h]
  exact hq
theorem selC_len (s : ByteArray) (es : List Ed) (q : List (Int × Int)) : (selC s es q).length ≤ q.length := by
 unfold selC
 split
 ·exact selsM_len es q
 ·exact Nat.le_refl _
theorem selC_pos (s : ByteArray) (es : List Ed) {q : List (Int × Int)} (h : 0 < q.length) : 0 < (selC s es q).length := by
 unfold selC
 split
 ·exact selsM_pos es h
 ·exact h
theorem tabC_tok {s : ByteArray} {es : List Ed} {L : Tb} {last Bd : Int} (hs : s.size ≤ 65536) (hT : Tok L last Bd) (hn : es.length ≤ 19) (ht : ∀ e ∈ es, e.t.size ≤ 100000) (hB : 65536 ≤ Bd) : Tok (tabC s es L) last (Bd + 2000000) := by
 unfold tabC
 split
 ·rename_i h
  obtain ⟨h1, _⟩ := mayE_zero h
  have h2 := moveD_ok hT hn ht hB
  unfold moveD at h2
  rw [if_pos (rangedE_more h1 (show (s.size : Int) ≤ 65536 by omega))] at h2
  exact h2.1
 ·exact hT.mono (by omega)
theorem InT.near {n : Int} {q : List (Int × Int)} (h : InT n q) (hn : n ≤ 65536) : ∀ x ∈ q, 0 ≤ x.1 ∧ x.1 ≤ 900000000 ∧ 0 ≤ x.2 ∧ x.2 ≤ 900000000 := fun x hx => by have := h x hx; omega
end Go.Gim
namespace Go.Proofs.YthlmgoagnfkhdaaGreat
open Go.RowKit Go.Gim
theorem sdo_all (S : Sh) (Bd : Int) (ao : Option Addr) (cap : Nat) (es : List Ed) (w : World) (h : SheetAt w S) (hs : S.s.size ≤ 65536) (he : Reads w 3 ao es.length (edE.cells es)) (hn : es.length ≤ 19) (ht : ∀ e ∈ es, e.t.size ≤ 100000)
  (hfar : 0 < es.length → ∀ a, ao = some a → ¬ ShS S a.block) (hq0 : 0 < S.q.length) (hq1 : S.q.length ≤ 19) (hq : InT S.s.size S.q) (hT : Tok S.L S.last Bd) (hB : 65536 ≤ Bd) (hB2 : Bd ≤ 900000000) :
  Calls Tryz.prog 17 #[.pointer (some ⟨S.sb, 0, none⟩), .slice ao es.length cap] w fun e w' => ∃ (S' : Sh) (a : Option Addr) (c : Nat), e = .returned (.tuple #[.slice a (backC S.s es).length c, .int .i64 (mayE S.s.size es)]) ∧
   w'.ownsRow w.heap.size 59 3 (.slice a (backC S.s es).length c) (backC S.s es).length (edE.cells (backC S.s es)) ∧ (∀ ad, a = some ad → ¬ ShS S' ad.block) ∧ ShDone S S' w w' ∧ S'.s = textC S.s es ∧ S'.L = tabC S.s es S.L ∧ S'.last = S.last ∧ S'.q = selC S.s es S.q := by
 by_cases hm : mayE S.s.size es = 0
 ·unfold backC textC tabC selC
  rw [if_pos hm, if_pos hm, if_pos hm, if_pos hm, hm]
  refine (sdo_yes S Bd ao cap es w h hs he hn ht hm hfar hq0 hq1 (hq.near (by omega)) hT hB hB2).mono ?_
  rintro e w' ⟨S', a, c, rfl, ho, hf, hd, h1, h2, h3, h4⟩
  exact ⟨S', a, c, rfl, ho, hf, hd, by rw [← h1, bs_of], h2, h3, h4⟩
 ·unfold backC textC tabC selC
  rw [if_neg hm, if_neg hm, if_neg hm, if_neg hm]
  refine (sdo_no S ao cap es w h hs he hn ht hm).mono ?_
  rintro e w' ⟨rfl, hx⟩
  exact ⟨S, none, 0, rfl, World.ownsRow_nil _ _ _ _, fun ad ha => (by cases ha), ShDone.after hx (ShDone.refl (h.ext hx)), rfl, rfl, rfl, rfl⟩
theorem pdo_all (B : Nat) (p : Pp) (s : ByteArray) (q : List (Int × Int)) (L : Tb) (last Bd : Int) (ao : Option Addr) (cap : Nat) (es : List Ed) (w : World) (h : PapAt w B p s q L last) (hB : B ≤ w.heap.size) (hs : s.size ≤ 65536) (he : Reads w 3 ao es.length (edE.cells es)) (hn : es.length ≤ 19) (ht : ∀ e ∈ es, e.t.size ≤ 100000)
  (hfar : 0 < es.length → ∀ a, ao = some a → ¬ PapS B w a.block) (hq0 : 0 < q.length) (hq1 : q.length ≤ 64) (hq : InT s.size q) (hT : Tok L last Bd) (hBd : 65536 ≤ Bd) (hB2 : Bd ≤ 900000000) :
  Calls Tryz.prog 61 #[.pointer (some ⟨p.pb, 0, none⟩), .slice ao es.length cap] w fun e w' => ∃ (p' : Pp) (a : Option Addr) (c : Nat), e = .returned (.tuple #[.slice a (backC s es).length c, .int .i64 (mayE s.size es)]) ∧
   w'.ownsRow w.heap.size 59 3 (.slice a (backC s es).length c) (backC s es).length (edE.cells (backC s es)) ∧ p'.pb = p.pb ∧ PapAt w' B p' (textC s es) (selC s es q) (tabC s es L) last ∧ Mod (PapS B w) w w' := by
 by_cases hm : mayE s.size es = 0
 ·unfold backC textC tabC selC
  rw [if_pos hm, if_pos hm, if_pos hm, if_pos hm, hm]
  refine (pdo_yes B p s q L last Bd ao cap es w h hB hs he hn ht hm hfar hq0 hq1 (hq.near (by omega)) hT hBd hB2).mono ?_
  rintro e w' ⟨p', a, c, rfl, ho, hb, hp, hm'⟩
  exact ⟨p', a, c, rfl, ho, hb, hp, hm'⟩
 ·unfold backC textC tabC selC
  rw [if_neg hm, if_neg hm, if_neg hm, if_neg hm]
  refine (pdo_no B p s q L last ao cap es w h hs he hn ht hm).mono ?_
  rintro e w' ⟨rfl, hx⟩
  exact ⟨p, none, 0, rfl, World.ownsRow_nil _ _ _ _, rfl, h.ext hx, hx.any⟩
structure Both (w0 w : World) (S : Sh) (p : Pp) (Bd : Int) (m : Nat) : Prop where
 sh : SheetAt w S
 pap : PapAt w w0.heap.size p S.s S.q S.L S.last
 own : ∀ k, ShS S k → w0.heap.size ≤ k
 tok : Tok S.L S.last Bd
 bd : 65536 ≤ Bd
 q0 : 0 < S.q.length
 q1 : S.q.length ≤ m
 inq : InT S.s.size S.q
 ext : Ext w0 w
theorem Both.on {w0 w w' : World} {S : Sh} {p : Pp} {Bd : Int} {m : Nat} (h : Both w0 w S p Bd m) (hx : Ext w w') : Both w0 w' S p Bd m :=
 ⟨h.sh.ext hx, h.pap.ext hx, h.own, h.tok, h.bd, h.q0, h.q1, h.inq, h.ext.ext_trans hx⟩
theorem Both.more {w0 w : World} {S : Sh} {p : Pp} {Bd Bd' : Int} {m : Nat} (h : Both w0 w S p Bd m) (hb : Bd ≤ Bd') : Both w0 w S p Bd' m :=
 ⟨h.sh, h.pap, h.own, h.tok.mono hb, by have := h.bd; omega, h.q0, h.q1, h.inq, h.ext⟩
theorem Both.half {w0 w w1 : World} {S S' : Sh} {p : Pp} {Bd : Int} {m : Nat} (h : Both w0 w S p Bd m) (hd : ShDone S S' w w1) :
  PapAt w1 w0.heap.size p S.s S.q S.L S.last ∧ (∀ k, ShS S' k → w0.heap.size ≤ k) ∧ Ext w0 w1 := by
 refine ⟨h.pap.sheet h.sh hd.mod, fun k hk => ?_, h.ext.trans hd.mod (fun i hi e => by have := h.own i e; omega)⟩
 by_cases hl : k < w.heap.size
 ·exact h.own k (hd.grew k hl hk)
 ·have := h.ext.size; omega
theorem Both.whole {w0 w w1 w2 : World} {S S' : Sh} {p p' : Pp} {Bd Bd' : Int} {m : Nat} (h : Both w0 w S p Bd m) (hd : ShDone S S' w w1) (hp : PapAt w2 w0.heap.size p' S'.s S'.q S'.L S'.last) (hm : Mod (PapS w0.heap.size w1) w1 w2) (hT : Tok S'.L S'.last Bd') (hb : 65536 ≤ Bd') (q0 : 0 < S'.q.length) (q1 : S'.q.length ≤ m) (hq : InT S'.s.size S'.q) :
  Both w0 w2 S' p' Bd' m := by
 obtain ⟨_, h2, h3⟩ := h.half hd
 exact ⟨hd.at_.pap hm, hp, h2, hT, hb, q0, q1, hq, h3.trans hm (fun i hi e => by have := e.1; omega)⟩
theorem Both.done {w0 w w1 w2 : World} {S S' : Sh} {p p' : Pp} {Bd : Int} {m c : Nat} {es : List Ed} (h : Both w0 w S p Bd m) (hs : S.s.size ≤ 65536) (hn : es.length ≤ 19) (ht : ∀ e ∈ es, e.t.size ≤ c) (hc : c ≤ 100000) (hd : ShDone S S' w w1) (e1 : S'.s = textC S.s es) (e2 : S'.L = tabC S.s es S.L) (e3 : S'.last = S.last) (e4 : S'.q = selC S.s es S.q)
  (hp : PapAt w2 w0.heap.size p' (textC S.s es) (selC S.s es S.q) (tabC S.s es S.L) S.last) (hm : Mod (PapS w0.heap.size w1) w1 w2) : Both w0 w2 S' p' (Bd + 2000000) m ∧ S'.s.size ≤ S.s.size + es.length * c := by
 refine ⟨h.whole hd (by rw [e1, e2, e3, e4]; exact hp) hm ?_ (by have := h.bd; omega) ?_ ?_ ?_, by rw [e1]; exact textC_size ht⟩
 ·rw [e2, e3]; exact tabC_tok hs h.tok hn (fun e he => Nat.le_trans (ht e he) hc) h.bd
 ·rw [e4]; exact selC_pos _ _ h.q0
 ·rw [e4]; exact Nat.le_trans (selC_len _ _ _) h.q1
 ·rw [e1, e4]; exact selC_in h.inq
end Go.Proofs.YthlmgoagnfkhdaaGreat
namespace Go.Gim
theorem backC_len {s : ByteArray} {es : List Ed} (hs : s.size ≤ 65536) (ht : ∀ e ∈ es, e.t.size ≤ 100000) : (backC s es).length ≤ es.length := by
 unfold backC
 split
 ·rename_i h
  obtain ⟨h1, _⟩ := mayE_zero h
  have hok : ∀ e ∈ sorted lessE es, EdOk e := fun e he => by
   have he := (sorted_mem lessE es e).1 he
   obtain ⟨h2, h3, h4⟩ := rangedE_mem h1 e he
   exact ⟨h2, h3, by omega, ht e he⟩
  have := (backT_bd (s := s) hok (sorted lessE es).length (Nat.le_refl _)).len
  rw [List.take_of_length_le (Nat.le_refl _), sorted_length] at this
  exact this
 ·simp
end Go.Gim
namespace Go.Proofs.YthlmgoagnfkhdaaGreat
open Go.RowKit Go.Gim
def dsV (x : Ds) : Value := .agg #[.int .i64 x.k, .int .i64 x.a, .int .i64 x.b, .bool x.p, .string x.t, .slice x.ao x.es.length x.cap, .slice x.so x.sl.length x.scap]
structure DsFit (x : Ds) : Prop where
 es : x.es.length ≤ 6
 et : ∀ e ∈ x.es, e.t.size ≤ 40
 t : x.t.size ≤ 40
 sl : x.sl.length ≤ 6
def DoesPost (w0 : World) (S : Sh) (p : Pp) (Bd : Int) (e : Ending) (w' : World) : Prop :=
 e = .returned (.bool true) ∧ ∃ S' p', Both w0 w' S' p' (Bd + 2000000) 6 ∧ S'.s.size ≤ S.s.size + 300 ∧ S'.sb = S.sb ∧ p'.pb = p.pb ∧ S'.R.D = S.R.D ∧ S'.tb = S.tb ∧ S'.mb = S.mb ∧ S'.last ≤ S.last + 1
theorem doesS_near (x : Ds) (hk : ((lowN x.k 8 : Nat) : Int) = 0) (w0 w : World) (S : Sh) (p : Pp) (Bd : Int) (h : Both w0 w S p Bd 6) (hB2 : Bd ≤ 800000000) (hs : S.s.size ≤ 60000) (hok : DsOk w0 x) (hf : DsFit x) :
  Calls Tryz.prog 36 #[.pointer (some ⟨S.sb, 0, none⟩), .pointer (some ⟨p.pb, 0, none⟩), dsV x] w (DoesPost w0 S p Bd) := by
 have HE := Lib.hid (fun w' (h' : Ext w0 w') => editsN_any S.s.size x.ao x.cap x.es w' (hok.rd.mod h' (fun _ _ f => f)) (by have := hf.es; omega) (by omega))
 have Hn := Lib.hid (show (editsN S.s.size x.es).length ≤ 6 by rw [editsN_len]; exact hf.es)
 have Ht := Lib.hid (show ∀ e ∈ editsN S.s.size x.es, e.t.size ≤ 40 from editsN_t hf.et)
 unfold Enc.Out at HE
 generalize editsN S.s.size x.es = ES at *
 have HB := Lib.hid h
 clear h hok hf
 have L8 := lowC x.k 8 8 rfl (by omega) (by omega)
 rw [hk] at L8
 have HL := Lib.hid L8
 obtain ⟨u, hu⟩ : ∃ u, u = w.alloc (.cells #[.int .i64 x.k, .int .i64 x.a, .int .i64 x.b, .bool x.p, .string x.t, .slice x.ao x.es.length x.cap, .slice x.so x.sl.length x.scap] 79) := ⟨_, rfl⟩
 have hxu : Ext w u := by rw [hu]; exact (Mod.refl _ w).alloc _
 have hbd : Blk u w.heap.size 79 #[.int .i64 x.k, .int .i64 x.a, .int .i64 x.b, .bool x.p, .string x.t, .slice x.ao x.es.length x.cap, .slice x.so x.sl.length x.scap] := by rw [hu]; exact Blk.new w _ _
 have HB1 := Lib.hid (HB.out.on hxu)
 try unfold dsV
 clear L8 hk
 go_enter Tryz.func36, Tryz.ntmps36
 go_upto_region 1 with fail
 rw [← hu]
 clear hu
 have c0 := hbd.cell 0
 have c1 := hbd.cell 1
 have c2 := hbd.cell 2
 have c3 := hbd.cell 3
 have c4 := hbd.cell 4
 have c5 := hbd.cell 5
 have c6 := hbd.cell 6
 simp only [List.getElem?_toArray, List.getElem?_cons_zero, List.getElem?_cons_succ] at c0 c1 c2 c3 c4 c5 c6
 have hltd := hbd.lt
 have d0 := HB1.out.pap.blk.cell 0
 simp only [List.getElem?_toArray, List.getElem?_cons_zero] at d0
 have hlp := HB1.out.pap.blk.lt
 go_wp2_with fail
 refine (HL.out _).mono ?_
 rintro e v0 ⟨rfl, rfl⟩
 have HE1 := Lib.hid (HE.out v0 HB1.out.ext)
 clear HE
 go_wp2_with fail
 refine HE1.out.mono ?_
 rintro e wz ⟨v, rfl, ho, hx1⟩
 have Ho := Lib.hid ho
 obtain ⟨az, cz, rfl, hr⟩ := Enc.owns_reads (E := edE) ho
 have Hes := Lib.hid hr
 have HZ := Lib.hid (HB1.out.on hx1)
 have Hf1 := Lib.hid (show 0 < ES.length → ∀ a, az = some a → ¬ ShS S a.block from fun _ a ha => HB1.out.sh.free (Ho.out.lt a.block (by rw [ha]; rfl)).1)
 have Hf2 := Lib.hid (show ∀ w2, Mod (ShS S) wz w2 → 0 < ES.length → ∀ a, az = some a → ¬ PapS w0.heap.size w2 a.block from fun w2 hm hz a ha => own_notpap (own_mod Ho.out hm (fun a ha => Hf1.out hz a ha)) papT_ed a.block (by rw [ha]; rfl))
 clear ho hr hx1 HE1 c0 c1 c2 c3 c4 c5 c6 hltd d0 hlp hxu hbd
 have hn19 : ES.length ≤ 19 := by have := Hn.out; omega
 have hte : ∀ e ∈ ES, e.t.size ≤ 100000 := fun e he => by have := Ht.out e he; omega
 have HDo := Lib.hid (sdo_all S Bd az cz ES wz HZ.out.sh (by omega) Hes.out hn19 hte Hf1.out HZ.out.q0 (by have := HZ.out.q1; omega) HZ.out.inq HZ.out.tok HZ.out.bd (by omega))
 have HPd := Lib.hid (fun w' hp hB' hr hf => pdo_all w0.heap.size p S.s S.q S.L S.last Bd az cz ES w' hp hB' (by omega) hr hn19 hte hf HZ.out.q0 (by have := HZ.out.q1; omega) HZ.out.inq HZ.out.tok HZ.out.bd (by omega))
 have hKl := Lib.hid (show (backC S.s ES).length ≤ 1000000 by have := backC_len (s := S.s) (es := ES) (by omega) hte; omega)
 generalize backC S.s ES = K at *
 generalize mayE S.s.size ES = C at *
 go_wp2_with fail
 refine HDo.out.mono ?_
 rintro e w2 ⟨S', a2, c2, rfl, ho2, hf2, hd, e1, e2, e3, e4⟩
 have Hd := Lib.hid hd
 have E1 := Lib.hid e1
 have E2 := Lib.hid e2
 have E3 := Lib.hid e3
 have E4 := Lib.hid e4
 have Ho2 := Lib.hid ho2
 have Hp2 := Lib.hid (HZ.out.half hd)
 have He2 := Lib.hid (reads_mod0 Hes.out hd.mod Hf1.out)
 have HP2 := Lib.hid (HPd.out w2 Hp2.out.1 Hp2.out.2.2.size He2.out (Hf2.out w2 hd.mod))
 skip
 clear hd e1 e2 e3 e4 ho2 hf2 HDo HPd
 go_wp2_with fail
 refine HP2.out.mono ?_
 rintro e w3 ⟨p', a3, c3, rfl, ho3, hpb, hp3, hm3⟩
 have HW := Lib.hid (Both.done HZ.out (by omega) hn19 Ht.out (by omega) Hd.out E1.out E2.out E3.out E4.out hp3 hm3)
 have Hq2 := Lib.hid (Reads.own (owned_pap Ho2.out hm3))
 have HSm := Lib.hid (editsSame a2 a3 c2 c3 K w3 Hq2.out (Reads.own ho3) hKl.out)
 have Hpb := Lib.hid hpb
 have hcc : (C == C) = true := by simp
 clear ho3 hpb hp3 hm3 HP2 Ho2
 go_wp2_with fail
 refine HSm.out.mono ?_
 rintro e w4 ⟨rfl, hx4⟩
 go_wp2_with fail
 go_ret
 exact ⟨rfl, S', p', HW.out.1.on hx4, by have := HW.out.2; have := Hn.out; have : ES.length * 40 ≤ 6 * 40 := Nat.mul_le_mul_right _ this; omega, Hd.out.sb, Hpb.out, Hd.out.sv, Hd.out.tabs.1, Hd.out.tabs.2, by rw [E3.out]; omega⟩
theorem doesS_whatever (x : Ds) (hk : ((lowN x.k 8 : Nat) : Int) = 7) (w0 w : World) (S : Sh) (p : Pp) (Bd : Int) (h : Both w0 w S p Bd 6) (hB2 : Bd ≤ 800000000) (hs : S.s.size ≤ 60000) (hok : DsOk w0 x) (hf : DsFit x) :
  Calls Tryz.prog 36 #[.pointer (some ⟨S.sb, 0, none⟩), .pointer (some ⟨p.pb, 0, none⟩), dsV x] w (DoesPost w0 S p Bd) := by
 have Hn := Lib.hid hf.es
 have Ht := Lib.hid hf.et
 have HB := Lib.hid h
 have Hes0 := Lib.hid (fun w' (h' : Ext w0 w') => hok.rd.mod h' (fun _ _ f => f))
 have Hlt := Lib.hid (fun (hz : 0 < x.es.length) a (ha : x.ao = some a) => ed_lt hok.rd hz ha)
 unfold dsV
 obtain ⟨xk, xa, xb, xp, xt, az, cz, ES, so, sc, sl⟩ := x
 simp only at hk Hn Ht Hes0 Hlt ⊢
 clear h hok hf
 have L8 := lowC xk 8 8 rfl (by omega) (by omega)
 rw [hk] at L8
 have HL := Lib.hid L8
 obtain ⟨u, hu⟩ : ∃ u, u = w.alloc (.cells #[.int .i64 xk, .int .i64 xa, .int .i64 xb, .bool xp, .string xt, .slice az ES.length cz, .slice so sl.length sc] 79) := ⟨_, rfl⟩
 have hxu : Ext w u := by rw [hu]; exact (Mod.refl _ w).alloc _
 have hbd : Blk u w.heap.size 79 #[.int .i64 xk, .int .i64 xa, .int .i64 xb, .bool xp, .string xt, .slice az ES.length cz, .slice so sl.length sc] := by rw [hu]; exact Blk.new w _ _
 have HB1 := Lib.hid (HB.out.on hxu)
 try unfold dsV
 clear L8 hk
 go_enter Tryz.func36, Tryz.ntmps36
 go_upto_region 1 with fail
 rw [← hu]
 clear hu
 have c0 := hbd.cell 0
 have c1 := hbd.cell 1
 have c2 := hbd.cell 2
 have c3 := hbd.cell 3
 have c4 := hbd.cell 4
 have c5 := hbd.cell 5
 have c6 := hbd.cell 6
 simp only [List.getElem?_toArray, List.getElem?_cons_zero, List.getElem?_cons_succ] at c0 c1 c2 c3 c4 c5 c6
 have hltd := hbd.lt
 have d0 := HB1.out.pap.blk.cell 0
 simp only [List.getElem?_toArray, List.getElem?_cons_zero] at d0
 have hlp := HB1.out.pap.blk.lt
 go_wp2_with fail
 refine (HL.out _).mono ?_
 rintro e v0 ⟨rfl, rfl⟩
 obtain ⟨wz, rfl⟩ : ∃ wz, wz = v0 := ⟨_, rfl⟩
 have HZ := HB1
 have Hes := Lib.hid (Hes0.out wz HZ.out.ext)
 have Hf1 := Lib.hid (show 0 < ES.length → ∀ a, az = some a → ¬ ShS S a.block from fun hz a ha e => by have h1 := Hlt.out hz a ha; have h2 := HZ.out.own _ e; omega)
 have Hf2 := Lib.hid (show ∀ w2, Mod (ShS S) wz w2 → 0 < ES.length → ∀ a, az = some a → ¬ PapS w0.heap.size w2 a.block from fun w2 hm hz a ha e => by have h1 := Hlt.out hz a ha; have h2 := e.1; omega)
 have Hbx := Lib.hid hbd
 have Hbf := Lib.hid (HB.out.sh.free (Nat.le_refl _))
 clear Hes0 Hlt
 have hn19 : ES.length ≤ 19 := by have := Hn.out; omega
 have hte : ∀ e ∈ ES, e.t.size ≤ 100000 := fun e he => by have := Ht.out e he; omega
 have HDo := Lib.hid (sdo_all S Bd az cz ES wz HZ.out.sh (by omega) Hes.out hn19 hte Hf1.out HZ.out.q0 (by have := HZ.out.q1; omega) HZ.out.inq HZ.out.tok HZ.out.bd (by omega))
 have HPd := Lib.hid (fun w' hp hB' hr hf => pdo_all w0.heap.size p S.s S.q S.L S.last Bd az cz ES w' hp hB' (by omega) hr hn19 hte hf HZ.out.q0 (by have := HZ.out.q1; omega) HZ.out.inq HZ.out.tok HZ.out.bd (by omega))
 have hKl := Lib.hid (show (backC S.s ES).length ≤ 1000000 by have := backC_len (s := S.s) (es := ES) (by omega) hte; omega)
 generalize backC S.s ES = K at *
 generalize mayE S.s.size ES = C at *
 go_wp2_with fail
 refine HDo.out.mono ?_
 rintro e w2 ⟨S', a2, c2, rfl, ho2, hf2, hd, e1, e2, e3, e4⟩
 have Hd := Lib.hid hd
 have E1 := Lib.hid e1
 have E2 := Lib.hid e2
 have E3 := Lib.hid e3
 have E4 := Lib.hid e4
 have Ho2 := Lib.hid ho2
 have Hp2 := Lib.hid (HZ.out.half hd)
 have He2 := Lib.hid (reads_mod0 Hes.out hd.mod Hf1.out)
 have HP2 := Lib.hid (HPd.out w2 Hp2.out.1 Hp2.out.2.2.size He2.out (Hf2.out w2 hd.mod))
 have hb2 := Hbx.out.mod hd.mod Hbf.out; have c5 : w2.cell? ⟨w.heap.size, 5, none⟩ = some (.slice az ES.length cz) := hb2.cell 5; have hltd := hb2.lt
 clear hd e1 e2 e3 e4 ho2 hf2 HDo HPd
 go_wp2_with fail
 refine HP2.out.mono ?_
 rintro e w3 ⟨p', a3, c3, rfl, ho3, hpb, hp3, hm3⟩
 have HW := Lib.hid (Both.done HZ.out (by omega) hn19 Ht.out (by omega) Hd.out E1.out E2.out E3.out E4.out hp3 hm3)
 have Hq2 := Lib.hid (Reads.own (owned_pap Ho2.out hm3))
 have HSm := Lib.hid (editsSame a2 a3 c2 c3 K w3 Hq2.out (Reads.own ho3) hKl.out)
 have Hpb := Lib.hid hpb
 have hcc : (C == C) = true := by simp
 clear ho3 hpb hp3 hm3 HP2 Ho2
 go_wp2_with fail
 refine HSm.out.mono ?_
 rintro e w4 ⟨rfl, hx4⟩
 go_wp2_with fail
 go_ret
 exact ⟨rfl, S', p', HW.out.1.on hx4, by have := HW.out.2; have := Hn.out; have : ES.length * 40 ≤ 6 * 40 := Nat.mul_le_mul_right _ this; omega, Hd.out.sb, Hpb.out, Hd.out.sv, Hd.out.tabs.1, Hd.out.tabs.2, by rw [E3.out]; omega⟩
theorem doesS_typed (x : Ds) (hk : ((lowN x.k 8 : Nat) : Int) = 1) (w0 w : World) (S : Sh) (p : Pp) (Bd : Int) (h : Both w0 w S p Bd 6) (hB2 : Bd ≤ 800000000) (hs : S.s.size ≤ 60000) (hf : DsFit x) :
  Calls Tryz.prog 36 #[.pointer (some ⟨S.sb, 0, none⟩), .pointer (some ⟨p.pb, 0, none⟩), dsV x] w (DoesPost w0 S p Bd) := by
 have HE := Lib.hid (fun w' (h' : SheetAt w' S) => styped_any S x.t w' h' h.q0 (by have := h.q1; omega))
 have HTy := Lib.hid (fun a c w' (h' : Reads w' 2 a S.q.length (prCells S.q)) => rfTyped_any x.t a c S.q w' h' (by have := h.q1; omega))
 have Hn := Lib.hid (show (typedL x.t S.q).length ≤ 6 by rw [typedL_len]; exact h.q1)
 have Ht := Lib.hid (show ∀ e ∈ typedL x.t S.q, e.t.size ≤ 40 from fun e he => by
  obtain ⟨y, _, rfl⟩ := List.mem_map.1 he
  exact hf.t)
 unfold Enc.Out at HE HTy
 generalize typedL x.t S.q = ES at *
 have HB := Lib.hid h
 clear h hf
 have L8 := lowC x.k 8 8 rfl (by omega) (by omega)
 rw [hk] at L8
 have HL := Lib.hid L8
 obtain ⟨u, hu⟩ : ∃ u, u = w.alloc (.cells #[.int .i64 x.k, .int .i64 x.a, .int .i64 x.b, .bool x.p, .string x.t, .slice x.ao x.es.length x.cap, .slice x.so x.sl.length x.scap] 79) := ⟨_, rfl⟩
 have hxu : Ext w u := by rw [hu]; exact (Mod.refl _ w).alloc _
 have hbd : Blk u w.heap.size 79 #[.int .i64 x.k, .int .i64 x.a, .int .i64 x.b, .bool x.p, .string x.t, .slice x.ao x.es.length x.cap, .slice x.so x.sl.length x.scap] := by rw [hu]; exact Blk.new w _ _
 have HB1 := Lib.hid (HB.out.on hxu)
 try unfold dsV
 clear L8 hk
 go_enter Tryz.func36, Tryz.ntmps36
 go_upto_region 1 with fail
 rw [← hu]
 clear hu
 have c0 := hbd.cell 0
 have c1 := hbd.cell 1
 have c2 := hbd.cell 2
 have c3 := hbd.cell 3
 have c4 := hbd.cell 4
 have c5 := hbd.cell 5
 have c6 := hbd.cell 6
 simp only [List.getElem?_toArray, List.getElem?_cons_zero, List.getElem?_cons_succ] at c0 c1 c2 c3 c4 c5 c6
 have hltd := hbd.lt
 have d0 := HB1.out.pap.blk.cell 0
 simp only [List.getElem?_toArray, List.getElem?_cons_zero] at d0
 have hlp := HB1.out.pap.blk.lt
 go_wp2_with fail
 refine (HL.out _).mono ?_
 rintro e v0 ⟨rfl, rfl⟩
 have HE1 := Lib.hid (HE.out v0 HB1.out.sh)
 clear HE
 go_wp2_with fail
 refine HE1.out.mono ?_
 rintro e w1 ⟨v, rfl, ho, hx1⟩
 have Ho := Lib.hid ho
 obtain ⟨az, cz, rfl, hr⟩ := Enc.owns_reads (E := edE) ho
 have Hes1 := Lib.hid hr
 have HZ1 := Lib.hid (HB1.out.on hx1)
 have HT := Lib.hid (fun w' (h' : Ext w1 w') => HTy.out p.ao p.c w' (Reads.own (HZ1.out.pap.ext h').sels))
 have HS := Lib.hid (fun w' (h' : Ext w1 w') => (⟨(HZ1.out.pap.ext h').blk.cell 1, (hbd.mod (hx1.ext_trans h') (fun f => f)).cell 4, trivial, trivial⟩ : w'.cell? ⟨p.pb, 1, none⟩ = some (.slice p.ao S.q.length p.c) ∧ w'.cell? ⟨w.heap.size, 4, none⟩ = some (.string x.t) ∧ True ∧ True))
 clear ho hr HE1 HTy c0 c1 c2 c3 c4 c5 c6 hltd d0 hlp hxu
 go_upto_region 13 with fail
 refine wp_region_E (by kernel_rfl) ?_
 refine wpE_t 0 69 (v := ?_) (fun w' hw' => qat_value ?_) ?_
 rotate_left
 ·go_simp
  rfl
 simp only [fr1, fr2, fr3, fr4]
 refine wpE_t 1 70 (v := ?_) (fun w' hw' => qat_value ?_) ?_
 rotate_left
 ·go_simp
  rfl
 simp only [fr1, fr2, fr3, fr4]
 refine wpE_t 2 71 (v := ?_) (fun w' hw' => qat_value ?_) ?_
 rotate_left
 ·go_simp
  rfl
 simp only [fr1, fr2, fr3, fr4]
 refine wpE_t 3 72 (v := ?_) (fun w' hw' => qat_value ?_) ?_
 rotate_left
 ·go_simp
  rfl
 simp only [fr1, fr2, fr3, fr4]
 refine wpE_t 4 73 (v := ?_) (fun w' hw' => ?_) ?_
 rotate_left
 ·obtain ⟨r0, r1, r2, r3⟩ := HS.out w' hw'
  refine qat_value ?_
  go_simp
  rfl
 simp only [fr1, fr2, fr3, fr4]
 refine wpE_t 5 74 (v := ?_) (fun w' hw' => qat_value ?_) ?_
 rotate_left
 ·go_simp
  rfl
 simp only [fr1, fr2, fr3, fr4]
 refine wpE_t 6 75 (v := ?_) (fun w' hw' => ?_) ?_
 rotate_left
 ·obtain ⟨r0, r1, r2, r3⟩ := HS.out w' hw'
  refine qat_value ?_
  go_simp
  rfl
 simp only [fr1, fr2, fr3, fr4]
 refine wpE_callw 7 76 (f := 62) (args := #[.slice p.ao S.q.length p.c, .string x.t]) rfl rfl (by kernel_rfl) rfl (fun w' => by first | (go_simp; done) | (go_simp; exact ⟨rfl, rfl⟩)) fun wb hwb => ?_
 have hyb : Ext w1 wb := (ext_draw w1).ext_trans hwb
 refine (HT.out wb hyb).mono ?_
 rintro e wc ⟨v2, rfl, ho2, hx2⟩
 obtain ⟨ar, cr, rfl, hrr⟩ := Enc.owns_reads (E := edE) ho2
 have hyc := hyb.ext_trans hx2
 refine ⟨_, rfl, hyc, ?_⟩
 simp only [fr1, fr2, fr3, fr4]
 refine wpE_callw 8 77 (f := 35) (args := #[.slice az ES.length cz, .slice ar ES.length cr]) rfl rfl (by kernel_rfl) rfl (fun w' => by first | (go_simp; done) | (go_simp; exact ⟨rfl, rfl⟩)) fun wd hwd => ?_
 refine (editsSame az ar cz cr ES wd (Hes1.out.mod (hyc.ext_trans hwd) (fun _ _ f => f)) (hrr.mod hwd (fun _ _ f => f)) (by have := Hn.out; omega)).mono ?_
 rintro e we ⟨rfl, hx3⟩
 have hye := (hyc.ext_trans hwd).ext_trans hx3
 refine ⟨_, rfl, hye, ?_⟩
 simp only [fr1, fr2, fr3, fr4]
 refine wpE_t 9 78 (v := ?_) (fun w' hw' => qat_value ?_) ?_
 rotate_left
 ·go_simp
  rfl
 simp only [fr1, fr2, fr3, fr4]
 refine wpE_done (by kernel_rfl) (fun wz hwz => ?_) _
 have hyz := hye.ext_trans hwz
 have HZ := Lib.hid (HZ1.out.on hyz)
 have Hes := Lib.hid (Hes1.out.mod hyz (fun _ _ f => f))
 have Ho3 := Lib.hid (ownsRow_mod Ho.out hyz (fun _ _ f => f))
 have Hf1 := Lib.hid (show 0 < ES.length → ∀ a, az = some a → ¬ ShS S a.block from fun _ a ha => HB1.out.sh.free (Ho.out.lt a.block (by rw [ha]; rfl)).1)
 have Hf2 := Lib.hid (show ∀ w2, Mod (ShS S) wz w2 → 0 < ES.length → ∀ a, az = some a → ¬ PapS w0.heap.size w2 a.block from fun w2 hm hz a ha => own_notpap (own_mod Ho3.out hm (fun a ha => Hf1.out hz a ha)) papT_ed a.block (by rw [ha]; rfl))
 clear hyz hwz hye hwd hx3 hyc hx2 ho2 hrr hyb hwb hx1 HS HT hbd
 have hn19 : ES.length ≤ 19 := by have := Hn.out; omega
 have hte : ∀ e ∈ ES, e.t.size ≤ 100000 := fun e he => by have := Ht.out e he; omega
 have HDo := Lib.hid (sdo_all S Bd az cz ES wz HZ.out.sh (by omega) Hes.out hn19 hte Hf1.out HZ.out.q0 (by have := HZ.out.q1; omega) HZ.out.inq HZ.out.tok HZ.out.bd (by omega))
 have HPd := Lib.hid (fun w' hp hB' hr hf => pdo_all w0.heap.size p S.s S.q S.L S.last Bd az cz ES w' hp hB' (by omega) hr hn19 hte hf HZ.out.q0 (by have := HZ.out.q1; omega) HZ.out.inq HZ.out.tok HZ.out.bd (by omega))
 have hKl := Lib.hid (show (backC S.s ES).length ≤ 1000000 by have := backC_len (s := S.s) (es := ES) (by omega) hte; omega)
 generalize backC S.s ES = K at *
 generalize mayE S.s.size ES = C at *
 go_wp2_with fail
 refine HDo.out.mono ?_
 rintro e w2 ⟨S', a2, c2, rfl, ho2, hf2, hd, e1, e2, e3, e4⟩
 have Hd := Lib.hid hd
 have E1 := Lib.hid e1
 have E2 := Lib.hid e2
 have E3 := Lib.hid e3
 have E4 := Lib.hid e4
 have Ho2 := Lib.hid ho2
 have Hp2 := Lib.hid (HZ.out.half hd)
 have He2 := Lib.hid (reads_mod0 Hes.out hd.mod Hf1.out)
 have HP2 := Lib.hid (HPd.out w2 Hp2.out.1 Hp2.out.2.2.size He2.out (Hf2.out w2 hd.mod))
 skip
 clear hd e1 e2 e3 e4 ho2 hf2 HDo HPd
 go_wp2_with fail
 refine HP2.out.mono ?_
 rintro e w3 ⟨p', a3, c3, rfl, ho3, hpb, hp3, hm3⟩
 have HW := Lib.hid (Both.done HZ.out (by omega) hn19 Ht.out (by omega) Hd.out E1.out E2.out E3.out E4.out hp3 hm3)
 have Hq2 := Lib.hid (Reads.own (owned_pap Ho2.out hm3))
 have HSm := Lib.hid (editsSame a2 a3 c2 c3 K w3 Hq2.out (Reads.own ho3) hKl.out)
 have Hpb := Lib.hid hpb
 have hcc : (C == C) = true := by simp
 clear ho3 hpb hp3 hm3 HP2 Ho2
 go_wp2_with fail
 refine HSm.out.mono ?_
 rintro e w4 ⟨rfl, hx4⟩
 go_wp2_with fail
 go_ret
 exact ⟨rfl, S', p', HW.out.1.on hx4, by have := HW.out.2; have := Hn.out; have : ES.length * 40 ≤ 6 * 40 := Nat.mul_le_mul_right _ this; omega, Hd.out.sb, Hpb.out, Hd.out.sv, Hd.out.tabs.1, Hd.out.tabs.2, by rw [E3.out]; omega⟩
theorem doesS_erased (x : Ds) (hk : ((lowN x.k 8 : Nat) : Int) = 2) (w0 w : World) (S : Sh) (p : Pp) (Bd : Int) (h : Both w0 w S p Bd 6) (hB2 : Bd ≤ 800000000) (hs : S.s.size ≤ 60000) :
  Calls Tryz.prog 36 #[.pointer (some ⟨S.sb, 0, none⟩), .pointer (some ⟨p.pb, 0, none⟩), dsV x] w (DoesPost w0 S p Bd) := by
 have HE := Lib.hid (fun w' (h' : SheetAt w' S) => serased_any S x.p w' h' h.q0 (by have := h.q1; omega) h.inq)
 have HTy := Lib.hid (fun a c w' (h' : Reads w' 2 a S.q.length (prCells S.q)) => rfErased_any S.s x.p a c S.q w' (by omega) h' (by have := h.q1; omega) h.inq)
 have Hn := Lib.hid (show (erasedL S.s.data.toList x.p S.q).length ≤ 6 from Nat.le_trans (erasedL_len _ _ _) h.q1)
 have Ht := Lib.hid (show ∀ e ∈ erasedL S.s.data.toList x.p S.q, e.t.size ≤ 40 from fun e he => by
  obtain ⟨y, _, rfl⟩ := List.mem_map.1 he
  show (0 : Nat) ≤ 40
  omega)
 unfold Enc.Out at HE HTy
 generalize erasedL S.s.data.toList x.p S.q = ES at *
 have HB := Lib.hid h
 clear h
 have L8 := lowC x.k 8 8 rfl (by omega) (by omega)
 rw [hk] at L8
 have HL := Lib.hid L8
 obtain ⟨u, hu⟩ : ∃ u, u = w.alloc (.cells #[.int .i64 x.k, .int .i64 x.a, .int .i64 x.b, .bool x.p, .string x.t, .slice x.ao x.es.length x.cap, .slice x.so x.sl.length x.scap] 79) := ⟨_, rfl⟩
 have hxu : Ext w u := by rw [hu]; exact (Mod.refl _ w).alloc _
 have hbd : Blk u w.heap.size 79 #[.int .i64 x.k, .int .i64 x.a, .int .i64 x.b, .bool x.p, .string x.t, .slice x.ao x.es.length x.cap, .slice x.so x.sl.length x.scap] := by rw [hu]; exact Blk.new w _ _
 have HB1 := Lib.hid (HB.out.on hxu)
 try unfold dsV
 clear L8 hk
 go_enter Tryz.func36, Tryz.ntmps36
 go_upto_region 1 with fail
 rw [← hu]
 clear hu
 have c0 := hbd.cell 0
 have c1 := hbd.cell 1
 have c2 := hbd.cell 2
 have c3 := hbd.cell 3
 have c4 := hbd.cell 4
 have c5 := hbd.cell 5
 have c6 := hbd.cell 6
 simp only [List.getElem?_toArray, List.getElem?_cons_zero, List.getElem?_cons_succ] at c0 c1 c2 c3 c4 c5 c6
 have hltd := hbd.lt
 have d0 := HB1.out.pap.blk.cell 0
 simp only [List.getElem?_toArray, List.getElem?_cons_zero] at d0
 have hlp := HB1.out.pap.blk.lt
 go_wp2_with fail
 refine (HL.out _).mono ?_
 rintro e v0 ⟨rfl, rfl⟩
 have HE1 := Lib.hid (HE.out v0 HB1.out.sh)
 clear HE
 go_wp2_with fail
 refine HE1.out.mono ?_
 rintro e w1 ⟨v, rfl, ho, hx1⟩
 have Ho := Lib.hid ho
 obtain ⟨az, cz, rfl, hr⟩ := Enc.owns_reads (E := edE) ho
 have Hes1 := Lib.hid hr
 have HZ1 := Lib.hid (HB1.out.on hx1)
 have HT := Lib.hid (fun w' (h' : Ext w1 w') => HTy.out p.ao p.c w' (Reads.own (HZ1.out.pap.ext h').sels))
 have HS := Lib.hid (fun w' (h' : Ext w1 w') => (⟨(HZ1.out.pap.ext h').blk.cell 1, (hbd.mod (hx1.ext_trans h') (fun f => f)).cell 3, (HZ1.out.pap.ext h').blk.cell 0, trivial⟩ : w'.cell? ⟨p.pb, 1, none⟩ = some (.slice p.ao S.q.length p.c) ∧ w'.cell? ⟨w.heap.size, 3, none⟩ = some (.bool x.p) ∧ w'.cell? ⟨p.pb, 0, none⟩ = some (.string S.s) ∧ True))
 clear ho hr HE1 HTy c0 c1 c2 c3 c4 c5 c6 hltd d0 hlp hxu
 go_upto_region 19 with fail
 refine wp_region_E (by kernel_rfl) ?_
 refine wpE_t 0 97 (v := ?_) (fun w' hw' => qat_value ?_) ?_
 rotate_left
 ·go_simp
  rfl
 simp only [fr1, fr2, fr3, fr4]
 refine wpE_t 1 98 (v := ?_) (fun w' hw' => qat_value ?_) ?_
 rotate_left
 ·go_simp
  rfl
 simp only [fr1, fr2, fr3, fr4]
 refine wpE_t 2 99 (v := ?_) (fun w' hw' => qat_value ?_) ?_
 rotate_left
 ·go_simp
  rfl
 simp only [fr1, fr2, fr3, fr4]
 refine wpE_t 3 100 (v := ?_) (fun w' hw' => qat_value ?_) ?_
 rotate_left
 ·go_simp
  rfl
 simp only [fr1, fr2, fr3, fr4]
 refine wpE_t 4 101 (v := ?_) (fun w' hw' => ?_) ?_
 rotate_left
 ·obtain ⟨r0, r1, r2, r3⟩ := HS.out w' hw'
  refine qat_value ?_
  go_simp
  rfl
 simp only [fr1, fr2, fr3, fr4]
 refine wpE_t 5 102 (v := ?_) (fun w' hw' => qat_value ?_) ?_
 rotate_left
 ·go_simp
  rfl
 simp only [fr1, fr2, fr3, fr4]
 refine wpE_t 6 103 (v := ?_) (fun w' hw' => qat_value ?_) ?_
 rotate_left
 ·go_simp
  rfl
 simp only [fr1, fr2, fr3, fr4]
 refine wpE_t 7 104 (v := ?_) (fun w' hw' => qat_value ?_) ?_
 rotate_left
 ·go_simp
  rfl
 simp only [fr1, fr2, fr3, fr4]
 refine wpE_t 8 105 (v := ?_) (fun w' hw' => ?_) ?_
 rotate_left
 ·obtain ⟨r0, r1, r2, r3⟩ := HS.out w' hw'
  refine qat_value ?_
  go_simp
  rfl
 simp only [fr1, fr2, fr3, fr4]
 refine wpE_t 9 106 (v := ?_) (fun w' hw' => qat_value ?_) ?_
 rotate_left
 ·go_simp
  rfl
 simp only [fr1, fr2, fr3, fr4]
 refine wpE_t 10 107 (v := ?_) (fun w' hw' => ?_) ?_
 rotate_left
 ·obtain ⟨r0, r1, r2, r3⟩ := HS.out w' hw'
  refine qat_value ?_
  go_simp
  rfl
 simp only [fr1, fr2, fr3, fr4]
 refine wpE_callw 11 108 (f := 63) (args := #[.string S.s, .slice p.ao S.q.length p.c, .bool x.p]) rfl rfl (by kernel_rfl) rfl (fun w' => by first | (go_simp; done) | (go_simp; exact ⟨rfl, rfl⟩)) fun wb hwb => ?_
 have hyb : Ext w1 wb := (ext_draw w1).ext_trans hwb
 refine (HT.out wb hyb).mono ?_
 rintro e wc ⟨v2, rfl, ho2, hx2⟩
 obtain ⟨ar, cr, rfl, hrr⟩ := Enc.owns_reads (E := edE) ho2
 have hyc := hyb.ext_trans hx2
 refine ⟨_, rfl, hyc, ?_⟩
 simp only [fr1, fr2, fr3, fr4]
 refine wpE_callw 12 109 (f := 35) (args := #[.slice az ES.length cz, .slice ar ES.length cr]) rfl rfl (by kernel_rfl) rfl (fun w' => by first | (go_simp; done) | (go_simp; exact ⟨rfl, rfl⟩)) fun wd hwd => ?_
 refine (editsSame az ar cz cr ES wd (Hes1.out.mod (hyc.ext_trans hwd) (fun _ _ f => f)) (hrr.mod hwd (fun _ _ f => f)) (by have := Hn.out; omega)).mono ?_
 rintro e we ⟨rfl, hx3⟩
 have hye := (hyc.ext_trans hwd).ext_trans hx3
 refine ⟨_, rfl, hye, ?_⟩
 simp only [fr1, fr2, fr3, fr4]
 refine wpE_t 13 110 (v := ?_) (fun w' hw' => qat_value ?_) ?_
 rotate_left
 ·go_simp
  rfl
 simp only [fr1, fr2, fr3, fr4]
 refine wpE_done (by kernel_rfl) (fun wz hwz => ?_) _
 have hyz := hye.ext_trans hwz
 have HZ := Lib.hid (HZ1.out.on hyz)
 have Hes := Lib.hid (Hes1.out.mod hyz (fun _ _ f => f))
 have Ho3 := Lib.hid (ownsRow_mod Ho.out hyz (fun _ _ f => f))
 have Hf1 := Lib.hid (show 0 < ES.length → ∀ a, az = some a → ¬ ShS S a.block from fun _ a ha => HB1.out.sh.free (Ho.out.lt a.block (by rw [ha]; rfl)).1)
 have Hf2 := Lib.hid (show ∀ w2, Mod (ShS S) wz w2 → 0 < ES.length → ∀ a, az = some a → ¬ PapS w0.heap.size w2 a.block from fun w2 hm hz a ha => own_notpap (own_mod Ho3.out hm (fun a ha => Hf1.out hz a ha)) papT_ed a.block (by rw [ha]; rfl))
 clear hyz hwz hye hwd hx3 hyc hx2 ho2 hrr hyb hwb hx1 HS HT hbd
 have hn19 : ES.length ≤ 19 := by have := Hn.out; omega
 have hte : ∀ e ∈ ES, e.t.size ≤ 100000 := fun e he => by have := Ht.out e he; omega
 have HDo := Lib.hid (sdo_all S Bd az cz ES wz HZ.out.sh (by omega) Hes.out hn19 hte Hf1.out HZ.out.q0 (by have := HZ.out.q1; omega) HZ.out.inq HZ.out.tok HZ.out.bd (by omega))
 have HPd := Lib.hid (fun w' hp hB' hr hf => pdo_all w0.heap.size p S.s S.q S.L S.last Bd az cz ES w' hp hB' (by omega) hr hn19 hte hf HZ.out.q0 (by have := HZ.out.q1; omega) HZ.out.inq HZ.out.tok HZ.out.bd (by omega))
 have hKl := Lib.hid (show (backC S.s ES).length ≤ 1000000 by have := backC_len (s := S.s) (es := ES) (by omega) hte; omega)
 generalize backC S.s ES = K at *
 generalize mayE S.s.size ES = C at *
 go_wp2_with fail
 refine HDo.out.mono ?_
 rintro e w2 ⟨S', a2, c2, rfl, ho2, hf2, hd, e1, e2, e3, e4⟩
 have Hd := Lib.hid hd
 have E1 := Lib.hid e1
 have E2 := Lib.hid e2
 have E3 := Lib.hid e3
 have E4 := Lib.hid e4
 have Ho2 := Lib.hid ho2
 have Hp2 := Lib.hid (HZ.out.half hd)
 have He2 := Lib.hid (reads_mod0 Hes.out hd.mod Hf1.out)
 have HP2 := Lib.hid (HPd.out w2 Hp2.out.1 Hp2.out.2.2.size He2.out (Hf2.out w2 hd.mod))
 skip
 clear hd e1 e2 e3 e4 ho2 hf2 HDo HPd
 go_wp2_with fail
 refine HP2.out.mono ?_
 rintro e w3 ⟨p', a3, c3, rfl, ho3, hpb, hp3, hm3⟩
 have HW := Lib.hid (Both.done HZ.out (by omega) hn19 Ht.out (by omega) Hd.out E1.out E2.out E3.out E4.out hp3 hm3)
 have Hq2 := Lib.hid (Reads.own (owned_pap Ho2.out hm3))
 have HSm := Lib.hid (editsSame a2 a3 c2 c3 K w3 Hq2.out (Reads.own ho3) hKl.out)
 have Hpb := Lib.hid hpb
 have hcc : (C == C) = true := by simp
 clear ho3 hpb hp3 hm3 HP2 Ho2
 go_wp2_with fail
 refine HSm.out.mono ?_
 rintro e w4 ⟨rfl, hx4⟩
 go_wp2_with fail
 go_ret
 exact ⟨rfl, S', p', HW.out.1.on hx4, by have := HW.out.2; have := Hn.out; have : ES.length * 40 ≤ 6 * 40 := Nat.mul_le_mul_right _ this; omega, Hd.out.sb, Hpb.out, Hd.out.sv, Hd.out.tabs.1, Hd.out.tabs.2, by rw [E3.out]; omega⟩
end Go.Proofs.YthlmgoagnfkhdaaGreat

/- sheet.Do: refused; done. Conditions: a text of at most 65536 bytes, fewer than 20 edits of at most 100000 bytes each, 1 to 19 selections. -/
import Derived.Test.YthlmgoagnfkhdaaGreatGimF41
import Derived.Test.YthlmgoagnfkhdaaGreatGimF31
import Derived.Test.YthlmgoagnfkhdaaGreatGimF22
import Derived.Test.YthlmgoagnfkhdaaGreatGimF37
import Derived.Test.YthlmgoagnfkhdaaGreatGimF27
import Derived.Test.YthlmgoagnfkhdaaGreatGimF38
import Derived.Test.YthlmgoagnfkhdaaGreatGimF07
import Derived.Test.YthlmgoagnfkhdaaGreatGimF39
import Derived.Test.YthlmgoagnfkhdaaGreatGimF40
import Derived.Test.YthlmgoagnfkhdaaGreatGimF01
import Derived.Test.YthlmgoagnfkhdaaGreatGimF05
import Derived.Test.YthlmgoagnfkhdaaGreatGimF10
import Derived.Test.YthlmgoagnfkhdaaGreatGimF34
import Derived.Lib.SmallJoins
set_option maxHeartbeats 6400000
set_option maxRecDepth 1000000
set_option linter.unusedVariables false
set_option linter.unusedSimpArgs false
namespace Go.Proofs.YthlmgoagnfkhdaaGreat
open Go.RowKit Go.Gim
theorem sdo_no (S : Sh) (ao : Option Addr) (cap : Nat) (es : List Ed) (w : World) (h : SheetAt w S) (hs : S.s.size ≤ 65536) (he : Reads w 3 ao es.length (edE.cells es)) (hn : es.length ≤ 19) (ht : ∀ e ∈ es, e.t.size ≤ 100000) (hm : mayE S.s.size es ≠ 0) :
  Calls Tryz.prog 17 #[.pointer (some ⟨S.sb, 0, none⟩), .slice ao es.length cap] w fun e w' => e = .returned (.tuple #[.slice none 0 0, .int .i64 (mayE S.s.size es)]) ∧ Ext w w' := by
 have HM := Lib.hid (cmay_any S.s.size ao cap es w he hn (by omega) (by omega) ht)
 have HL := Lib.hid (len_any S.R w h.rope)
 rw [size_of h.text] at HL
 have d0 := h.blk.cell 0
 simp only [List.getElem?_toArray, List.getElem?_cons_zero] at d0
 have hlb := h.blk.lt
 generalize mayE S.s.size es = C at *
 have hz : (C != 0) = true := by simpa using hm
 clear h he hm ht
 go_enter Tryz.func17, Tryz.ntmps17
 go_wp2_with fail
 refine HL.out.mono ?_
 rintro e w1 ⟨rfl, rfl⟩
 go_wp2_with fail
 refine HM.out.mono ?_
 rintro e w2 ⟨rfl, hx⟩
 clear HL HM
 go_wp2_with fail
 go_ret2
 exact ⟨rfl, hx⟩
def DoPost (S : Sh) (es : List Ed) (w : World) (e : Ending) (w' : World) : Prop :=
 ∃ (S' : Sh) (a2 : Option Addr) (c2 : Nat), e = .returned (.tuple #[.slice a2 (backE S.s es).length c2, .int .i64 0]) ∧ w'.ownsRow w.heap.size 59 3 (.slice a2 (backE S.s es).length c2) (backE S.s es).length (edE.cells (backE S.s es)) ∧ (∀ a, a2 = some a → ¬ ShS S' a.block) ∧
  ShDone S S' w w' ∧ S'.s.data.toList = applyL S.s.data.toList es ∧ S'.L = moveT es S.L ∧ S'.last = S.last ∧ S'.q = selsM es S.q
theorem sdo_yes (S : Sh) (Bd : Int) (ao : Option Addr) (cap : Nat) (es : List Ed) (w : World) (h : SheetAt w S) (hs : S.s.size ≤ 65536) (he : Reads w 3 ao es.length (edE.cells es)) (hn : es.length ≤ 19) (ht : ∀ e ∈ es, e.t.size ≤ 100000) (hm : mayE S.s.size es = 0)
  (hfar : 0 < es.length → ∀ a, ao = some a → ¬ ShS S a.block) (hq0 : 0 < S.q.length) (hq1 : S.q.length ≤ 19) (hq : ∀ x ∈ S.q, 0 ≤ x.1 ∧ x.1 ≤ 900000000 ∧ 0 ≤ x.2 ∧ x.2 ≤ 900000000) (hT : Tok S.L S.last Bd) (hB : 65536 ≤ Bd) (hB2 : Bd ≤ 900000000) :
  Calls Tryz.prog 17 #[.pointer (some ⟨S.sb, 0, none⟩), .slice ao es.length cap] w (DoPost S es w) := by
 obtain ⟨hrz, hgr⟩ := mayE_zero hm
 have hok : ∀ e ∈ es, EdOk e := fun e he => by obtain ⟨h1, h2, h3⟩ := rangedE_mem hrz e he; exact ⟨h1, h2, by omega, ht e he⟩
 have hO := ord_of (m := S.s.size) rfl hrz
 have h00 : ∀ e ∈ sorted lessE es, 0 ≤ e.a ∧ 0 ≤ e.b := fun e he => by have := rangedE_mem hrz e ((sorted_mem lessE es e).1 he); exact ⟨this.1, by omega⟩
 have hgS : grownE (S.s.data.toList.length : Nat) (sorted lessE es) ≤ 65536 := by rw [grownE_sorted]; exact hgr
 have HM := Lib.hid (cmay_any S.s.size ao cap es w he hn (by omega) (by omega) ht)
 rw [hm] at HM
 have HL := Lib.hid (len_any S.R w h.rope)
 rw [size_of h.text] at HL
 have HTx := Lib.hid (fun w' (h' : Ext w w') => text_rope S.R w' (h.rope.ext h'))
 rw [bs_eq h.text] at HTx
 have HBk := Lib.hid (fun w' (h' : Ext w w') => cback_yes S.s ao cap es w' hs (he.mod h' (fun _ _ f => f)) hn ht hm)
 have HSo := Lib.hid (fun w' (h' : Ext w w') => sortC_any ao cap es w' (he.mod h' (fun _ _ f => f)) hn)
 have H := Lib.hid h
 have He := Lib.hid he
 have Hfar := Lib.hid hfar
 have HT := Lib.hid hT
 have Hok := Lib.hid hok
 have Hrz := Lib.hid (rangedE_more hrz (show (S.s.size : Int) ≤ 65536 by omega))
 have Ht := Lib.hid ht
 have Hq := Lib.hid hq
 have Hap := Lib.hid (show applyL S.s.data.toList es = (sorted lessE es).foldr doE S.s.data.toList from rfl)
 have HokS := Lib.hid (show ∀ e ∈ sorted lessE es, EdOk e from fun e he => hok e ((sorted_mem lessE es e).1 he))
 have hSl := sorted_length lessE es
 unfold BackPost at HBk
 unfold DoPost
 generalize sorted lessE es = E at *
 generalize backE S.s es = Bk at *
 obtain ⟨N, hN⟩ : ∃ N, N = es.length := ⟨_, rfl⟩
 have HN := Lib.hid hN
 rw [← hN] at hn hSl HM HSo HBk ⊢
 have HSl := Lib.hid hSl
 have HO := Lib.hid hO
 have H00 := Lib.hid h00
 have HgS := Lib.hid hgS
 have d0 := h.blk.cell 0
 simp only [List.getElem?_toArray, List.getElem?_cons_zero] at d0
 have hlb := h.blk.lt
 clear hrz hgr hok hO h00 hgS h he ht hm hfar hq hT hN hSl
 go_enter Tryz.func17, Tryz.ntmps17
 go_wp2_with fail
 refine HL.out.mono ?_
 rintro e w ⟨rfl, rfl⟩
 clear HL
 go_wp2_with fail
 refine HM.out.mono ?_
 rintro e w1 ⟨rfl, hx1⟩
 clear HM d0 hlb
 have HTx1 := Lib.hid (HTx.out w1 hx1)
 have hb1 := (H.out.ext hx1).blk
 have d0 := hb1.cell 0
 simp only [List.getElem?_toArray, List.getElem?_cons_zero] at d0
 have hlb := hb1.lt
 clear hb1 HTx
 go_wp2_with fail
 refine HTx1.out.mono ?_
 rintro e w2 ⟨rfl, hx2⟩
 have hy2 := hx1.ext_trans hx2
 have HBk2 := Lib.hid (HBk.out w2 hy2)
 clear HTx1 HBk d0 hlb hx2
 go_wp2_with fail
 refine HBk2.out.mono ?_
 rintro e w3 ⟨ab, cb, rfl, hob, hx3⟩
 have hy3 := hy2.ext_trans hx3
 have HSo3 := Lib.hid (HSo.out w3 hy3)
 have Hob := Lib.hid hob
 have Hz2 := Lib.hid hy2.size
 clear HBk2 HSo hob hx3 hx1 hy2
 go_wp2_with fail
 refine HSo3.out.mono ?_
 rintro e w4 ⟨a1, c1, rfl, hrd, hfs, hx4⟩
 have hy4 := hy3.ext_trans hx4
 have Hrd := Lib.hid hrd
 have Hfs := Lib.hid (show 0 < N → ∀ a, a1 = some a → ¬ ShS S a.block from fun hz a ha => H.out.free (Nat.le_trans hy3.size (hfs hz a ha)))
 have H4 := Lib.hid (H.out.ext hy4)
 clear HSo3 hrd hfs
 go_wp2_with fail
 go_loopw [10] (fun i wr => ∃ (c : Nat) (j : Int) (R' : Rp), c ≤ N ∧ j = (c : Int) - 1 ∧ i = .int .i64 j ∧ Hid (ShDone S { S with R := R', s := bs (cutTo S.s.data.toList E c) } w4 wr)) (fun i _ => (intOf i + 1).toNat)
 case atStart => exact ⟨N, _, S.R, Nat.le_refl _, rfl, rfl, Lib.hid (by rw [cutTo_all _ _ (by rw [HSl.out]; exact Nat.le_refl _)]; exact ShDone.refl H4.out)⟩
 case round =>
  obtain ⟨c, j, R', hc, hj, rfl, HD⟩ := hrel
  by_cases hc0 : c = 0
  ·have hjn : ¬ (0 : Int) ≤ j := by omega
   subst hc0
   clear hj
   go_wp2_with fail
   go_loopw [11, 67] (fun g i wq => ∃ (k : Nat) (R2 : Rp), k ≤ N ∧ i = .int .i64 k ∧ g = .int .i64 (putTo S.s.data.toList E k).2 ∧ Hid (ShDone S { S with R := R2, s := bs (putTo S.s.data.toList E k).1 } w4 wq)) (fun _ i _ => N - (intOf i).toNat)
   case atStart => exact ⟨0, R', by omega, rfl, by rw [putTo_zero], Lib.hid (by rw [putTo_zero]; exact HD.out)⟩
   case round =>
    clear HD
    obtain ⟨k, R2, hk, rfl, rfl, HD⟩ := hrel
    by_cases hlt : k < N
    ·have hlt' : (k : Int) < (N : Int) := by omega
     have hk0 : (0 : Int) ≤ (k : Int) := by omega
     have hdl : k < E.length := by rw [HSl.out]; omega
     obtain ⟨be, oe, rfl⟩ := Hrd.out.some (by omega)
     obtain ⟨p0, p1, p2⟩ := reads_ed (reads_mod0 Hrd.out HD.out.mod Hfs.out) (List.getElem?_eq_getElem hdl)
     have hxd := List.getElem?_eq_getElem hdl
     have Hst := Lib.hid (putTo_step S.s.data.toList hxd)
     have hfit := putTo_fit HO.out H00.out hxd
     have hmo := putTo_most HO.out H00.out hxd HgS.out
     obtain ⟨k1, k2, k3, k4⟩ := HokS.out _ (List.getElem_mem hdl)
     generalize E[k] = e at *
     obtain ⟨ea, eb, et⟩ := e
     simp only at p0 p1 p2 k1 k2 k3 k4 hfit hmo
     have Htext := Lib.hid HD.out.at_.text
     generalize putTo S.s.data.toList E k = P at *
     obtain ⟨T0, g⟩ := P
     simp only at hfit hmo Htext
     obtain ⟨f1, f2⟩ := hfit
     have f3 : ea + g ≤ 65536 := by omega
     have f4 : g ≤ 65536 := by omega
     have f5 : -65536 ≤ g := by omega
     have hsr := size_of HD.out.at_.text
     simp only at hsr
     rw [bs_size] at hsr
     have Hins := Lib.hid (fun w' (h' : Ext wr w') => insert_yes R2 (ea + g) et w' (HD.out.at_.rope.ext h') (rises_of ⟨f1, Int.le_refl _, by rw [hsr]; exact f2⟩) (by rw [hsr]; exact hmo))
     have HL := Lib.hid (fun w' => spLen_any (ea, eb) w' (by simp only; omega) (by simp only; omega))
     have s1 : IntKind.i64.wrap ((et.size : Int) - (eb - ea)) = (et.size : Int) - (eb - ea) := IntWalk.i64_in _ (by omega)
     have s2 : IntKind.i64.wrap (g + ((et.size : Int) - (eb - ea))) = g + ((et.size : Int) - (eb - ea)) := IntWalk.i64_in _ (by omega)
     have hbe := World.block_lt_of_cell? wr _ p0
     clear hxd hdl f2 hmo hsr
     go_upto_region 16 with fail
     obtain ⟨u, hu⟩ : ∃ u, u = wr.alloc (.cells #[.int .i64 ea, .int .i64 eb, .string et] 59) := ⟨_, rfl⟩
     have hxu : Ext wr u := by rw [hu]; exact (Mod.refl _ wr).alloc _
     have hbu : Blk u wr.heap.size 59 #[.int .i64 ea, .int .i64 eb, .string et] := by rw [hu]; exact Blk.new _ _ _
     rw [← hu]
     clear p0 p1 p2 hbe hu
     have c0 : u.cell? ⟨wr.heap.size, 0, none⟩ = some (.int .i64 ea) := hbu.cell 0
     have c1 : u.cell? ⟨wr.heap.size, 1, none⟩ = some (.int .i64 eb) := hbu.cell 1
     have c2 : u.cell? ⟨wr.heap.size, 2, none⟩ = some (.string et) := hbu.cell 2
     have hlu := hbu.lt
     have d0 := (HD.out.at_.ext hxu).blk.cell 0
     simp only [List.getElem?_toArray, List.getElem?_cons_zero] at d0
     have hlb2 : S.sb < u.heap.size := (HD.out.at_.ext hxu).blk.lt
     refine wp_region_ext_tail 12 (by kernel_rfl) (by kernel_rfl) ?_
     simp only [List.take_succ_cons, List.take_zero, List.drop_succ_cons, List.drop_zero]
     repeat (go_big_quiet_step (fail))
     refine wpQuiet_nil ?_
     intro we hxe
     have hxq := hxu.ext_trans hxe
     have HDe := Lib.hid (HD.out.ext hxq)
     have Hins2 := Lib.hid (Hins.out we hxq)
     have hbe := hbu.mod hxe (fun f => f)
     have Hfl := Lib.hid (fun e => Nat.lt_irrefl wr.heap.size (HD.out.at_.rope.flt _ e))
     unfold DonePost at Hins2
     clear HD Hins c0 c1 c2 hlu d0 hlb2 hbu hxu hxe hxq
     go_wp2_with fail
     refine Hins2.out.mono ?_
     rintro e w7 ⟨rfl, R3, hdn⟩
     have hb7 := hbe.mod hdn.mod Hfl.out
     have HN7 := Lib.hid (HDe.out.trans (HDe.out.at_.roped (t := bs (splice T0 (ea + g) (ea + g) et.data.toList)) hdn (by
      have h1 : R2.text = T0 := Htext.out
      rw [h1]; rfl)))
     have c0 : w7.cell? ⟨wr.heap.size, 0, none⟩ = some (.int .i64 ea) := hb7.cell 0
     have c1 : w7.cell? ⟨wr.heap.size, 1, none⟩ = some (.int .i64 eb) := hb7.cell 1
     have c2 : w7.cell? ⟨wr.heap.size, 2, none⟩ = some (.string et) := hb7.cell 2
     have hlu := hb7.lt
     clear hdn HDe Hins2 hbe hb7 Htext Hfl
     go_upto_region 17 with fail
     refine wp_region_ext_lit (by kernel_rfl) (by kernel_rfl) ?_
     repeat (go_big_quiet_step (exact Calls.ext_of (HL.out _)))
     refine wpQuiet_nil ?_
     intro w9 hx9
     have HN9 := Lib.hid (HN7.out.ext hx9)
     clear c0 c1 c2 hlu HL HN7
     go_wp2_with fail
     go_roundw
     case rel => exact ⟨k + 1, R3, by omega, by go_num, by rw [Hst.out]; rfl, Lib.hid (by rw [Hst.out]; exact HN9.out)⟩
     case measure => simp [intOf]; omega
    ·have hlt' : ¬ (k : Int) < (N : Int) := by omega
     obtain rfl : k = N := by omega
     have HA := Lib.hid (show (putTo S.s.data.toList E k).1 = applyL S.s.data.toList es by rw [Hap.out]; exact putTo_all HO.out H00.out (by rw [HSl.out]; exact Nat.le_refl _))
     generalize putTo S.s.data.toList E k = P at *
     obtain ⟨T0, g⟩ := P
     simp only at HA HD
     have hsz4 := Lib.hid hy4.size
     have Heq := Lib.hid (reads_mod0 (He.out.mod hy4 (fun _ _ f => f)) HD.out.mod Hfar.out)
     have HV := Lib.hid (tmove_all S.tb S.mb S.L S.last Bd es ao cap wr HD.out.at_.tab HT.out hB hB2 Heq.out (by rw [← HN.out]; exact hn) Ht.out (fun hz a ha e => Hfar.out hz a ha (.inr (.inr e))))
     rw [← HN.out] at HV
     have d1 := HD.out.at_.blk.cell 1
     simp only [List.getElem?_toArray, List.getElem?_cons_zero, List.getElem?_cons_succ] at d1
     have hlb2 : S.sb < wr.heap.size := HD.out.at_.blk.lt
     go_wp2_with fail
     refine HV.out.mono ?_
     rintro e w8 hp8
     rcases hp8 with ⟨_, rfl, h8, hm8⟩ | ⟨hne, _⟩
     ·have HD8 := Lib.hid (HD.out.trans (HD.out.at_.tabbed h8 hm8))
      have He8 := Lib.hid (reads_mod0 Heq.out hm8 (fun hz a ha e => Hfar.out hz a ha (.inr (.inr e))))
      have HSm := Lib.hid (smove_any S.ao S.c S.q ao cap es w8 HD8.out.at_.rd hq0 hq1 He8.out (by rw [← HN.out]; exact hn) Hok.out Hq.out)
      rw [← HN.out] at HSm
      unfold NewRow at HSm
      have d2 := HD8.out.at_.blk.cell 2
      simp only [List.getElem?_toArray, List.getElem?_cons_zero, List.getElem?_cons_succ] at d2
      have hlb8 : S.sb < w8.heap.size := HD8.out.at_.blk.lt
      clear HV h8 hm8 d1 hlb2 HD Heq
      go_wp2_with fail
      refine HSm.out.mono ?_
      rintro e w9 ⟨g9, c9, rfl, hown9, hx9⟩
      have HD9 := Lib.hid (HD8.out.ext hx9)
      have Hown9 := Lib.hid hown9
      have hb9 := HD9.out.at_.blk
      have d2 := hb9.cell 2
      simp only [List.getElem?_toArray, List.getElem?_cons_zero, List.getElem?_cons_succ] at d2
      have f2 := hb9.free 2
      have hlb9 : S.sb < w9.heap.size := hb9.lt
      clear HSm hlb8 hown9 hb9
      go_wp2_with fail
      go_ret2
      have hge := (owns_block Hown9.out).1
      have hD10 := HD9.out.trans (SheetAt.picked (a' := some ⟨g9, 0, none⟩) (c' := c9) (q' := selsM es S.q) HD9.out.at_ (ownsRow_base Hown9.out (Nat.zero_le _)) (fun a ha => by
       cases ha
       have a1 : S.sb < w8.heap.size := HD8.out.at_.blk.lt
       have a2 : S.tb < w8.heap.size := HD8.out.at_.tab.blk.lt
       have a3 : S.mb < w8.heap.size := HD8.out.at_.tab.map.lt
       refine ⟨?_, ?_, ?_, fun e => ?_⟩
       ·show g9 ≠ S.sb; omega
       ·show g9 ≠ S.tb; omega
       ·show g9 ≠ S.mb; omega
       ·have := HD8.out.at_.rope.flt _ e
        simp only at this
        omega) rfl)
      have hfb : ∀ a, ab = some a → Hid (w.heap.size ≤ a.block) ∧ a.block < w4.heap.size := fun a ha => by
       have h1 := Hob.out.lt a.block (by rw [ha]; rfl)
       have h2 := Hz2.out
       have h3 := hx4.size
       exact ⟨Lib.hid (by omega), by omega⟩
      refine ⟨_, ab, cb, rfl, own_mod (ownsRow_base (ownsRow_mod Hob.out hx4 (fun _ _ f => f)) Hz2.out) hD10.mod (fun a ha e => by
       have h1 := (hfb a ha).1.out
       have h2 := H.out.lt _ e
       omega), fun a ha e => ?_, ShDone.after hy4 hD10, HA.out, rfl, rfl, rfl⟩
      have h1 := (hfb a ha).1.out
      have h2 := H.out.lt _ (hD10.grew _ (hfb a ha).2 e)
      omega
     ·exact absurd Hrz.out hne
  ·obtain ⟨d, rfl⟩ : ∃ d, c = d + 1 := ⟨c - 1, by omega⟩
   obtain rfl : j = (d : Int) := by omega
   have hd0 : (0 : Int) ≤ (d : Int) := by omega
   have hd1 : (d : Int) < (N : Int) := by omega
   have hdl : d < E.length := by rw [HSl.out]; omega
   obtain ⟨be, oe, rfl⟩ := Hrd.out.some (by omega)
   have hre6 := reads_mod0 Hrd.out HD.out.mod Hfs.out
   obtain ⟨p0, p1, p2⟩ := reads_ed hre6 (List.getElem?_eq_getElem hdl)
   have hxd := List.getElem?_eq_getElem hdl
   have Hst := Lib.hid (cutTo_step S.s.data.toList hxd)
   have hfit := cutTo_fit HO.out hxd
   obtain ⟨k1, k2, k3, k4⟩ := HokS.out _ (List.getElem_mem hdl)
   generalize E[d] = e at *
   obtain ⟨ea, eb, et⟩ := e
   simp only at p0 p1 p2 k1 k2 k3 k4
   have hsr := size_of HD.out.at_.text
   have hri : risesB ea eb R'.t.size = true := by
    refine rises_of ⟨k1, k2, ?_⟩
    have h1 : ((eb.toNat : Nat) : Int) = eb := Int.toNat_of_nonneg (by omega)
    have h2 : eb.toNat ≤ (cutTo S.s.data.toList E (d + 1)).length := hfit.2
    have h3 : R'.t.size = (cutTo S.s.data.toList E (d + 1)).length := hsr
    rw [h3]
    omega
   have Hdel := Lib.hid (fun w' (h' : Ext wr w') => delete_yes R' ea eb w' (HD.out.at_.rope.ext h') hri)
   have d0 := HD.out.at_.blk.cell 0
   simp only [List.getElem?_toArray, List.getElem?_cons_zero] at d0
   have hlb := HD.out.at_.blk.lt
   have hlb2 : S.sb < wr.heap.size := hlb
   have hbe := World.block_lt_of_cell? wr _ p0
   clear hj hre6 hxd hfit hdl hsr hri hc0 hlb
   go_upto_region 11 with fail
   refine wp_region_ext_tail 17 (by kernel_rfl) (by kernel_rfl) ?_
   simp only [List.take_succ_cons, List.take_zero, List.drop_succ_cons, List.drop_zero]
   repeat (go_big_quiet_step (fail))
   refine wpQuiet_nil ?_
   intro we hxe
   have HDe := Lib.hid (HD.out.ext hxe)
   have Hdel2 := Lib.hid (Hdel.out we hxe)
   unfold DonePost at Hdel2
   clear HD Hdel p0 p1 p2 d0 hlb2 hbe hxe
   go_wp2_with fail
   refine Hdel2.out.mono ?_
   rintro e w7 ⟨rfl, R'', hdn⟩
   have HN7 := Lib.hid (HDe.out.trans (HDe.out.at_.roped (t := bs (cutTo S.s.data.toList E d)) hdn (by
    show splice R'.text ea eb [] = cutTo S.s.data.toList E d
    rw [Hst.out]
    have := HDe.out.at_.text
    simp only at this
    rw [this]
    rfl)))
   clear hdn HDe Hdel2
   go_wp2_with fail
   go_roundw
   case rel => exact ⟨d, _, R'', by omega, rfl, by go_num, Lib.hid HN7.out⟩
   case measure => simp [intOf]
def shT (T : TypeId) : Prop := T = 111 ∨ T = nodeT ∨ T = 102 ∨ T = 45 ∨ T = 120
theorem tree_types {w : World} : ∀ {t : T}, TreeAt w t → ∀ k ∈ t.blocks, ∃ cs, Blk w k nodeT cs
 | .nil, _, k, hk => by cases hk
 | .node b own p l r, ⟨hn, hl, hr⟩, k, hk => by
  simp only [T.blocks, List.mem_cons, List.mem_append] at hk
  rcases hk with rfl | hk | hk
  ·exact ⟨_, hn⟩
  ·exact tree_types hl k hk
  ·exact tree_types hr k hk
theorem sheet_types {w : World} {S : Sh} (h : SheetAt w S) {k : Nat} (hk : ShS S k) {cs : Array Value} {T : TypeId} {fr : Nat × Nat} (he : w.heap[k]? = some (.cells cs T fr)) : shT T := by
 have key : ∀ {T' : TypeId} {cs' : Array Value}, Blk w k T' cs' → T = T' := fun hb => by
  unfold Blk at hb
  rw [he] at hb
  cases hb; rfl
 rcases hk with (hk | hk) | rfl | rfl | rfl
 ·rcases List.mem_cons.1 hk with rfl | hk
  ·exact .inl (key h.rope.blk)
  ·obtain ⟨cs', hb⟩ := tree_types h.rope.tree k hk
   exact .inr (.inl (key hb))
 ·subst hk
  obtain ⟨D, hD, hl⟩ := h.rope.dice
  have hb := hD.blk
  rw [hl.1] at hb
  exact .inr (.inr (.inl (key hb)))
 ·exact .inr (.inr (.inr (.inl (key h.blk))))
 ·exact .inr (.inr (.inr (.inr (key h.tab.blk))))
 ·obtain ⟨D, ⟨es, clock, hb, _⟩, _⟩ := h.tab.map
  rw [he] at hb
  cases hb
def papT (T : TypeId) : Prop := refT T ∨ T = 88
theorem papT_sh {T : TypeId} (h : papT T) : ¬ shT T := by
 intro k
 rcases h with (h | h | h) | h <;> rcases k with k | k | k | k | k <;> (rw [h] at k; revert k; decide)
theorem papT_sel : ¬ papT 47 := by
 rintro ((h | h | h) | h) <;> (revert h; decide)
theorem papT_num : ¬ papT 30 := by
 rintro ((h | h | h) | h) <;> (revert h; decide)
theorem refT_paper : ¬ refT 88 := by
 rintro (h | h | h) <;> (revert h; decide)
def PapS (B : Nat) (w : World) (k : Nat) : Prop := B ≤ k ∧ ∃ T cs fr, w.heap[k]? = some (.cells cs T fr) ∧ papT T
theorem PapS.trans {B : Nat} {a b c : World} (h : Mod (PapS B a) a b) (k : Mod (PapS B b) b c) : Mod (PapS B a) a c := by
 refine h.trans k fun i hi hT => ?_
 refine Classical.byContradiction fun hn => hn ?_
 obtain ⟨h1, T, cs, fr, h2, h3⟩ := hT
 exact ⟨h1, T, cs, fr, by rw [← h.block i hi hn]; exact h2, h3⟩
theorem RefS.pap {B k : Nat} {w : World} (h : RefS B w k) : PapS B w k := by
 obtain ⟨h1, T, cs, fr, h2, h3⟩ := h
 exact ⟨h1, T, cs, fr, h2, .inl h3⟩
theorem own_notpap {w : World} {B B' z n : Nat} {T : TypeId} {v : Value} {xs : List Value} (h : w.ownsRow B' T z v n xs) (hT : ¬ papT T) : ∀ k, v.ownBlock = some k → ¬ PapS B w k := by
 intro k hk
 rcases h.2 with ⟨hv, _⟩ | ⟨g, cap, cur, hv, _, hg, _⟩
 ·rw [hv] at hk; cases hk
 ·rw [hv] at hk
  cases hk
  rintro ⟨_, T', cs, fr, h2, h3⟩
  rw [hg] at h2
  cases h2
  exact hT h3
theorem sheet_notpap {B k : Nat} {w : World} {S : Sh} (h : SheetAt w S) (hk : ShS S k) : ¬ PapS B w k := by
 rintro ⟨_, T, cs, fr, h2, h3⟩
 exact papT_sh h3 (sheet_types h hk h2)
theorem SheetAt.pap {B : Nat} {w w' : World} {S : Sh} (h : SheetAt w S) (hm : Mod (PapS B w) w w') : SheetAt w' S := by
 refine h.mod hm (fun k hk => sheet_notpap h hk) ?_ ?_
 ·intro k hk
  obtain ⟨D, hD, hl⟩ := h.rope.dice
  rw [← hl.2.1] at hk
  exact own_notpap hD.row papT_num k hk
 ·intro a ha
  exact own_notpap h.sels papT_sel a.block (by rw [ha]; rfl)
structure Pp where
 pb : Nat
 ao : Option Addr
 c : Nat
 ub : Nat
 v1 : Value
 v2 : Value
structure PapAt (w : World) (B : Nat) (p : Pp) (s : ByteArray) (q : List (Int × Int)) (L : Tb) (last : Int) : Prop where
 blk : Blk w p.pb 88 #[.string s, .slice p.ao q.length p.c, .pointer (some ⟨p.ub, 0, none⟩)]
 base : B ≤ p.pb
 sels : w.ownsRow 0 47 2 (.slice p.ao q.length p.c) q.length (prCells q)
 ref : RefAt w B p.ub p.v1 p.v2 L last
theorem PapAt.blkS {w : World} {B : Nat} {p : Pp} {s : ByteArray} {q : List (Int × Int)} {L : Tb} {last : Int} (h : PapAt w B p s q L last) : PapS B w p.pb := ⟨h.base, _, _, _, h.blk, .inr rfl⟩
theorem PapAt.mod {T : Nat → Prop} {w w' : World} {B : Nat} {p : Pp} {s : ByteArray} {q : List (Int × Int)} {L : Tb} {last : Int} (h : PapAt w B p s q L last) (hm : Mod T w w') (h1 : ∀ k, PapS B w k → ¬ T k) (h2 : ∀ a, p.ao = some a → ¬ T a.block) : PapAt w' B p s q L last :=
 ⟨h.blk.mod hm (h1 _ h.blkS), h.base, own_mod h.sels hm h2, h.ref.mod hm (fun k hk => h1 k hk.pap)⟩
theorem PapAt.ext {w w' : World} {B : Nat} {p : Pp} {s : ByteArray} {q : List (Int × Int)} {L : Tb} {last : Int} (h : PapAt w B p s q L last) (hm : Ext w w') : PapAt w' B p s q L last := h.mod hm (fun _ _ f => f) (fun _ _ f => f)
theorem PapAt.sheet {w w' : World} {B : Nat} {p : Pp} {s : ByteArray} {q : List (Int × Int)} {L : Tb} {last : Int} {S : Sh} (h : PapAt w B p s q L last) (hS : SheetAt w S) (hm : Mod (ShS S) w w') : PapAt w' B p s q L last := by
 refine h.mod hm (fun k hk e => sheet_notpap hS e hk) ?_
 intro a ha e
 have hk : (Value.slice p.ao q.length p.c).ownBlock = some a.block := by rw [ha]; rfl
 rcases h.sels.2 with ⟨hv, _⟩ | ⟨g, cap, cur, hv, _, hg, _⟩
 ·rw [hv] at hk; cases hk
 ·rw [hv] at hk
  cases hk
  have := sheet_types hS e hg
  rcases this with h | h | h | h | h <;> (revert h; decide)
theorem PapAt.selFar {w : World} {B : Nat} {p : Pp} {s : ByteArray} {q : List (Int × Int)} {L : Tb} {last : Int} (h : PapAt w B p s q L last) (a : Addr) (ha : p.ao = some a) : ¬ PapS B w a.block :=
 own_notpap h.sels papT_sel a.block (by rw [ha]; rfl)
theorem PapAt.picked {w : World} {B B' : Nat} {p : Pp} {s : ByteArray} {q q' : List (Int × Int)} {a' : Option Addr} {c' : Nat} {L : Tb} {last : Int} (h : PapAt w B p s q L last) (hr : w.ownsRow B' 47 2 (.slice a' q'.length c') q'.length (prCells q')) :
  PapAt (w.setCell ⟨p.pb, 1, none⟩ (.slice a' q'.length c')) B { p with ao := a', c := c' } s q' L last ∧ Mod (PapS B w) w (w.setCell ⟨p.pb, 1, none⟩ (.slice a' q'.length c')) := by
 have hm : Mod (· = p.pb) w (w.setCell ⟨p.pb, 1, none⟩ (.slice a' q'.length c')) := (Mod.refl (· = p.pb) w).setCell (fun _ => rfl) _
 have hfar : ∀ k, RefS B w k → ¬ k = p.pb := by
  rintro k ⟨_, T, cs, fr, h2, h3⟩ rfl
  have hb := h.blk
  rw [Blk, h2] at hb
  cases hb
  exact refT_paper h3
 refine ⟨⟨h.blk.set 1 _, h.base, own_mod (ownsRow_base hr (Nat.zero_le _)) hm (fun a ha e => own_notpap (B := B) hr papT_sel a.block (by simp only at ha; rw [ha]; rfl) (by rw [e]; exact h.blkS)), h.ref.mod hm hfar⟩, hm.mono (fun k _ e => by subst e; exact h.blkS)⟩
theorem PapAt.tabbed {w w' : World} {B : Nat} {p : Pp} {s : ByteArray} {q : List (Int × Int)} {L L' : Tb} {last last' : Int} {v1 v2 : Value} (h : PapAt w B p s q L last) (hr : RefAt w' B p.ub v1 v2 L' last') (hm : Mod (RefS B w) w w') :
  PapAt w' B { p with v1 := v1, v2 := v2 } s q L' last' ∧ Mod (PapS B w) w w' := by
 refine ⟨⟨h.blk.mod hm ?_, h.base, own_mod h.sels hm (fun a ha e => h.selFar a ha e.pap), hr⟩, hm.mono (fun k _ e => e.pap)⟩
 rintro ⟨_, T, cs, fr, h2, h3⟩
 have hb := h.blk
 rw [Blk, h2] at hb
 cases hb
 exact refT_paper h3
theorem editsSame (a b : Option Addr) (c d : Nat) (l : List Ed) (w : World) (ha : Reads w 3 a l.length (edE.cells l)) (hb : Reads w 3 b l.length (edE.cells l)) (hn : l.length ≤ 1000000) :
  Calls Tryz.prog 35 #[.slice a l.length c, .slice b l.length d] w fun e w' => e = .returned (.bool true) ∧ Ext w w' := by
 have Ha := Lib.hid ha
 have Hb := Lib.hid hb
 obtain ⟨N, hN⟩ : ∃ N, N = l.length := ⟨_, rfl⟩
 have HN := Lib.hid hN
 rw [← hN] at hn ⊢
 clear ha hb hN
 go_enter Tryz.func35, Tryz.ntmps35
 go_wp2_with fail
 go_loopw [5] (fun i wr => ∃ k : Nat, k ≤ N ∧ i = .int .i64 k ∧ Ext w wr) (fun i _ => N - (intOf i).toNat)
 case atStart => exact ⟨0, by omega, rfl, Mod.refl _ _⟩
 case round =>
  obtain ⟨k, hk, rfl, hx⟩ := hrel
  by_cases hlt : k < N
  ·have hlt' : (k : Int) < (N : Int) := by omega
   have hk0 : (0 : Int) ≤ (k : Int) := by omega
   have hlk : k < l.length := by rw [← HN.out]; exact hlt
   obtain ⟨b1, o1, rfl⟩ := Ha.out.some (by omega)
   obtain ⟨b2, o2, rfl⟩ := Hb.out.some (by omega)
   obtain ⟨c0, c1, c2⟩ := reads_ed (Ha.out.mod hx (fun _ _ f => f)) (List.getElem?_eq_getElem hlk)
   obtain ⟨d0, d1, d2⟩ := reads_ed (Hb.out.mod hx (fun _ _ f => f)) (List.getElem?_eq_getElem hlk)
   generalize l[k] = x at *
   obtain ⟨p, q, t⟩ := x
   clear hlk
   go_wp2_with fail
   go_quiet (fail)
   go_wp2_with fail
   go_roundw
   case rel => exact ⟨k + 1, by omega, by go_num, hx.drewN _⟩
   case measure => simp [intOf]; omega
  ·have hlt' : ¬ (k : Int) < (N : Int) := by omega
   go_wp2_with fail
   go_ret
   exact ⟨rfl, hx⟩
end Go.Proofs.YthlmgoagnfkhdaaGreat

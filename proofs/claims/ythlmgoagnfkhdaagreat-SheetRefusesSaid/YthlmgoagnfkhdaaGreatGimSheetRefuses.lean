/- What is refused, by Do, Select or Go, changes nothing: neither text nor selections nor marks: the walk. Conditions: none. -/
import Derived.Test.YthlmgoagnfkhdaaGreatGimXSheetRefuses
import Derived.Test.YthlmgoagnfkhdaaGreatGimOrderW
import Derived.Test.YthlmgoagnfkhdaaGreatGimF29
import Derived.Test.YthlmgoagnfkhdaaGreatGimF45
set_option maxHeartbeats 6400000
set_option maxRecDepth 1000000
set_option linter.unusedVariables false
set_option linter.unusedSimpArgs false
namespace Go.Gim
def rgM (A : Nat) : Rg := ⟨A, A, false, false, 0⟩
theorem add_first {A : Nat} (h : A ≤ 65536) : addE [] (rgM A) = 0 := by
 rw [addE_top (by unfold rgM mayS; exact decide_eq_true ⟨by simp only; omega, Int.le_refl _, by simp only; omega⟩) rfl]
 rfl
theorem tok_first {A : Nat} (h : A ≤ 65536) : Tok [(1, rgM A)] 1 65536 := (Tok.nil.mono (B' := 65536) (by omega)).add (r := rgM A) (add_first h) (by omega) (by omega)
theorem get_first (A : Nat) : getR [((1 : Int), rgM A)] 1 = some (rgM A) := rfl
theorem norm_mark {n A : Nat} (h : A ≤ n) : normE n [((A : Int), (0 : Int))] = 0 := by
 unfold normE
 rw [if_neg (by simp), if_neg (by simp), if_pos]
 rw [List.all_eq_true]
 intro x hx
 rw [List.mem_singleton.1 hx, mayB_span]
 simp only
 omega
end Go.Gim
namespace Go.Proofs.YthlmgoagnfkhdaaGreat
open Go.RowKit Go.Gim
theorem selectW_no (S : Sh) (ao : Option Addr) (cap : Nat) (l : List (Int × Int)) (w : World) (h : SheetAt w S) (hr : Reads w 2 ao l.length (prCells l)) (hn : l.length ≤ 70) (hz : normE S.s.size l ≠ 0) :
  Calls Tryz.prog 14 #[.pointer (some ⟨S.sb, 0, none⟩), .slice ao l.length cap] w fun e w' => e = .returned (.int .i64 (normE S.s.size l)) ∧ Ext w w' := by
 have HL := Lib.hid (len_any S.R w h.rope)
 rw [size_of h.text] at HL
 have HN := Lib.hid (normW_any S.s.size ao cap l w hr hn)
 have d0 := h.blk.cell 0
 simp only [List.getElem?_toArray, List.getElem?_cons_zero] at d0
 have hlb := h.blk.lt
 generalize normE S.s.size l = C at *
 have hz1 : (C == 0) = false := by simpa using hz
 generalize l.length = N at *
 clear h hr hn
 go_enter Tryz.func14, Tryz.ntmps14
 go_wp2_with fail
 refine HL.out.mono ?_
 rintro e w1 ⟨rfl, rfl⟩
 go_wp2_with fail
 refine HN.out.mono ?_
 rintro e w2 ⟨v, rfl, hx⟩
 clear HN HL d0
 go_wp2_with fail
 go_ret
 exact ⟨rfl, hx⟩
structure RfAt (w0 w : World) (S1 S : Sh) (g : Nat) : Prop where
 al : Alone w0 w S 65536 8
 sb : S.sb = S1.sb
 tb : S.tb = S1.tb
 L : S.L = S1.L
 last : S.last = S1.last
 s : S.s = S1.s
 q : S.q = S1.q
 want : Reads w 2 (some ⟨g, 0, none⟩) S1.q.length (prCells S1.q)
theorem sheetRefuses_any (w : World) (s : ByteArray) (ae : Option Addr) (ce : Nat) (es : List Ed) (aq : Option Addr) (cq : Nat) (q : List (Int × Int)) (way mark : Int) (hs : s.size ≤ 80) (he : Reads w 3 ae es.length (edE.cells es)) (hmE : MuchB 6 60 es = false) (hq : Reads w 2 aq q.length (prCells q)) (hq7 : q.length ≤ 70) :
  Calls Tryz.prog 6 #[.string s, .slice ae es.length ce, .slice aq q.length cq, .int .i64 way, .int .i64 mark] w fun e w' => e = .returned (.bool true) ∧ Ext w w' := by
 obtain ⟨hel, het⟩ := muchB_in hmE
 have HME := MuchE_any 6 60 ae ce es w he (by unfold maxLen; omega) (by omega) (by omega) (by omega)
 rw [hmE] at HME
 have HME' := Lib.hid HME
 have He := Lib.hid he
 have Hq := Lib.hid hq
 have Hel := Lib.hid hel
 have Het := Lib.hid het
 have Hq7 := Lib.hid hq7
 have LM := Lib.hid (fun v => lowC mark (s.size + 1) ((s.size : Int) + 1) (by omega) (by omega) (by omega) v)
 have hA := lowN_lt mark (s.size + 1) (by omega)
 generalize lowN mark (s.size + 1) = A at *
 have HA0 := Lib.hid (show A ≤ s.size by omega)
 have HCm := Lib.hid (fun w' (h' : Ext w w') => cmay_any s.size ae ce es w' (he.mod h' (fun _ _ f => f)) (by omega) (by omega) (by omega) (fun e hh => by have := het e hh; omega))
 have HNw := Lib.hid (fun w' (h' : Ext w w') => normW_any s.size aq cq q w' (hq.mod h' (fun _ _ f => f)) hq7)
 have s1 : IntKind.i64.wrap ((s.size : Int) + 1) = (s.size : Int) + 1 := IntWalk.i64_in _ (by omega)
 have s2 : wrap64 ((s.size : Int) + 1) = (s.size : Int) + 1 := IntWalk.wrap64_in _ ⟨by omega, by omega⟩
 have i1 : ¬ (80 : Int) < (s.size : Int) := by omega
 have i2 : decide ((80 : Int) < (s.size : Int)) = false := decide_eq_false i1
 obtain ⟨C, hC⟩ : ∃ C, C = mayE s.size es := ⟨_, rfl⟩
 obtain ⟨Dn, hDn⟩ : ∃ Dn, Dn = normE s.size q := ⟨_, rfl⟩
 have HC := Lib.hid hC
 have HDn := Lib.hid hDn
 rw [← hC] at HCm
 rw [← hDn] at HNw
 clear hC hDn
 generalize hE1 : es.length = E1 at *
 generalize hQ1 : q.length = Q1 at *
 have HE1 := Lib.hid hE1
 have HQ1 := Lib.hid hQ1
 have i3 : ¬ (70 : Int) < (Q1 : Int) := by omega
 have i4 : decide ((70 : Int) < (Q1 : Int)) = false := decide_eq_false i3
 clear he hq hmE hel het HME hA hE1 hQ1 hq7
 go_enter Tryz.func6, Tryz.ntmps6
 go_wp2_with fail
 refine HME'.out.mono ?_
 rintro e v0 ⟨rfl, rfl⟩
 go_wp2_with fail
 refine (dice_lit _ [5] #[.int .u32 5] rfl (by simp) (by simp)).mono ?_
 rintro e u1 ⟨D, rfl, hD⟩
 go_wp2_with fail
 refine (snew_any D s u1 hD.dice (by omega)).mono ?_
 rintro e u2 ⟨S, rfl, h1, h2, h3, h4, h5, -, h6, h7⟩
 have HA := Lib.hid (Alone.start (m := 8) hD.ext hD.d h1 h3 h4 h5 h6 h7 (by omega))
 have H2 := Lib.hid h2
 have H3 := Lib.hid h3
 have H4 := Lib.hid h4
 have d1 := HA.out.sh.cell1
 have hlb := HA.out.sh.blk.lt
 clear hD h1 h2 h3 h4 h5 h6 h7 HME' i1 i2 i3 i4
 go_wp2_with fail
 refine (LM.out _).mono ?_
 rintro e u3 ⟨rfl, rfl⟩
 have HAd := Lib.hid (tadd_any S.tb S.mb S.L S.last (rgM A) _ HA.out.sh.tab (by rw [H3.out]; simp) (by rw [H3.out]; rfl) (by rw [H4.out]; omega) (by rw [H4.out]; omega) (by show (Lit.int .i64 0).wf = true; decide))
 unfold rgM at HAd
 simp only at HAd
 clear LM s1 s2
 go_wp2_with fail
 refine HAd.out.mono ?_
 intro e u4 hpost
 have hres : e = .returned (.tuple #[.int .i64 1, .int .i64 0]) ∧ TabAt u4 S.tb S.mb [(1, rgM A)] 1 ∧ Mod (tabS S.tb S.mb) u3 u4 := by
  rcases hpost with ⟨h0, rfl, h2, h3⟩ | ⟨h0, _⟩
  ·rw [H3.out, H4.out] at h2
   rw [H4.out]
   exact ⟨rfl, h2, h3⟩
  ·rw [H3.out] at h0
   exact absurd (add_first (by have := HA0.out; omega)) h0
 obtain ⟨rfl, ht4, hm4⟩ := hres
 have hd4 := HA.out.sh.tabbed ht4 hm4
 have HA4 := Lib.hid (show Alone v0 u4 { S with L := [(1, rgM A)], last := 1 } 65536 8 from ⟨hd4.at_, (HA.out.turned hd4).1, tok_first (by have := HA0.out; omega), by omega, HA.out.q0, HA.out.q1, HA.out.inq, (HA.out.turned hd4).2⟩)
 clear HAd hpost ht4 hm4 hd4 HA d1 hlb
 obtain ⟨S0, hS0⟩ : ∃ S0 : Sh, S0 = { S with L := [(1, rgM A)], last := 1 } := ⟨_, rfl⟩
 have Hs0 := Lib.hid (show S0.sb = S.sb ∧ S0.s = s ∧ S0.L = [(1, rgM A)] ∧ S0.last = 1 by rw [hS0]; exact ⟨rfl, H2.out, rfl, rfl⟩)
 rw [← hS0] at HA4
 clear hS0 H2 H3 H4
 obtain ⟨u5, hu5⟩ : ∃ u5, u5 = u4.alloc (.cells #[.int .i64 A, .int .i64 0] 47) := ⟨_, rfl⟩
 have hx5 : Ext u4 u5 := by rw [hu5]; exact (Mod.refl _ u4).alloc _
 have hr5 : Reads u5 2 (some ⟨u4.heap.size, 0, none⟩) 1 (prCells [((A : Int), (0 : Int))]) := by rw [hu5]; exact Reads.new u4 47 #[.int .i64 A, .int .i64 0] 2 1 rfl
 have HA5 := Lib.hid (HA4.out.on hx5)
 have HSl := Lib.hid (sselect_any S0 (some ⟨u4.heap.size, 0, none⟩) 1 [((A : Int), (0 : Int))] u5 HA5.out.sh hr5 (by simp))
 rw [Hs0.out.2.1, norm_mark HA0.out, if_pos rfl, Hs0.out.1] at HSl
 have Hin := Lib.hid (orderN_inT (norm_mark HA0.out))
 have Hp0 := Lib.hid (orderN_pos (normE_ok (norm_mark HA0.out)).1)
 have Hp1 := Lib.hid (show (orderN [((A : Int), (0 : Int))]).length ≤ 8 by have := orderN_len [((A : Int), (0 : Int))]; simp at this; omega)
 clear hr5 hx5
 go_wp2_with fail
 rw [← hu5]
 refine HSl.out.mono ?_
 rintro e u6 ⟨S1, rfl, hd, e1, e2, e3, e4⟩
 generalize orderN [((A : Int), (0 : Int))] = Q at *
 have HA6 := Lib.hid (HA5.out.pick hd (by rw [e1, Hs0.out.2.1]) e2 e3 (by rw [e4]; exact Hp0.out) (by rw [e4]; exact Hp1.out) (by rw [e4, Hs0.out.2.1]; exact Hin.out))
 have Hsb := Lib.hid (hd.sb.trans Hs0.out.1)
 have Hs1 := Lib.hid (show S1.s = s ∧ S1.L = [(1, rgM A)] ∧ S1.last = 1 by exact ⟨e1, e2.trans Hs0.out.2.2.1, e3.trans Hs0.out.2.2.2⟩)
 have HSe := Lib.hid (ssels_any S1 u6 HA6.out.sh HA6.out.q0 (by have := HA6.out.q1; omega))
 unfold NewRow at HSe
 rw [Hsb.out] at HSe
 clear HSl hd e1 e2 e3 e4 hu5 HA4 HA5 Hs0 Hin Hp0 Hp1
 go_wp2_with fail
 refine HSe.out.mono ?_
 rintro e u7 ⟨g, c7, rfl, ho7, hx7⟩
 have HF := Lib.hid (show RfAt v0 u7 S1 S1 g from ⟨HA6.out.on hx7, rfl, rfl, rfl, rfl, rfl, rfl, Reads.own ho7⟩)
 have Hfar := Lib.hid (show ¬ ShS S1 g ∧ g < u7.heap.size from ⟨HA6.out.sh.free (ho7.lt g rfl).1, (ho7.lt g rfl).2⟩)
 clear HSe ho7 hx7 HA6
 go_wp2_with fail
 refine (HCm.out _ HF.out.al.ext).mono ?_
 rintro e u8 ⟨rfl, hx8⟩
 go_upto_if 89 with fail
 go_cut [] (fun wx => ∃ wn : World, wn = wx ∧ Hid (Ext u7 wn))
 case first =>
  by_cases hz : C = 0
  ·have b1 : (C != 0) = false := by simp [hz]
   clear hz
   go_wp2_with fail
   go_meet
   case rel => exact ⟨_, rfl, Lib.hid hx8⟩
  ·have b1 : (C != 0) = true := by simpa using hz
   have HF8 := Lib.hid (HF.out.al.on hx8)
   have HDo := Lib.hid (sdo_no S1 ae ce es u8 HF8.out.sh (by rw [Hs1.out.1]; omega) (by rw [HE1.out]; exact He.out.mod HF8.out.ext (fun _ _ f => f)) (by have := Hel.out; have := HE1.out; omega) (fun e hh => by have := Het.out e hh; omega) (by rw [Hs1.out.1, ← HC.out]; exact hz))
   rw [Hs1.out.1, ← HC.out, HE1.out, Hsb.out] at HDo
   have b2 : (C != C) = false := by simp
   clear hz
   go_wp2_with fail
   refine HDo.out.mono ?_
   rintro e u9 ⟨rfl, hx9⟩
   go_wp2_with fail
   refine (HCm.out _ (HF8.out.ext.ext_trans hx9)).mono ?_
   rintro e ua ⟨rfl, hxa⟩
   go_wp2_with fail
   go_meet
   case rel => exact ⟨_, rfl, Lib.hid (hx8.ext_trans (hx9.ext_trans hxa))⟩
 case rest =>
  obtain ⟨wn, rfl, HX⟩ := hcut
  clear hx8
  go_wp2_with fail
  refine (HNw.out _ (HF.out.al.ext.ext_trans HX.out)).mono ?_
  rintro e ub ⟨vN, rfl, hxb⟩
  have HXb := Lib.hid (HX.out.ext_trans hxb)
  clear hxb
  go_upto_region 16 with fail
  go_cut [122] from 114 to 122 (fun v wx => ∃ wn : World, wn = wx ∧ v = .bool false ∧ Hid (Ext u7 wn))
  case first =>
   by_cases hz : Dn = 0
   ·have b1 : (Dn != 0) = false := by simp [hz]
    clear hz
    go_wp2_with fail
    go_meet
    case rel => exact ⟨_, rfl, rfl, HXb⟩
   ·have b1 : (Dn != 0) = true := by simpa using hz
    have HFb := Lib.hid (HF.out.al.on HXb.out)
    have HSn := Lib.hid (selectW_no S1 aq cq q ub HFb.out.sh (by rw [HQ1.out]; exact Hq.out.mod HFb.out.ext (fun _ _ f => f)) (by rw [HQ1.out]; exact Hq7.out) (by rw [Hs1.out.1, ← HDn.out]; exact hz))
    rw [Hs1.out.1, ← HDn.out, HQ1.out, Hsb.out] at HSn
    have b2 : (Dn != Dn) = false := by simp
    clear hz
    go_wp2_with fail
    refine HSn.out.mono ?_
    rintro e uc ⟨rfl, hxc⟩
    go_wp2_with fail
    go_meet
    case rel => exact ⟨_, rfl, rfl, Lib.hid (HXb.out.ext_trans hxc)⟩
  case rest =>
   obtain ⟨wn2, rfl, rfl, HX2⟩ := hcut
   have HG := Lib.hid (show RfAt v0 wn2 S1 S1 g from ⟨HF.out.al.on HX2.out, rfl, rfl, rfl, rfl, rfl, rfl, HF.out.want.mod HX2.out (fun _ _ f => f)⟩)
   have hgl2 := Lib.hid (Nat.lt_of_lt_of_le Hfar.out.2 HX2.out.size)
   clear HXb HX HX2
   go_upto_region 18 with fail
   go_cut [134] from 123 to 134 (fun v wx => ∃ (wn : World) (S2 : Sh), wn = wx ∧ v = .bool false ∧ Hid (RfAt v0 wn S1 S2 g))
   case first =>
    have HGo := Lib.hid (sgo_any S1 way false wn2 HG.out.al.sh (by have := HG.out.al.q1; omega))
    rw [Hsb.out] at HGo
    by_cases hw1 : way < 1
    ·have b1 : decide (way < 1) = true := decide_eq_true hw1
     have hgo : goE S1.s.size way S1.q = 2 := by unfold goE; rw [if_neg (by omega)]
     rw [hgo] at HGo
     clear hgo
     go_wp2_with fail
     refine HGo.out.mono ?_
     rintro e uc ⟨S2, rfl, hd, e1, e2, e3, e4⟩
     rw [if_neg (by decide)] at e4
     have HR := Lib.hid (show RfAt v0 uc S1 S2 g from ⟨HG.out.al.pick hd e1 e2 e3 (by rw [e4]; exact HG.out.al.q0) (by rw [e4]; exact HG.out.al.q1) (by rw [e4]; exact HG.out.al.inq), hd.sb, hd.tabs.1, e2, e3, e1, e4, HG.out.want.mod hd.mod (fun a ha e => by cases ha; exact Hfar.out.1 e)⟩)
     clear hd e1 e2 e3 e4
     go_wp2_with fail
     go_meet
     case rel => exact ⟨_, S2, rfl, rfl, HR⟩
    ·have b1 : decide (way < 1) = false := decide_eq_false hw1
     by_cases hw2 : 10 < way
     ·have b2 : decide (10 < way) = true := decide_eq_true hw2
      have hgo : goE S1.s.size way S1.q = 2 := by unfold goE; rw [if_neg (by omega)]
      rw [hgo] at HGo
      clear hgo
      go_wp2_with fail
      refine HGo.out.mono ?_
      rintro e uc ⟨S2, rfl, hd, e1, e2, e3, e4⟩
      rw [if_neg (by decide)] at e4
      have HR := Lib.hid (show RfAt v0 uc S1 S2 g from ⟨HG.out.al.pick hd e1 e2 e3 (by rw [e4]; exact HG.out.al.q0) (by rw [e4]; exact HG.out.al.q1) (by rw [e4]; exact HG.out.al.inq), hd.sb, hd.tabs.1, e2, e3, e1, e4, HG.out.want.mod hd.mod (fun a ha e => by cases ha; exact Hfar.out.1 e)⟩)
      clear hd e1 e2 e3 e4
      go_wp2_with fail
      go_meet
      case rel => exact ⟨_, S2, rfl, rfl, HR⟩
     ·have b2 : decide (10 < way) = false := decide_eq_false hw2
      go_wp2_with fail
      go_meet
      case rel => exact ⟨_, S1, rfl, rfl, HG⟩
   case rest =>
    obtain ⟨wn3, S2, rfl, rfl, HR⟩ := hcut
    have HT := Lib.hid (fun w' (h' : Ext wn3 w') => tget_any S2.tb S2.mb S2.L S2.last 1 w' (HR.out.al.sh.tab.ext h') (by decide))
    rw [HR.out.L, Hs1.out.2.1, get_first] at HT
    rw [show (some (rgM A)).getD rg0 = rgM A from rfl] at HT
    unfold rgV rgM at HT
    simp only [Option.isSome_some] at HT
    have Hb2 := Lib.hid (HR.out.sb.trans Hsb.out)
    have d1 := HR.out.al.sh.cell1
    rw [Hb2.out] at d1
    have hlb := HR.out.al.sh.blk.lt
    rw [Hb2.out] at hlb
    clear HG HCm HNw
    go_wp2_with fail
    refine (HT.out _ (Mod.refl _ _)).mono ?_
    rintro e uc ⟨rfl, hxc⟩
    clear d1 hlb
    go_upto_region 21 with fail
    obtain ⟨ud, hud⟩ : ∃ ud, ud = uc.alloc (.cells #[.int .i64 A, .int .i64 A, .bool false, .bool false, .int .i64 0] 66) := ⟨_, rfl⟩
    have hxd : Ext wn3 ud := by rw [hud]; exact hxc.alloc _
    have hbd : Blk ud uc.heap.size 66 #[.int .i64 A, .int .i64 A, .bool false, .bool false, .int .i64 0] := by rw [hud]; exact Blk.new _ _ _
    rw [← hud]
    have c0 : ud.cell? ⟨uc.heap.size, 0, none⟩ = some (.int .i64 A) := hbd.cell 0
    have c1 : ud.cell? ⟨uc.heap.size, 1, none⟩ = some (.int .i64 A) := hbd.cell 1
    have hlt := hbd.lt
    have HRd := Lib.hid (HR.out.al.on hxd)
    have d0 := HRd.out.sh.cell0
    rw [Hb2.out] at d0
    have hlb := HRd.out.sh.blk.lt
    rw [Hb2.out] at hlb
    have htx : S2.s = s := HR.out.s.trans Hs1.out.1
    have HTx := Lib.hid (text_rope S2.R ud HRd.out.sh.rope)
    rw [bs_eq HRd.out.sh.text, htx] at HTx
    have HSe := Lib.hid (fun w' (h' : Ext ud w') => ssels_any S2 w' (HRd.out.sh.ext h') HRd.out.q0 (by have := HRd.out.q1; omega))
    unfold NewRow at HSe
    rw [HR.out.q, Hb2.out] at HSe
    have HSa := Lib.hid (fun a b cc d w' (ha : Reads w' 2 a S1.q.length (prCells S1.q)) (hb : Reads w' 2 b S1.q.length (prCells S1.q)) => selsSame a b cc d S1.q w' ha hb (by have := HR.out.al.q1; rw [HR.out.q] at this; omega))
    have HW := Lib.hid (HR.out.want.mod hxd (fun _ _ f => f))
    have hss : (s.toList == s.toList) = true := beq_self_eq_true _
    have HXd := Lib.hid HRd.out.ext
    clear hxd hbd hud htx HT HRd hxc
    go_wp2_with fail
    refine HTx.out.mono ?_
    rintro e ue ⟨rfl, hxe⟩
    clear c0 c1 hlt d0 hlb
    go_wp2_with fail
    refine (HSe.out _ hxe).mono ?_
    rintro e uf ⟨gf, cf, rfl, hof, hxf⟩
    have Hof := Lib.hid (Reads.own hof)
    have HWf := Lib.hid (HW.out.mod (hxe.ext_trans hxf) (fun _ _ f => f))
    clear hof HW
    go_wp2_with fail
    refine (HSa.out _ _ _ _ _ Hof.out HWf.out).mono ?_
    rintro e ug ⟨rfl, hxg⟩
    go_wp2_with fail
    refine (awakeS_any _).mono ?_
    rintro e uh ⟨rfl, hxh⟩
    go_wp2_with fail
    go_ret
    exact ⟨rfl, HXd.out.ext_trans (hxe.ext_trans (hxf.ext_trans (hxg.ext_trans hxh)))⟩
theorem sheetRefuses_calls (w : World) (s : ByteArray) (_ : s.size ≤ 9223372036854775807) (ae : Option Addr) (ce : Nat) (es : List Ed) (he : Reads w 3 ae es.length (edE.cells es)) (hem : es.length ≤ maxLen) (_ : ∀ e ∈ es, e.t.size ≤ maxLen ∧ (Lit.int .i64 e.a).wf = true ∧ (Lit.int .i64 e.b).wf = true) (aq : Option Addr) (cq : Nat) (q : List (Int × Int)) (hq : Reads w 2 aq q.length (prCells q)) (_ : q.length ≤ maxLen) (_ : ∀ x ∈ q, i64w x.1 ∧ i64w x.2) (way : Int) (_ : (Lit.int .i64 way).wf = true) (mark : Int) (_ : (Lit.int .i64 mark).wf = true) :
  Calls Tryz.prog 6 #[.string s, .slice ae es.length ce, .slice aq q.length cq, .int .i64 way, .int .i64 mark] w fun e w' => e = .returned (.bool true) ∧ Ext w w' := by
 by_cases h1 : s.size ≤ 80
 ·have i1 : ¬ (80 : Int) < (s.size : Int) := by omega
  have i2 : decide ((80 : Int) < (s.size : Int)) = false := decide_eq_false i1
  have HM := MuchE_any 6 60 ae ce es w he hem (by omega) (by omega) (by omega)
  cases hme : MuchB 6 60 es with
  | false =>
   by_cases h2 : q.length ≤ 70
   ·exact sheetRefuses_any w s ae ce es aq cq q way mark h1 he hme hq h2
   ·have i3 : (70 : Int) < (q.length : Int) := by omega
    have i4 : decide ((70 : Int) < (q.length : Int)) = true := decide_eq_true i3
    rw [hme] at HM
    have HM' := Lib.hid HM
    clear HM he hq hme
    go_enter Tryz.func6, Tryz.ntmps6
    go_wp2_with fail
    refine HM'.out.mono ?_
    rintro e v0 ⟨rfl, rfl⟩
    go_wp2_with fail
    refine (awakeS_any _).mono ?_
    rintro e w9 ⟨rfl, hx9⟩
    go_wp2_with fail
    go_ret
    exact ⟨rfl, hx9⟩
  | true =>
   rw [hme] at HM
   have HM' := Lib.hid HM
   clear HM he hq hme
   go_enter Tryz.func6, Tryz.ntmps6
   go_wp2_with fail
   refine HM'.out.mono ?_
   rintro e v0 ⟨rfl, rfl⟩
   go_wp2_with fail
   refine (awakeS_any _).mono ?_
   rintro e w9 ⟨rfl, hx9⟩
   go_wp2_with fail
   go_ret
   exact ⟨rfl, hx9⟩
 ·have i1 : (80 : Int) < (s.size : Int) := by omega
  have i2 : decide ((80 : Int) < (s.size : Int)) = true := decide_eq_true i1
  clear he hq
  go_enter Tryz.func6, Tryz.ntmps6
  go_wp2_with fail
  refine (awakeS_any _).mono ?_
  rintro e w1 ⟨rfl, hx⟩
  go_wp2_with fail
  go_ret
  exact ⟨rfl, hx⟩
end Go.Proofs.YthlmgoagnfkhdaaGreat

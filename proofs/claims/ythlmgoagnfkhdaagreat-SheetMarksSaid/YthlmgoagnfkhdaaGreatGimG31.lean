/- span.Union, and the document's: stretches that touch put together. Conditions: fewer than 20 stretches, each From at most its To. -/
import Derived.Test.YthlmgoagnfkhdaaGreatGimG12
import Derived.Test.YthlmgoagnfkhdaaGreatGimG24
import Derived.Test.YthlmgoagnfkhdaaGreatGimG29
import Derived.Test.YthlmgoagnfkhdaaGreatGimG28
import Derived.Test.YthlmgoagnfkhdaaGreatGimG30
set_option maxHeartbeats 6400000
set_option maxRecDepth 1000000
set_option linter.unusedVariables false
set_option linter.unusedSimpArgs false
namespace Go.Proofs.YthlmgoagnfkhdaaGreat
open Go.RowKit Go.Gim
theorem union_some (b off cap : Nat) (l : List (Int × Int)) (w : World) (hr : Reads w 2 (some ⟨b, off, none⟩) l.length (prE.cells l)) (h0 : 0 < l.length) (hn : l.length ≤ 19) (hle : ∀ x ∈ l, x.1 ≤ x.2) :
  Calls Tryz.prog 54 #[.slice (some ⟨b, off, none⟩) l.length cap] w (prE.Out 49 (unionL l) w) := by
 have hl1 : maxLen = 9223372036854775807 := rfl
 have Hr := Lib.hid hr
 have Hle := Lib.hid hle
 have Hs := Lib.hid (fun g c w' (h : prE.Row w' g 49 l) => sortSp_any g c l w' h h0 hn)
 have Hsl := Lib.hid (sorted_length lessB l)
 unfold unionL Enc.Out
 generalize sorted lessB l = S at *
 obtain ⟨N, hN⟩ : ∃ N, N = l.length := ⟨_, rfl⟩
 have HN := Lib.hid hN
 rw [← hN] at h0 hn Hs Hsl ⊢
 clear hr hN hle
 go_enter Tryz.func54, Tryz.ntmps54
 go_wp2_with fail
 go_loopw [3, 12] (fun v i wr => ∃ k : Nat, k ≤ N ∧ i = .int .i64 k ∧ Hid (wr.ownsRow w.heap.size 49 2 v k (prE.cells (l.take k))) ∧ Ext w wr) (fun _ i _ => N - (intOf i).toNat)
 case atStart => exact ⟨0, by omega, rfl, Lib.hid (World.ownsRow_nil _ _ _ _), Mod.refl _ _⟩
 case round =>
  obtain ⟨k, hk, rfl, HO, hx⟩ := hrel
  by_cases hlt : k < N
  ·have hlt' : (k : Int) < (N : Int) := by omega
   have hk0 : (0 : Int) ≤ (k : Int) := by omega
   have hlk : k < l.length := by rw [← HN.out]; exact hlt
   obtain ⟨c0, c1⟩ := rdSp_at (Hr.out.mod hx (fun _ _ f => f)) (List.getElem?_eq_getElem hlk)
   have Hts := Lib.hid (List.take_succ_eq_append_getElem hlk)
   have b1 : decide (l[k].1 ≤ l[k].2) = true := decide_eq_true (Hle.out _ (List.getElem_mem hlk))
   generalize l[k] = x at *
   obtain ⟨va, vc, hva, _, _⟩ := ownsRow_shape HO.out
   subst hva
   have hbl := World.block_lt_of_cell? wr _ c0
   have Hom := Lib.hid (ownsRow_mod HO.out (show Ext wr (wr.alloc (.cells #[.int .i64 x.1, .int .i64 x.2] 49)) from (Mod.refl _ wr).alloc _) (fun _ _ f => f))
   clear hlk
   go_wp2_with (at_builtin; refine wpList_append_reads rfl _ _ 114 rfl w.heap.size 49 _ 2 16 Tryz.info49 Tryz.underlying114 rfl (by decide) _ k _ rfl (Hom.out.alloc _) _ 1 1 [.int .i64 x.1, .int .i64 x.2] rfl ?hrd (prE.one x) (by omega) (by omega) ?hbs ?_)
   case hrd =>
    have := Reads.new (wr.alloc (.cells #[.int .i64 x.1, .int .i64 x.2] 49)) 49 #[.int .i64 x.1, .int .i64 x.2] 2 1 rfl
    simpa using this
   case hbs => have := hx.size; simp at this ⊢; omega
   intro v' w4 hown hm4 hbk
   have hx4 := ((hx.alloc (.cells #[.int .i64 x.1, .int .i64 x.2] 49)).alloc _).over hm4 (fun i hi => (Hom.out.lt i hi).1)
   have Hown := Lib.hid hown
   clear hm4 hbk hown c0 c1 hbl
   go_wp2_with fail
   go_roundw
   case rel => exact ⟨k + 1, by omega, by go_num, Lib.hid (by rw [Hts.out, prE.cells_append]; exact Hown.out), hx4⟩
   case measure => simp [intOf]; omega
  ·have hlt' : ¬ (k : Int) < (N : Int) := by omega
   obtain rfl : k = N := by omega
   have hO := HO.out
   rw [List.take_of_length_le (by rw [← HN.out]; exact Nat.le_refl _)] at hO
   obtain ⟨g, c, hv⟩ := Enc.owns_some (E := prE) hO h0
   subst hv
   have hrow := Enc.Row.of_owns (E := prE) hO
   have Hg := Lib.hid (Enc.owns_block (E := prE) hO)
   have Hs2 := Lib.hid (Hs.out g c wr hrow)
   have Hzr := Lib.hid hx.size
   clear hO HO hrow Hs
   go_wp2_with fail
   refine Hs2.out.mono ?_
   rintro e w2 ⟨rfl, hrow2, hm2⟩
   have hx2 : Ext w w2 := hx.trans hm2 (fun i hi e => by have := Hg.out; omega)
   have Hrow := Lib.hid hrow2
   have Hg2 := Lib.hid hrow2.lt
   clear hrow2 hm2 hx Hs2 Hg
   go_wp2_with fail
   go_loopw [6, 30] (fun v i wr => ∃ (j : Nat) (out : List (Int × Int)), j ≤ k ∧ i = .int .i64 j ∧ out.length ≤ j ∧ Hid (wr.ownsRow w2.heap.size 49 2 v out.length (prE.cells out) ∧ out = unionS (S.take j)) ∧ Ext w2 wr) (fun _ i _ => k - (intOf i).toNat)
   case atStart => exact ⟨0, [], by omega, rfl, by simp, Lib.hid ⟨World.ownsRow_nil _ _ _ _, rfl⟩, Mod.refl _ _⟩
   case round =>
    obtain ⟨j, out, hj, rfl, hok, HO, hxr⟩ := hrel
    by_cases hlt : j < k
    ·have hlt' : (j : Int) < (k : Int) := by omega
     have hk0 : (0 : Int) ≤ (j : Int) := by omega
     have hSk : S[j]? = some (S[j]'(by rw [Hsl.out]; exact hlt)) := List.getElem?_eq_getElem _
     have HM := Lib.hid (unionS_step hSk)
     obtain ⟨c0, c1'⟩ := SpRow_cell (Hrow.out.mod hxr (fun f => f)) hSk
     generalize S[j]'(by rw [Hsl.out]; exact hlt) = x at *
     have hgl := hxr.lt Hg2.out
     clear hSk
     have hxa : Ext w2 (wr.alloc (.cells #[.int .i64 x.1, .int .i64 x.2] 49)) := hxr.alloc _
     cases hout : out.length with
     | zero =>
      have hon := HO.out.1
      rw [hout] at hon
      obtain ⟨va, vc, hva, _, _⟩ := ownsRow_shape hon
      subst hva
      have Hon := Lib.hid hon
      have Hme := Lib.hid (show unionS (S.take (j + 1)) = out ++ [x] by rw [HM.out, ← HO.out.2, List.eq_nil_of_length_eq_zero hout]; rfl)
      have Hout := Lib.hid hout
      clear hon hout hok HO
      go_wp2_with fail
      go_quiet (fail)
      have hxm : Ext wr ((wr.alloc (.cells #[.int .i64 x.1, .int .i64 x.2] 49)).drewN nq) := ((Mod.refl _ wr).alloc _).drewN nq
      have hxf : Ext w2 ((wr.alloc (.cells #[.int .i64 x.1, .int .i64 x.2] 49)).drewN nq) := hxa.drewN nq
      have Hom := Lib.hid (ownsRow_mod Hon.out hxm (fun _ _ f => f))
      clear hxm
      go_wp2_with (at_builtin; refine wpList_append_reads rfl _ _ 114 rfl w2.heap.size 49 _ 2 16 Tryz.info49 Tryz.underlying114 rfl (by decide) _ (0) (prE.cells out) rfl (Hom.out.alloc _) _ 1 1 [.int .i64 x.1, .int .i64 x.2] rfl ?hrd (prE.one x) (by omega) (by omega) ?hbs ?_)
      case hrd =>
       have := Reads.new ((wr.alloc (.cells #[.int .i64 x.1, .int .i64 x.2] 49)).drewN nq) 49 #[.int .i64 x.1, .int .i64 x.2] 2 1 rfl
       simpa using this
      case hbs => have := hxf.size; simp at this ⊢; omega
      intro v' w4 hown hm4 hbk
      have hx4 := (hxf.alloc _).over hm4 (fun i hi => (Hom.out.lt i hi).1)
      have Hown := Lib.hid hown
      clear hm4 hbk hown hxf
      go_wp2_with fail
      go_roundw
      case rel => exact ⟨j + 1, out ++ [x], by omega, by go_num, by have := Hout.out; simp; omega, Lib.hid ⟨by rw [prE.cells_append, List.length_append, Hout.out]; exact Hown.out, Hme.out.symm⟩, hx4⟩
      case measure => simp [intOf]; omega
     | succ m =>
      have hon := HO.out.1
      rw [hout] at hon
      obtain ⟨go, co, hvo⟩ := Enc.owns_some (E := prE) hon (by omega)
      subst hvo
      have hma : m < out.length := by omega
      have Hla := Lib.hid (show out.getLast? = some out[m] by rw [List.getLast?_eq_getElem?, hout, Nat.add_sub_cancel]; exact List.getElem?_eq_getElem hma)
      have Hma := Lib.hid (List.getElem?_eq_getElem hma)
      have d0 := Enc.owns_cell (E := prE) (j := 0) hon (List.getElem?_eq_getElem hma) rfl
      have d1 := Enc.owns_cell (E := prE) (j := 1) hon (List.getElem?_eq_getElem hma) rfl
      obtain ⟨hgo1, hgo2⟩ := Enc.owns_block (E := prE) hon
      generalize out[m] = a at *
      simp only [show prE.k = 2 from rfl, Nat.add_zero] at d0 d1
      have Hon := Lib.hid hon
      have Hout := Lib.hid hout
      have e1 : decide ((m : Int) < 0) = false := decide_eq_false (by omega)
      have e2 : (m : Int) ≤ 19 := by omega
      have e3 : (0 : Int) ≤ (m : Int) := by omega
      have e4 : (m : Int) < (m : Int) + 1 := by omega
      have e5 : decide ((0 : Int) ≤ (m : Int)) = true := decide_eq_true e3
      clear hon hma
      cases hT : touchB a x with
      | false =>
       have Hme := Lib.hid (show unionS (S.take (j + 1)) = out ++ [x] by rw [HM.out, ← HO.out.2, unS_no Hla.out hT])
       clear hout HO
       go_wp2_with fail
       refine wp_region_ext_lit (by kernel_rfl) (by kernel_rfl) ?_
       repeat (go_big_quiet_step (first | (with_reducible exact Calls.ext_of (touch_any _ _ _))))
       refine wpQuiet_nil ?_
       intro we hxe
       have hbx := (Blk.new wr 49 #[.int .i64 x.1, .int .i64 x.2]).mod hxe (fun f => f)
       have q0 : we.cell? ⟨wr.heap.size, 0, none⟩ = some (.int .i64 x.1) := hbx.cell 0
       have q1 : we.cell? ⟨wr.heap.size, 1, none⟩ = some (.int .i64 x.2) := hbx.cell 1
       have qlt := hbx.lt
       clear hbx d0 d1 hT e1
       have hxm : Ext wr we := ((Mod.refl _ wr).alloc _).ext_trans hxe
       have hxf : Ext w2 we := hxa.ext_trans hxe
       have Hom := Lib.hid (ownsRow_mod Hon.out hxm (fun _ _ f => f))
       clear hxm
       go_wp2_with (at_builtin; refine wpList_append_reads rfl _ _ 114 rfl w2.heap.size 49 _ 2 16 Tryz.info49 Tryz.underlying114 rfl (by decide) _ ((m + 1)) (prE.cells out) rfl (Hom.out.alloc _) _ 1 1 [.int .i64 x.1, .int .i64 x.2] rfl ?hrd (prE.one x) (by omega) (by omega) ?hbs ?_)
       case hrd =>
        have := Reads.new we 49 #[.int .i64 x.1, .int .i64 x.2] 2 1 rfl
        simpa using this
       case hbs => have := hxf.size; simp at this ⊢; omega
       intro v' w4 hown hm4 hbk
       have hx4 := (hxf.alloc _).over hm4 (fun i hi => (Hom.out.lt i hi).1)
       have Hown := Lib.hid hown
       clear hm4 hbk hown hxf
       go_wp2_with fail
       go_roundw
       case rel => exact ⟨j + 1, out ++ [x], by omega, by go_num, by have := Hout.out; simp; omega, Lib.hid ⟨by rw [prE.cells_append, List.length_append, Hout.out]; exact Hown.out, Hme.out.symm⟩, hx4⟩
       case measure => simp [intOf]; omega
      | true =>
       have Hme := Lib.hid (show unionS (S.take (j + 1)) = out.set m (a.1, max a.2 x.2) by rw [HM.out, ← HO.out.2, unS_yes Hla.out hT, Hout.out, Nat.add_sub_cancel])
       clear hout HO
       by_cases hmx : x.2 ≤ a.2
       ·rw [show max a.2 x.2 = a.2 from by omega] at Hme
        have hmx2 : ¬ a.2 < x.2 := by omega
        go_wp2_with fail
        refine wp_region_ext_lit (by kernel_rfl) (by kernel_rfl) ?_
        repeat (go_big_quiet_step (first | (with_reducible exact Calls.ext_of (touch_any _ _ _))))
        refine wpQuiet_nil ?_
        intro we hxe
        have hbx := (Blk.new wr 49 #[.int .i64 x.1, .int .i64 x.2]).mod hxe (fun f => f)
        have q0 : we.cell? ⟨wr.heap.size, 0, none⟩ = some (.int .i64 x.1) := hbx.cell 0
        have q1 : we.cell? ⟨wr.heap.size, 1, none⟩ = some (.int .i64 x.2) := hbx.cell 1
        have qlt := hbx.lt
        have hxwe := hxa.ext_trans hxe
        have Hon2 := Lib.hid (ownsRow_mod (ownsRow_mod Hon.out (show Ext wr (wr.alloc (.cells #[.int .i64 x.1, .int .i64 x.2] 49)) from (Mod.refl _ wr).alloc _) (fun _ _ f => f)) hxe (fun _ _ f => f))
        clear hbx d0 d1 hT e1
        have d1 := Enc.owns_cell (E := prE) (j := 1) Hon2.out Hma.out rfl
        simp only [show prE.k = 2 from rfl] at d1
        have hgo3 := (Enc.owns_block (E := prE) Hon2.out).2
        go_wp2_with fail
        refine wp_region_ext_tail 12 (by kernel_rfl) (by kernel_rfl) ?_
        simp only [List.take_succ_cons, List.take_zero, List.drop_succ_cons, List.drop_zero]
        repeat (go_big_quiet_step (fail))
        refine wpQuiet_nil ?_
        intro wf hxg
        have Hon3 := Lib.hid (ownsRow_mod Hon2.out hxg (fun _ _ f => f))
        clear q0 q1 qlt d1 Hon2 hgo3
        have g1 := Enc.owns_free (E := prE) Hon3.out (m * 2 + 1)
        have hgo3 := (Enc.owns_block (E := prE) Hon3.out).2
        have d1 := Enc.owns_cell (E := prE) (j := 1) Hon3.out Hma.out rfl
        simp only [show prE.k = 2 from rfl] at d1
        go_wp2_with fail
        go_roundw
        case rel =>
         have hs := Enc.owns_set (E := prE) Hon3.out Hma.out (j := 1) (by decide) (v := .int .i64 a.2) (a.1, a.2) rfl
         exact ⟨j + 1, out.set m (a.1, a.2), by omega, by go_num, by have := Hout.out; rw [List.length_set]; omega, Lib.hid ⟨by rw [List.length_set, Hout.out]; exact hs, Hme.out.symm⟩, (hxwe.ext_trans hxg).setCell (p := ⟨go, m * 2 + 1, none⟩) (fun h => absurd h (Nat.not_lt.2 hgo1)) _⟩
        case measure => simp [intOf]; omega
       ·rw [show max a.2 x.2 = x.2 from by omega] at Hme
        have hmx2 : a.2 < x.2 := by omega
        go_wp2_with fail
        refine wp_region_ext_lit (by kernel_rfl) (by kernel_rfl) ?_
        repeat (go_big_quiet_step (first | (with_reducible exact Calls.ext_of (touch_any _ _ _))))
        refine wpQuiet_nil ?_
        intro we hxe
        have hbx := (Blk.new wr 49 #[.int .i64 x.1, .int .i64 x.2]).mod hxe (fun f => f)
        have q0 : we.cell? ⟨wr.heap.size, 0, none⟩ = some (.int .i64 x.1) := hbx.cell 0
        have q1 : we.cell? ⟨wr.heap.size, 1, none⟩ = some (.int .i64 x.2) := hbx.cell 1
        have qlt := hbx.lt
        have hxwe := hxa.ext_trans hxe
        have Hon2 := Lib.hid (ownsRow_mod (ownsRow_mod Hon.out (show Ext wr (wr.alloc (.cells #[.int .i64 x.1, .int .i64 x.2] 49)) from (Mod.refl _ wr).alloc _) (fun _ _ f => f)) hxe (fun _ _ f => f))
        clear hbx d0 d1 hT e1
        have d1 := Enc.owns_cell (E := prE) (j := 1) Hon2.out Hma.out rfl
        simp only [show prE.k = 2 from rfl] at d1
        have hgo3 := (Enc.owns_block (E := prE) Hon2.out).2
        go_wp2_with fail
        refine wp_region_ext_tail 12 (by kernel_rfl) (by kernel_rfl) ?_
        simp only [List.take_succ_cons, List.take_zero, List.drop_succ_cons, List.drop_zero]
        repeat (go_big_quiet_step (fail))
        refine wpQuiet_nil ?_
        intro wf hxg
        have Hon3 := Lib.hid (ownsRow_mod Hon2.out hxg (fun _ _ f => f))
        clear q0 q1 qlt d1 Hon2 hgo3
        have g1 := Enc.owns_free (E := prE) Hon3.out (m * 2 + 1)
        have hgo3 := (Enc.owns_block (E := prE) Hon3.out).2
        have d1 := Enc.owns_cell (E := prE) (j := 1) Hon3.out Hma.out rfl
        simp only [show prE.k = 2 from rfl] at d1
        go_wp2_with fail
        go_roundw
        case rel =>
         have hs := Enc.owns_set (E := prE) Hon3.out Hma.out (j := 1) (by decide) (v := .int .i64 x.2) (a.1, x.2) rfl
         exact ⟨j + 1, out.set m (a.1, x.2), by omega, by go_num, by have := Hout.out; rw [List.length_set]; omega, Lib.hid ⟨by rw [List.length_set, Hout.out]; exact hs, Hme.out.symm⟩, (hxwe.ext_trans hxg).setCell (p := ⟨go, m * 2 + 1, none⟩) (fun h => absurd h (Nat.not_lt.2 hgo1)) _⟩
        case measure => simp [intOf]; omega
    ·have hlt' : ¬ (j : Int) < (k : Int) := by omega
     obtain rfl : j = k := by omega
     have HO2 := HO.out
     rw [List.take_of_length_le (by rw [Hsl.out]; exact Nat.le_refl _)] at HO2
     obtain ⟨ho1, rfl⟩ := HO2
     have HO3 := Lib.hid (ownsRow_base ho1 hx2.size)
     obtain ⟨va, vc, hva, _, _⟩ := ownsRow_shape ho1
     subst hva
     clear ho1 HO
     go_wp2_with fail
     go_ret
     exact ⟨_, rfl, HO3.out, hx2.ext_trans hxr⟩
theorem rfUnion_any (ao : Option Addr) (cap : Nat) (l : List (Int × Int)) (w : World) (hr : Reads w 2 ao l.length (prE.cells l)) (hn : l.length ≤ 1000) (hle : ∀ x ∈ l, x.1 ≤ x.2) :
  Calls Tryz.prog 94 #[.slice ao l.length cap] w (prE.Out 49 (unionL l) w) := by
 have hl1 : maxLen = 9223372036854775807 := rfl
 have Hs := Lib.hid (refSortSp_any ao cap l w hr hn)
 have Hsl := Lib.hid (sorted_length lessB l)
 have Hle := Lib.hid (fun x (hx : x ∈ sorted lessB l) => hle x ((sorted_mem lessB l x).1 hx))
 unfold unionL Enc.Out
 generalize sorted lessB l = S at *
 obtain ⟨N, hN⟩ : ∃ N, N = l.length := ⟨_, rfl⟩
 rw [← hN] at hn Hs Hsl ⊢
 clear hr hN hle
 go_enter Tryz.func94, Tryz.ntmps94
 go_wp2_with fail
 refine Hs.out.mono ?_
 rintro e w2 ⟨v, rfl, hown, -, hx2⟩
 obtain ⟨a1, c1, rfl, hrd⟩ := Enc.owns_reads (E := prE) hown
 have Hrd := Lib.hid hrd
 clear hown Hs hrd
 go_wp2_with fail
 go_loopw [4, 5] (fun v i wr => ∃ (j : Nat) (out : List (Int × Int)), j ≤ N ∧ i = .int .i64 j ∧ out.length ≤ j ∧ Hid (wr.ownsRow w2.heap.size 49 2 v out.length (prE.cells out) ∧ out = unionS (S.take j)) ∧ Ext w2 wr) (fun _ i _ => N - (intOf i).toNat)
 case atStart => exact ⟨0, [], by omega, rfl, by simp, Lib.hid ⟨World.ownsRow_nil _ _ _ _, rfl⟩, Mod.refl _ _⟩
 case round =>
  obtain ⟨j, out, hj, rfl, hok, HO, hxr⟩ := hrel
  by_cases hlt : j < N
  ·have hlt' : (j : Int) < (N : Int) := by omega
   have hk0 : (0 : Int) ≤ (j : Int) := by omega
   obtain ⟨b, off, rfl⟩ := Hrd.out.some (by omega)
   have hSk : S[j]? = some (S[j]'(by rw [Hsl.out]; exact hlt)) := List.getElem?_eq_getElem _
   have HM := Lib.hid (unionS_step hSk)
   have Hcc := Lib.hid (fun w' (h' : Ext w2 w') => rdSp_at (Hrd.out.mod h' (fun _ _ f => f)) hSk)
   obtain ⟨c0, c1'⟩ := Hcc.out wr hxr
   have hxle := Hle.out _ (List.getElem_mem (l := S) (by rw [Hsl.out]; exact hlt))
   generalize S[j]'(by rw [Hsl.out]; exact hlt) = x at *
   have b1 : decide (x.2 < x.1) = false := decide_eq_false (by omega)
   have hgl := World.block_lt_of_cell? wr _ c0
   clear hSk hxle
   cases hout : out.length with
   | zero =>
    have hon := HO.out.1
    rw [hout] at hon
    obtain ⟨va, vc, hva, _, _⟩ := ownsRow_shape hon
    subst hva
    have Hon := Lib.hid hon
    have Hme := Lib.hid (show unionS (S.take (j + 1)) = out ++ [x] by rw [HM.out, ← HO.out.2, List.eq_nil_of_length_eq_zero hout]; rfl)
    have Hout := Lib.hid hout
    clear hon hout hok HO
    have e5 : decide ((0 : Int) < 0) = false := rfl
    go_wp2_with fail
    go_quiet (fail)
    generalize nq = n1
    clear b1
    go_wp2_with fail
    go_quiet (fail)
    have hxm : Ext wr (wr.drewN (n1 + nq)) := ((Mod.refl _ wr).drewN _)
    have hxf : Ext w2 (wr.drewN (n1 + nq)) := (hxr.drewN _)
    have Hom := Lib.hid (ownsRow_mod Hon.out hxm (fun _ _ f => f))
    clear hxm
    go_wp2_with (at_builtin; refine wpList_append_reads rfl _ _ 114 rfl w2.heap.size 49 _ 2 16 Tryz.info49 Tryz.underlying114 rfl (by decide) _ (0) (prE.cells out) rfl (Hom.out.alloc _) _ 1 1 [.int .i64 x.1, .int .i64 x.2] rfl ?hrd (prE.one x) (by omega) (by omega) ?hbs ?_)
    case hrd =>
     have := Reads.new (wr.drewN (n1 + nq)) 49 #[.int .i64 x.1, .int .i64 x.2] 2 1 rfl
     simpa using this
    case hbs => have := hxf.size; simp at this ⊢; omega
    intro v' w4 hown hm4 hbk
    have hx4 := (hxf.alloc _).over hm4 (fun i hi => (Hom.out.lt i hi).1)
    have Hown := Lib.hid hown
    clear hm4 hbk hown hxf
    go_wp2_with fail
    go_roundw
    case rel => exact ⟨j + 1, out ++ [x], by omega, by go_num, by have := Hout.out; simp; omega, Lib.hid ⟨by rw [prE.cells_append, List.length_append, Hout.out]; exact Hown.out, Hme.out.symm⟩, hx4⟩
    case measure => simp [intOf]; omega
   | succ m =>
    have hon := HO.out.1
    rw [hout] at hon
    obtain ⟨go, co, hvo⟩ := Enc.owns_some (E := prE) hon (by omega)
    subst hvo
    have hma : m < out.length := by omega
    have Hla := Lib.hid (show out.getLast? = some out[m] by rw [List.getLast?_eq_getElem?, hout, Nat.add_sub_cancel]; exact List.getElem?_eq_getElem hma)
    have Hma := Lib.hid (List.getElem?_eq_getElem hma)
    have d0 := Enc.owns_cell (E := prE) (j := 0) hon (List.getElem?_eq_getElem hma) rfl
    have d1 := Enc.owns_cell (E := prE) (j := 1) hon (List.getElem?_eq_getElem hma) rfl
    obtain ⟨hgo1, hgo2⟩ := Enc.owns_block (E := prE) hon
    generalize out[m] = a at *
    simp only [show prE.k = 2 from rfl, Nat.add_zero] at d0 d1
    have Hon := Lib.hid hon
    have Hout := Lib.hid hout
    have e2 : (m : Int) ≤ 1000 := by omega
    have e3 : (0 : Int) ≤ (m : Int) := by omega
    have e4 : (m : Int) < (m : Int) + 1 := by omega
    have e5 : decide ((0 : Int) < (m : Int) + 1) = true := decide_eq_true (by omega)
    have e6 : IntKind.i64.wrap ((m : Int) + 1 - 1) = (m : Int) := by rw [show (m : Int) + 1 - 1 = m from by omega]; exact IntWalk.i64_in _ (by omega)
    clear hon hma
    cases hT : touchB a x with
    | false =>
     have Hme := Lib.hid (show unionS (S.take (j + 1)) = out ++ [x] by rw [HM.out, ← HO.out.2, unS_no Hla.out hT])
     clear hout HO
     go_wp2_with fail
     go_quiet (fail)
     obtain ⟨u, hu⟩ : ∃ u, u = wr.drewN nq := ⟨_, rfl⟩
     have hxu : Ext wr u := by rw [hu]; exact (Mod.refl _ wr).drewN _
     rw [← hu]
     clear b1 c0 c1' hgl d0 d1 hgo2 hu
     obtain ⟨c0, c1'⟩ := Hcc.out u (hxr.ext_trans hxu)
     have hgl := World.block_lt_of_cell? u _ c0
     have Honu := Lib.hid (ownsRow_mod Hon.out hxu (fun _ _ f => f))
     have d0 := Enc.owns_cell (E := prE) (j := 0) Honu.out Hma.out rfl
     have d1 := Enc.owns_cell (E := prE) (j := 1) Honu.out Hma.out rfl
     simp only [show prE.k = 2 from rfl, Nat.add_zero] at d0 d1
     have hgo2 := (Enc.owns_block (E := prE) Honu.out).2
     go_wp2_with fail
     refine wp_region_ext_lit (by kernel_rfl) (by kernel_rfl) ?_
     repeat (go_big_quiet_step (first | (with_reducible exact Calls.ext_of (refTouch_any _ _ _))))
     refine wpQuiet_nil ?_
     intro we hxe
     have hxd := (hxr.ext_trans hxu).ext_trans hxe
     clear c0 c1' hgl d0 d1 hT
     obtain ⟨c0, c1'⟩ := Hcc.out we hxd
     have hgl := World.block_lt_of_cell? we _ c0
     have hxm : Ext wr we := (hxu.ext_trans hxe)
     have hxf : Ext w2 we := hxd
     have Hom := Lib.hid (ownsRow_mod Hon.out hxm (fun _ _ f => f))
     clear hxm
     go_wp2_with (at_builtin; refine wpList_append_reads rfl _ _ 114 rfl w2.heap.size 49 _ 2 16 Tryz.info49 Tryz.underlying114 rfl (by decide) _ ((m + 1)) (prE.cells out) rfl (Hom.out.alloc _) _ 1 1 [.int .i64 x.1, .int .i64 x.2] rfl ?hrd (prE.one x) (by omega) (by omega) ?hbs ?_)
     case hrd =>
      have := Reads.new we 49 #[.int .i64 x.1, .int .i64 x.2] 2 1 rfl
      simpa using this
     case hbs => have := hxf.size; simp at this ⊢; omega
     intro v' w4 hown hm4 hbk
     have hx4 := (hxf.alloc _).over hm4 (fun i hi => (Hom.out.lt i hi).1)
     have Hown := Lib.hid hown
     clear hm4 hbk hown hxf
     go_wp2_with fail
     go_roundw
     case rel => exact ⟨j + 1, out ++ [x], by omega, by go_num, by have := Hout.out; simp; omega, Lib.hid ⟨by rw [prE.cells_append, List.length_append, Hout.out]; exact Hown.out, Hme.out.symm⟩, hx4⟩
     case measure => simp [intOf]; omega
    | true =>
     have Hme := Lib.hid (show unionS (S.take (j + 1)) = out.set m (a.1, max a.2 x.2) by rw [HM.out, ← HO.out.2, unS_yes Hla.out hT, Hout.out, Nat.add_sub_cancel])
     clear hout HO
     by_cases hmx : x.2 ≤ a.2
     ·rw [show max a.2 x.2 = a.2 from by omega] at Hme
      have hmx2 : ¬ a.2 < x.2 := by omega
      go_wp2_with fail
      go_quiet (fail)
      obtain ⟨u, hu⟩ : ∃ u, u = wr.drewN nq := ⟨_, rfl⟩
      have hxu : Ext wr u := by rw [hu]; exact (Mod.refl _ wr).drewN _
      rw [← hu]
      clear b1 c0 c1' hgl d0 d1 hgo2 hu
      obtain ⟨c0, c1'⟩ := Hcc.out u (hxr.ext_trans hxu)
      have hgl := World.block_lt_of_cell? u _ c0
      have Honu := Lib.hid (ownsRow_mod Hon.out hxu (fun _ _ f => f))
      have d0 := Enc.owns_cell (E := prE) (j := 0) Honu.out Hma.out rfl
      have d1 := Enc.owns_cell (E := prE) (j := 1) Honu.out Hma.out rfl
      simp only [show prE.k = 2 from rfl, Nat.add_zero] at d0 d1
      have hgo2 := (Enc.owns_block (E := prE) Honu.out).2
      go_wp2_with fail
      refine wp_region_ext_lit (by kernel_rfl) (by kernel_rfl) ?_
      repeat (go_big_quiet_step (first | (with_reducible exact Calls.ext_of (refTouch_any _ _ _))))
      refine wpQuiet_nil ?_
      intro we hxe
      have hxd := (hxr.ext_trans hxu).ext_trans hxe
      clear c0 c1' hgl d0 d1 hT
      obtain ⟨c0, c1'⟩ := Hcc.out we hxd
      have hgl := World.block_lt_of_cell? we _ c0
      have Hon2 := Lib.hid (ownsRow_mod Hon.out (hxu.ext_trans hxe) (fun _ _ f => f))
      have d1 := Enc.owns_cell (E := prE) (j := 1) Hon2.out Hma.out rfl
      simp only [show prE.k = 2 from rfl] at d1
      have hgo3 := (Enc.owns_block (E := prE) Hon2.out).2
      go_wp2_with fail
      refine wp_region_ext_tail 17 (by kernel_rfl) (by kernel_rfl) ?_
      simp only [List.take_succ_cons, List.take_zero, List.drop_succ_cons, List.drop_zero]
      repeat (go_big_quiet_step (fail))
      refine wpQuiet_nil ?_
      intro wf hxg
      have Hon3 := Lib.hid (ownsRow_mod Hon2.out hxg (fun _ _ f => f))
      clear c0 c1' hgl d1 Hon2 hgo3
      have g1 := Enc.owns_free (E := prE) Hon3.out (m * 2 + 1)
      have hgo3 := (Enc.owns_block (E := prE) Hon3.out).2
      have d1 := Enc.owns_cell (E := prE) (j := 1) Hon3.out Hma.out rfl
      simp only [show prE.k = 2 from rfl] at d1
      go_wp2_with fail
      go_roundw
      case rel =>
       have hs := Enc.owns_set (E := prE) Hon3.out Hma.out (j := 1) (by decide) (v := .int .i64 a.2) (a.1, a.2) rfl
       exact ⟨j + 1, out.set m (a.1, a.2), by omega, by go_num, by have := Hout.out; rw [List.length_set]; omega, Lib.hid ⟨by rw [List.length_set, Hout.out]; exact hs, Hme.out.symm⟩, (hxd.ext_trans hxg).setCell (p := ⟨go, m * 2 + 1, none⟩) (fun h => absurd h (Nat.not_lt.2 hgo1)) _⟩
      case measure => simp [intOf]; omega
     ·rw [show max a.2 x.2 = x.2 from by omega] at Hme
      have hmx2 : a.2 < x.2 := by omega
      go_wp2_with fail
      go_quiet (fail)
      obtain ⟨u, hu⟩ : ∃ u, u = wr.drewN nq := ⟨_, rfl⟩
      have hxu : Ext wr u := by rw [hu]; exact (Mod.refl _ wr).drewN _
      rw [← hu]
      clear b1 c0 c1' hgl d0 d1 hgo2 hu
      obtain ⟨c0, c1'⟩ := Hcc.out u (hxr.ext_trans hxu)
      have hgl := World.block_lt_of_cell? u _ c0
      have Honu := Lib.hid (ownsRow_mod Hon.out hxu (fun _ _ f => f))
      have d0 := Enc.owns_cell (E := prE) (j := 0) Honu.out Hma.out rfl
      have d1 := Enc.owns_cell (E := prE) (j := 1) Honu.out Hma.out rfl
      simp only [show prE.k = 2 from rfl, Nat.add_zero] at d0 d1
      have hgo2 := (Enc.owns_block (E := prE) Honu.out).2
      go_wp2_with fail
      refine wp_region_ext_lit (by kernel_rfl) (by kernel_rfl) ?_
      repeat (go_big_quiet_step (first | (with_reducible exact Calls.ext_of (refTouch_any _ _ _))))
      refine wpQuiet_nil ?_
      intro we hxe
      have hxd := (hxr.ext_trans hxu).ext_trans hxe
      clear c0 c1' hgl d0 d1 hT
      obtain ⟨c0, c1'⟩ := Hcc.out we hxd
      have hgl := World.block_lt_of_cell? we _ c0
      have Hon2 := Lib.hid (ownsRow_mod Hon.out (hxu.ext_trans hxe) (fun _ _ f => f))
      have d1 := Enc.owns_cell (E := prE) (j := 1) Hon2.out Hma.out rfl
      simp only [show prE.k = 2 from rfl] at d1
      have hgo3 := (Enc.owns_block (E := prE) Hon2.out).2
      go_wp2_with fail
      refine wp_region_ext_tail 17 (by kernel_rfl) (by kernel_rfl) ?_
      simp only [List.take_succ_cons, List.take_zero, List.drop_succ_cons, List.drop_zero]
      repeat (go_big_quiet_step (fail))
      refine wpQuiet_nil ?_
      intro wf hxg
      have Hon3 := Lib.hid (ownsRow_mod Hon2.out hxg (fun _ _ f => f))
      clear c0 c1' hgl d1 Hon2 hgo3
      have g1 := Enc.owns_free (E := prE) Hon3.out (m * 2 + 1)
      have hgo3 := (Enc.owns_block (E := prE) Hon3.out).2
      have d1 := Enc.owns_cell (E := prE) (j := 1) Hon3.out Hma.out rfl
      simp only [show prE.k = 2 from rfl] at d1
      go_wp2_with fail
      go_roundw
      case rel =>
       have hs := Enc.owns_set (E := prE) Hon3.out Hma.out (j := 1) (by decide) (v := .int .i64 x.2) (a.1, x.2) rfl
       exact ⟨j + 1, out.set m (a.1, x.2), by omega, by go_num, by have := Hout.out; rw [List.length_set]; omega, Lib.hid ⟨by rw [List.length_set, Hout.out]; exact hs, Hme.out.symm⟩, (hxd.ext_trans hxg).setCell (p := ⟨go, m * 2 + 1, none⟩) (fun h => absurd h (Nat.not_lt.2 hgo1)) _⟩
      case measure => simp [intOf]; omega
  ·have hlt' : ¬ (j : Int) < (N : Int) := by omega
   obtain rfl : j = N := by omega
   have HO2 := HO.out
   rw [List.take_of_length_le (by rw [Hsl.out]; exact Nat.le_refl _)] at HO2
   obtain ⟨ho1, rfl⟩ := HO2
   have HO3 := Lib.hid (ownsRow_base ho1 hx2.size)
   obtain ⟨va, vc, hva, _, _⟩ := ownsRow_shape ho1
   subst hva
   clear ho1 HO
   go_wp2_with fail
   go_ret
   exact ⟨_, rfl, HO3.out, hx2.ext_trans hxr⟩
theorem refNorm_nil (n : Int) (ao : Option Addr) (cap : Nat) (w : World) :
  Calls Tryz.prog 64 #[.int .i64 n, .slice ao 0 cap] w (NormPost 47 n [] w) := by
 go_enter Tryz.func64, Tryz.ntmps64
 go_wp2_with fail
 go_ret2
 exact ⟨_, rfl, World.ownsRow_nil _ _ _ _, Mod.refl _ _⟩
theorem refNorm_in (n : Int) (ao : Option Addr) (cap : Nat) (l : List (Int × Int)) (w : World) (hr : Reads w 2 ao l.length (prCells l)) (h0 : 0 < l.length) (hn : l.length ≤ 64) :
  Calls Tryz.prog 64 #[.int .i64 n, .slice ao l.length cap] w (NormPost 47 n l w) := by
 have He := Lib.hid (normE_in (n := n) h0 (by omega))
 have Hr := Lib.hid hr
 have Ho := Lib.hid (fun v hv => refMerge_in ao cap l v hv h0 (by omega))
 obtain ⟨b, off, rfl⟩ := hr.some h0
 obtain ⟨N, hN⟩ : ∃ N, N = l.length := ⟨_, rfl⟩
 have HN := Lib.hid hN
 rw [← hN] at h0 hn ⊢
 have j1 : ¬ (N : Int) = 0 := by omega
 have j2 : ¬ 64 < (N : Int) := by omega
 have j3 : ¬ 64 < N := by omega
 have j4 : ¬ N = 0 := by omega
 clear hr hN
 go_enter Tryz.func64, Tryz.ntmps64
 go_wp2_with fail
 go_loopw [6] (fun i wr => ∃ k : Nat, k ≤ N ∧ i = .int .i64 k ∧ Hid (∀ x ∈ l.take k, mayB (spanI x) n = true) ∧ Ext w wr) (fun i _ => N - (intOf i).toNat)
 case atStart => exact ⟨0, by omega, rfl, Lib.hid (by simp), Mod.refl _ _⟩
 case round =>
  obtain ⟨k, hk, rfl, HA, hx⟩ := hrel
  by_cases hlt : k < N
  ·have hlt' : (k : Int) < (N : Int) := by omega
   have hk0 : (0 : Int) ≤ (k : Int) := by omega
   have hlk : k < l.length := by rw [← HN.out]; exact hlt
   obtain ⟨c0, c1⟩ := reads_pair (Hr.out.mod hx (fun _ _ f => f)) (List.getElem?_eq_getElem hlk)
   have hts := List.take_succ_eq_append_getElem hlk
   have Hmem := Lib.hid (List.getElem_mem hlk)
   generalize l[k] = x at *
   have Hts := Lib.hid hts
   have hbl := World.block_lt_of_cell? _ _ c0
   clear hts hlk
   go_wp2_with fail
   refine (refSpan_any x _).mono ?_
   rintro e w1 ⟨rfl, y1⟩
   go_wp2_with fail
   refine (refMay_any (spanI x) n _).mono ?_
   rintro e w2 ⟨rfl, y2⟩
   have hx2 := (hx.ext_trans y1).ext_trans y2
   cases hm : mayB (spanI x) n with
   | true =>
    have Hm := Lib.hid hm
    clear y1 y2 c0 c1 hm
    go_wp2_with fail
    go_roundw
    case rel => exact ⟨k + 1, by omega, by go_num, Lib.hid (by rw [Hts.out]; intro y hy; rcases List.mem_append.1 hy with h | h; exact HA.out y h; rw [List.mem_singleton.1 h]; exact Hm.out), hx2⟩
    case measure => simp [intOf]; omega
   | false =>
    have Hm := Lib.hid hm
    have HE := Lib.hid (show normE n l = 3 by
     rw [He.out, if_neg]
     intro hall
     have := List.all_eq_true.1 hall x Hmem.out
     rw [Hm.out] at this; cases this)
    clear y1 y2 c0 c1 hm
    go_wp2_with fail
    go_ret2
    exact ⟨_, by rw [HE.out]; rfl, by rw [show normL n l = [] by unfold normL; rw [HE.out]; rfl]; exact World.ownsRow_nil _ _ _ _, hx2⟩
  ·have hlt' : ¬ (k : Int) < (N : Int) := by omega
   obtain rfl : k = N := by omega
   have HE := Lib.hid (show normE n l = 0 by
    have h1 := HA.out
    rw [HN.out, List.take_of_length_le (Nat.le_refl _)] at h1
    rw [He.out, if_pos (List.all_eq_true.2 h1)])
   have ho := Ho.out _ (Hr.out.mod hx (fun _ _ f => f))
   rw [← HN.out] at ho
   have Ho2 := Lib.hid ho
   clear ho Ho
   go_wp2_with fail
   refine Ho2.out.mono ?_
   rintro e w3 ⟨g, c, rfl, hown, y3⟩
   have HO := Lib.hid (ownsRow_base hown hx.size)
   clear hown
   go_wp2_with fail
   go_ret2
   exact ⟨_, by rw [HE.out]; rfl, by rw [show normL n l = orderN l by unfold normL; rw [HE.out]; rfl]; exact HO.out, hx.ext_trans y3⟩
theorem refNorm_any (n : Int) (ao : Option Addr) (cap : Nat) (l : List (Int × Int)) (w : World) (hr : Reads w 2 ao l.length (prCells l)) (hn : l.length ≤ 64) :
  Calls Tryz.prog 64 #[.int .i64 n, .slice ao l.length cap] w (NormPost 47 n l w) := by
 by_cases h0 : 0 < l.length
 ·exact refNorm_in n ao cap l w hr h0 hn
 ·obtain rfl : l = [] := List.length_eq_zero_iff.1 (by omega)
  exact refNorm_nil n ao cap w
theorem selsSame (a b : Option Addr) (c d : Nat) (l : List (Int × Int)) (w : World) (ha : Reads w 2 a l.length (prCells l)) (hb : Reads w 2 b l.length (prCells l)) (hn : l.length ≤ 1000000) :
  Calls Tryz.prog 24 #[.slice a l.length c, .slice b l.length d] w fun e w' => e = .returned (.bool true) ∧ Ext w w' := by
 have Ha := Lib.hid ha
 have Hb := Lib.hid hb
 obtain ⟨N, hN⟩ : ∃ N, N = l.length := ⟨_, rfl⟩
 have HN := Lib.hid hN
 rw [← hN] at hn ⊢
 clear ha hb hN
 go_enter Tryz.func24, Tryz.ntmps24
 go_wp2_with fail
 go_loopw [5] (fun i wr => ∃ k : Nat, k ≤ N ∧ i = .int .i64 k ∧ Ext w wr) (fun i _ => N - (intOf i).toNat)
 case atStart => exact ⟨0, by omega, rfl, Mod.refl _ _⟩
 case round =>
  obtain ⟨k, hk, rfl, hx⟩ := hrel
  by_cases hlt : k < N
  ·have hlt' : (k : Int) < (N : Int) := by omega
   have hk0 : (0 : Int) ≤ (k : Int) := by omega
   have hlk : k < l.length := by rw [← HN.out]; exact hlt
   obtain ⟨b1, o1, rfl⟩ := Ha.out.some (by omega)
   obtain ⟨b2, o2, rfl⟩ := Hb.out.some (by omega)
   obtain ⟨c0, c1⟩ := reads_pair (Ha.out.mod hx (fun _ _ f => f)) (List.getElem?_eq_getElem hlk)
   obtain ⟨d0, d1⟩ := reads_pair (Hb.out.mod hx (fun _ _ f => f)) (List.getElem?_eq_getElem hlk)
   generalize l[k] = x at *
   obtain ⟨p, q⟩ := x
   clear hlk
   go_wp2_with fail
   go_quiet (fail)
   go_wp2_with fail
   go_roundw
   case rel => exact ⟨k + 1, by omega, by go_num, hx.drewN _⟩
   case measure => simp [intOf]; omega
  ·have hlt' : ¬ (k : Int) < (N : Int) := by omega
   go_wp2_with fail
   go_ret
   exact ⟨rfl, hx⟩
end Go.Proofs.YthlmgoagnfkhdaaGreat

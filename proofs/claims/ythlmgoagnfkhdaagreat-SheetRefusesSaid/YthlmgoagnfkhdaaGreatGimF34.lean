/- The document's Merge: selections inserted one by one; then those that touch put together. Conditions: at most 1000 selections. -/
import Derived.Test.YthlmgoagnfkhdaaGreatGimF31
import Derived.Test.YthlmgoagnfkhdaaGreatGimF05
import Derived.Test.YthlmgoagnfkhdaaGreatGimF03
import Derived.Test.YthlmgoagnfkhdaaGreatGimF15
import Derived.Test.YthlmgoagnfkhdaaGreatGimF27
import Derived.Test.YthlmgoagnfkhdaaGreatGimF30
import Derived.Test.YthlmgoagnfkhdaaGreatGimF32
set_option maxHeartbeats 6400000
set_option maxRecDepth 1000000
set_option linter.unusedVariables false
set_option linter.unusedSimpArgs false
namespace Go.Gim
open Go Go.RowKit
theorem reads_none {w : World} {ao : Option Addr} : Reads w 2 ao 0 (prCells []) := ⟨rfl, fun h => absurd h (Nat.lt_irrefl _)⟩
end Go.Gim
namespace Go.Proofs.YthlmgoagnfkhdaaGreat
open Go.RowKit Go.Gim
theorem union_some (b off cap : Nat) (l : List (Int × Int)) (w : World) (hr : Reads w 2 (some ⟨b, off, none⟩) l.length (prE.cells l)) (h0 : 0 < l.length) (hn : l.length ≤ 19) (hle : ∀ x ∈ l, x.1 ≤ x.2) :
  Calls Tryz.prog 54 #[.slice (some ⟨b, off, none⟩) l.length cap] w (prE.Out 49 (unionL l) w) := by
 have hl1 : maxLen = 9223372036854775807 := rfl
 have Hr := Lib.hid hr
 have Hle := Lib.hid hle
 have Hs := Lib.hid (fun g c w' (h : prE.Row w' g 49 l) => sortSp_any g c l w' h h0 hn)
 have Hsl := Lib.hid (sorted_length lessB l)
 unfold unionL Enc.Out
 generalize sorted lessB l = S at *
 obtain ⟨N, hN⟩ : ∃ N, N = l.length := ⟨_, rfl⟩
 have HN := Lib.hid hN
 rw [← hN] at h0 hn Hs Hsl ⊢
 clear hr hN hle
 go_enter Tryz.func54, Tryz.ntmps54
 go_wp2_with fail
 go_loopw [3, 12] (fun v i wr => ∃ k : Nat, k ≤ N ∧ i = .int .i64 k ∧ Hid (wr.ownsRow w.heap.size 49 2 v k (prE.cells (l.take k))) ∧ Ext w wr) (fun _ i _ => N - (intOf i).toNat)
 case atStart => exact ⟨0, by omega, rfl, Lib.hid (World.ownsRow_nil _ _ _ _), Mod.refl _ _⟩
 case round =>
  obtain ⟨k, hk, rfl, HO, hx⟩ := hrel
  by_cases hlt : k < N
  ·have hlt' : (k : Int) < (N : Int) := by omega
   have hk0 : (0 : Int) ≤ (k : Int) := by omega
   have hlk : k < l.length := by rw [← HN.out]; exact hlt
   obtain ⟨c0, c1⟩ := rdSp_at (Hr.out.mod hx (fun _ _ f => f)) (List.getElem?_eq_getElem hlk)
   have Hts := Lib.hid (List.take_succ_eq_append_getElem hlk)
   have b1 : decide (l[k].1 ≤ l[k].2) = true := decide_eq_true (Hle.out _ (List.getElem_mem hlk))
   generalize l[k] = x at *
   obtain ⟨va, vc, hva, _, _⟩ := ownsRow_shape HO.out
   subst hva
   have hbl := World.block_lt_of_cell? wr _ c0
   have Hom := Lib.hid (ownsRow_mod HO.out (show Ext wr (wr.alloc (.cells #[.int .i64 x.1, .int .i64 x.2] 49)) from (Mod.refl _ wr).alloc _) (fun _ _ f => f))
   clear hlk
   go_wp2_with (at_builtin; refine wpList_append_reads rfl _ _ 114 rfl w.heap.size 49 _ 2 16 Tryz.info49 Tryz.underlying114 rfl (by decide) _ k _ rfl (Hom.out.alloc _) _ 1 1 [.int .i64 x.1, .int .i64 x.2] rfl ?hrd (prE.one x) (by omega) (by omega) ?hbs ?_)
   case hrd =>
    have := Reads.new (wr.alloc (.cells #[.int .i64 x.1, .int .i64 x.2] 49)) 49 #[.int .i64 x.1, .int .i64 x.2] 2 1 rfl
    simpa using this
   case hbs => have := hx.size; simp at this ⊢; omega
   intro v' w4 hown hm4 hbk
   have hx4 := ((hx.alloc (.cells #[.int .i64 x.1, .int .i64 x.2] 49)).alloc _).over hm4 (fun i hi => (Hom.out.lt i hi).1)
   have Hown := Lib.hid hown
   clear hm4 hbk hown c0 c1 hbl
   go_wp2_with fail
   go_roundw
   case rel => exact ⟨k + 1, by omega, by go_num, Lib.hid (by rw [Hts.out, prE.cells_append]; exact Hown.out), hx4⟩
   case measure => simp [intOf]; omega
  ·have hlt' : ¬ (k : Int) < (N : Int) := by omega
   obtain rfl : k = N := by omega
   have hO := HO.out
   rw [List.take_of_length_le (by rw [← HN.out]; exact Nat.le_refl _)] at hO
   obtain ⟨g, c, hv⟩ := Enc.owns_some (E := prE) hO h0
   subst hv
   have hrow := Enc.Row.of_owns (E := prE) hO
   have Hg := Lib.hid (Enc.owns_block (E := prE) hO)
   have Hs2 := Lib.hid (Hs.out g c wr hrow)
   have Hzr := Lib.hid hx.size
   clear hO HO hrow Hs
   go_wp2_with fail
   refine Hs2.out.mono ?_
   rintro e w2 ⟨rfl, hrow2, hm2⟩
   have hx2 : Ext w w2 := hx.trans hm2 (fun i hi e => by have := Hg.out; omega)
   have Hrow := Lib.hid hrow2
   have Hg2 := Lib.hid hrow2.lt
   clear hrow2 hm2 hx Hs2 Hg
   go_wp2_with fail
   go_loopw [6, 30] (fun v i wr => ∃ (j : Nat) (out : List (Int × Int)), j ≤ k ∧ i = .int .i64 j ∧ out.length ≤ j ∧ Hid (wr.ownsRow w2.heap.size 49 2 v out.length (prE.cells out) ∧ out = unionS (S.take j)) ∧ Ext w2 wr) (fun _ i _ => k - (intOf i).toNat)
   case atStart => exact ⟨0, [], by omega, rfl, by simp, Lib.hid ⟨World.ownsRow_nil _ _ _ _, rfl⟩, Mod.refl _ _⟩
   case round =>
    obtain ⟨j, out, hj, rfl, hok, HO, hxr⟩ := hrel
    by_cases hlt : j < k
    ·have hlt' : (j : Int) < (k : Int) := by omega
     have hk0 : (0 : Int) ≤ (j : Int) := by omega
     have hSk : S[j]? = some (S[j]'(by rw [Hsl.out]; exact hlt)) := List.getElem?_eq_getElem _
     have HM := Lib.hid (unionS_step hSk)
     obtain ⟨c0, c1'⟩ := SpRow_cell (Hrow.out.mod hxr (fun f => f)) hSk
     generalize S[j]'(by rw [Hsl.out]; exact hlt) = x at *
     have hgl := hxr.lt Hg2.out
     clear hSk
     have hxa : Ext w2 (wr.alloc (.cells #[.int .i64 x.1, .int .i64 x.2] 49)) := hxr.alloc _
     cases hout : out.length with
     | zero =>
      have hon := HO.out.1
      rw [hout] at hon
      obtain ⟨va, vc, hva, _, _⟩ := ownsRow_shape hon
      subst hva
      have Hon := Lib.hid hon
      have Hme := Lib.hid (show unionS (S.take (j + 1)) = out ++ [x] by rw [HM.out, ← HO.out.2, List.eq_nil_of_length_eq_zero hout]; rfl)
      have Hout := Lib.hid hout
      clear hon hout hok HO
      go_wp2_with fail
      go_quiet (fail)
      have hxm : Ext wr ((wr.alloc (.cells #[.int .i64 x.1, .int .i64 x.2] 49)).drewN nq) := ((Mod.refl _ wr).alloc _).drewN nq
      have hxf : Ext w2 ((wr.alloc (.cells #[.int .i64 x.1, .int .i64 x.2] 49)).drewN nq) := hxa.drewN nq
      have Hom := Lib.hid (ownsRow_mod Hon.out hxm (fun _ _ f => f))
      clear hxm
      go_wp2_with (at_builtin; refine wpList_append_reads rfl _ _ 114 rfl w2.heap.size 49 _ 2 16 Tryz.info49 Tryz.underlying114 rfl (by decide) _ (0) (prE.cells out) rfl (Hom.out.alloc _) _ 1 1 [.int .i64 x.1, .int .i64 x.2] rfl ?hrd (prE.one x) (by omega) (by omega) ?hbs ?_)
      case hrd =>
       have := Reads.new ((wr.alloc (.cells #[.int .i64 x.1, .int .i64 x.2] 49)).drewN nq) 49 #[.int .i64 x.1, .int .i64 x.2] 2 1 rfl
       simpa using this
      case hbs => have := hxf.size; simp at this ⊢; omega
      intro v' w4 hown hm4 hbk
      have hx4 := (hxf.alloc _).over hm4 (fun i hi => (Hom.out.lt i hi).1)
      have Hown := Lib.hid hown
      clear hm4 hbk hown hxf
      go_wp2_with fail
      go_roundw
      case rel => exact ⟨j + 1, out ++ [x], by omega, by go_num, by have := Hout.out; simp; omega, Lib.hid ⟨by rw [prE.cells_append, List.length_append, Hout.out]; exact Hown.out, Hme.out.symm⟩, hx4⟩
      case measure => simp [intOf]; omega
     | succ m =>
      have hon := HO.out.1
      rw [hout] at hon
      obtain ⟨go, co, hvo⟩ := Enc.owns_some (E := prE) hon (by omega)
      subst hvo
      have hma : m < out.length := by omega
      have Hla := Lib.hid (show out.getLast? = some out[m] by rw [List.getLast?_eq_getElem?, hout, Nat.add_sub_cancel]; exact List.getElem?_eq_getElem hma)
      have Hma := Lib.hid (List.getElem?_eq_getElem hma)
      have d0 := Enc.owns_cell (E := prE) (j := 0) hon (List.getElem?_eq_getElem hma) rfl
      have d1 := Enc.owns_cell (E := prE) (j := 1) hon (List.getElem?_eq_getElem hma) rfl
      obtain ⟨hgo1, hgo2⟩ := Enc.owns_block (E := prE) hon
      generalize out[m] = a at *
      simp only [show prE.k = 2 from rfl, Nat.add_zero] at d0 d1
      have Hon := Lib.hid hon
      have Hout := Lib.hid hout
      have e1 : decide ((m : Int) < 0) = false := decide_eq_false (by omega)
      have e2 : (m : Int) ≤ 19 := by omega
      have e3 : (0 : Int) ≤ (m : Int) := by omega
      have e4 : (m : Int) < (m : Int) + 1 := by omega
      have e5 : decide ((0 : Int) ≤ (m : Int)) = true := decide_eq_true e3
      clear hon hma
      cases hT : touchB a x with
      | false =>
       have Hme := Lib.hid (show unionS (S.take (j + 1)) = out ++ [x] by rw [HM.out, ← HO.out.2, unS_no Hla.out hT])
       clear hout HO
       go_wp2_with fail
       refine wp_region_ext_lit (by kernel_rfl) (by kernel_rfl) ?_
       repeat (go_big_quiet_step (first | (with_reducible exact Calls.ext_of (touch_any _ _ _))))
       refine wpQuiet_nil ?_
       intro we hxe
       have hbx := (Blk.new wr 49 #[.int .i64 x.1, .int .i64 x.2]).mod hxe (fun f => f)
       have q0 : we.cell? ⟨wr.heap.size, 0, none⟩ = some (.int .i64 x.1) := hbx.cell 0
       have q1 : we.cell? ⟨wr.heap.size, 1, none⟩ = some (.int .i64 x.2) := hbx.cell 1
       have qlt := hbx.lt
       clear hbx d0 d1 hT e1
       have hxm : Ext wr we := ((Mod.refl _ wr).alloc _).ext_trans hxe
       have hxf : Ext w2 we := hxa.ext_trans hxe
       have Hom := Lib.hid (ownsRow_mod Hon.out hxm (fun _ _ f => f))
       clear hxm
       go_wp2_with (at_builtin; refine wpList_append_reads rfl _ _ 114 rfl w2.heap.size 49 _ 2 16 Tryz.info49 Tryz.underlying114 rfl (by decide) _ ((m + 1)) (prE.cells out) rfl (Hom.out.alloc _) _ 1 1 [.int .i64 x.1, .int .i64 x.2] rfl ?hrd (prE.one x) (by omega) (by omega) ?hbs ?_)
       case hrd =>
        have := Reads.new we 49 #[.int .i64 x.1, .int .i64 x.2] 2 1 rfl
        simpa using this
       case hbs => have := hxf.size; simp at this ⊢; omega
       intro v' w4 hown hm4 hbk
       have hx4 := (hxf.alloc _).over hm4 (fun i hi => (Hom.out.lt i hi).1)
       have Hown := Lib.hid hown
       clear hm4 hbk hown hxf
       go_wp2_with fail
       go_roundw
       case rel => exact ⟨j + 1, out ++ [x], by omega, by go_num, by have := Hout.out; simp; omega, Lib.hid ⟨by rw [prE.cells_append, List.length_append, Hout.out]; exact Hown.out, Hme.out.symm⟩, hx4⟩
       case measure => simp [intOf]; omega
      | true =>
       have Hme := Lib.hid (show unionS (S.take (j + 1)) = out.set m (a.1, max a.2 x.2) by rw [HM.out, ← HO.out.2, unS_yes Hla.out hT, Hout.out, Nat.add_sub_cancel])
       clear hout HO
       by_cases hmx : x.2 ≤ a.2
       ·rw [show max a.2 x.2 = a.2 from by omega] at Hme
        have hmx2 : ¬ a.2 < x.2 := by omega
        go_wp2_with fail
        refine wp_region_ext_lit (by kernel_rfl) (by kernel_rfl) ?_
        repeat (go_big_quiet_step (first | (with_reducible exact Calls.ext_of (touch_any _ _ _))))
        refine wpQuiet_nil ?_
        intro we hxe
        have hbx := (Blk.new wr 49 #[.int .i64 x.1, .int .i64 x.2]).mod hxe (fun f => f)
        have q0 : we.cell? ⟨wr.heap.size, 0, none⟩ = some (.int .i64 x.1) := hbx.cell 0
        have q1 : we.cell? ⟨wr.heap.size, 1, none⟩ = some (.int .i64 x.2) := hbx.cell 1
        have qlt := hbx.lt
        have hxwe := hxa.ext_trans hxe
        have Hon2 := Lib.hid (ownsRow_mod (ownsRow_mod Hon.out (show Ext wr (wr.alloc (.cells #[.int .i64 x.1, .int .i64 x.2] 49)) from (Mod.refl _ wr).alloc _) (fun _ _ f => f)) hxe (fun _ _ f => f))
        clear hbx d0 d1 hT e1
        have d1 := Enc.owns_cell (E := prE) (j := 1) Hon2.out Hma.out rfl
        simp only [show prE.k = 2 from rfl] at d1
        have hgo3 := (Enc.owns_block (E := prE) Hon2.out).2
        go_wp2_with fail
        refine wp_region_ext_tail 12 (by kernel_rfl) (by kernel_rfl) ?_
        simp only [List.take_succ_cons, List.take_zero, List.drop_succ_cons, List.drop_zero]
        repeat (go_big_quiet_step (fail))
        refine wpQuiet_nil ?_
        intro wf hxg
        have Hon3 := Lib.hid (ownsRow_mod Hon2.out hxg (fun _ _ f => f))
        clear q0 q1 qlt d1 Hon2 hgo3
        have g1 := Enc.owns_free (E := prE) Hon3.out (m * 2 + 1)
        have hgo3 := (Enc.owns_block (E := prE) Hon3.out).2
        have d1 := Enc.owns_cell (E := prE) (j := 1) Hon3.out Hma.out rfl
        simp only [show prE.k = 2 from rfl] at d1
        go_wp2_with fail
        go_roundw
        case rel =>
         have hs := Enc.owns_set (E := prE) Hon3.out Hma.out (j := 1) (by decide) (v := .int .i64 a.2) (a.1, a.2) rfl
         exact ⟨j + 1, out.set m (a.1, a.2), by omega, by go_num, by have := Hout.out; rw [List.length_set]; omega, Lib.hid ⟨by rw [List.length_set, Hout.out]; exact hs, Hme.out.symm⟩, (hxwe.ext_trans hxg).setCell (p := ⟨go, m * 2 + 1, none⟩) (fun h => absurd h (Nat.not_lt.2 hgo1)) _⟩
        case measure => simp [intOf]; omega
       ·rw [show max a.2 x.2 = x.2 from by omega] at Hme
        have hmx2 : a.2 < x.2 := by omega
        go_wp2_with fail
        refine wp_region_ext_lit (by kernel_rfl) (by kernel_rfl) ?_
        repeat (go_big_quiet_step (first | (with_reducible exact Calls.ext_of (touch_any _ _ _))))
        refine wpQuiet_nil ?_
        intro we hxe
        have hbx := (Blk.new wr 49 #[.int .i64 x.1, .int .i64 x.2]).mod hxe (fun f => f)
        have q0 : we.cell? ⟨wr.heap.size, 0, none⟩ = some (.int .i64 x.1) := hbx.cell 0
        have q1 : we.cell? ⟨wr.heap.size, 1, none⟩ = some (.int .i64 x.2) := hbx.cell 1
        have qlt := hbx.lt
        have hxwe := hxa.ext_trans hxe
        have Hon2 := Lib.hid (ownsRow_mod (ownsRow_mod Hon.out (show Ext wr (wr.alloc (.cells #[.int .i64 x.1, .int .i64 x.2] 49)) from (Mod.refl _ wr).alloc _) (fun _ _ f => f)) hxe (fun _ _ f => f))
        clear hbx d0 d1 hT e1
        have d1 := Enc.owns_cell (E := prE) (j := 1) Hon2.out Hma.out rfl
        simp only [show prE.k = 2 from rfl] at d1
        have hgo3 := (Enc.owns_block (E := prE) Hon2.out).2
        go_wp2_with fail
        refine wp_region_ext_tail 12 (by kernel_rfl) (by kernel_rfl) ?_
        simp only [List.take_succ_cons, List.take_zero, List.drop_succ_cons, List.drop_zero]
        repeat (go_big_quiet_step (fail))
        refine wpQuiet_nil ?_
        intro wf hxg
        have Hon3 := Lib.hid (ownsRow_mod Hon2.out hxg (fun _ _ f => f))
        clear q0 q1 qlt d1 Hon2 hgo3
        have g1 := Enc.owns_free (E := prE) Hon3.out (m * 2 + 1)
        have hgo3 := (Enc.owns_block (E := prE) Hon3.out).2
        have d1 := Enc.owns_cell (E := prE) (j := 1) Hon3.out Hma.out rfl
        simp only [show prE.k = 2 from rfl] at d1
        go_wp2_with fail
        go_roundw
        case rel =>
         have hs := Enc.owns_set (E := prE) Hon3.out Hma.out (j := 1) (by decide) (v := .int .i64 x.2) (a.1, x.2) rfl
         exact ⟨j + 1, out.set m (a.1, x.2), by omega, by go_num, by have := Hout.out; rw [List.length_set]; omega, Lib.hid ⟨by rw [List.length_set, Hout.out]; exact hs, Hme.out.symm⟩, (hxwe.ext_trans hxg).setCell (p := ⟨go, m * 2 + 1, none⟩) (fun h => absurd h (Nat.not_lt.2 hgo1)) _⟩
        case measure => simp [intOf]; omega
    ·have hlt' : ¬ (j : Int) < (k : Int) := by omega
     obtain rfl : j = k := by omega
     have HO2 := HO.out
     rw [List.take_of_length_le (by rw [Hsl.out]; exact Nat.le_refl _)] at HO2
     obtain ⟨ho1, rfl⟩ := HO2
     have HO3 := Lib.hid (ownsRow_base ho1 hx2.size)
     obtain ⟨va, vc, hva, _, _⟩ := ownsRow_shape ho1
     subst hva
     clear ho1 HO
     go_wp2_with fail
     go_ret
     exact ⟨_, rfl, HO3.out, hx2.ext_trans hxr⟩
theorem selsSame (a b : Option Addr) (c d : Nat) (l : List (Int × Int)) (w : World) (ha : Reads w 2 a l.length (prCells l)) (hb : Reads w 2 b l.length (prCells l)) (hn : l.length ≤ 1000000) :
  Calls Tryz.prog 24 #[.slice a l.length c, .slice b l.length d] w fun e w' => e = .returned (.bool true) ∧ Ext w w' := by
 have Ha := Lib.hid ha
 have Hb := Lib.hid hb
 obtain ⟨N, hN⟩ : ∃ N, N = l.length := ⟨_, rfl⟩
 have HN := Lib.hid hN
 rw [← hN] at hn ⊢
 clear ha hb hN
 go_enter Tryz.func24, Tryz.ntmps24
 go_wp2_with fail
 go_loopw [5] (fun i wr => ∃ k : Nat, k ≤ N ∧ i = .int .i64 k ∧ Ext w wr) (fun i _ => N - (intOf i).toNat)
 case atStart => exact ⟨0, by omega, rfl, Mod.refl _ _⟩
 case round =>
  obtain ⟨k, hk, rfl, hx⟩ := hrel
  by_cases hlt : k < N
  ·have hlt' : (k : Int) < (N : Int) := by omega
   have hk0 : (0 : Int) ≤ (k : Int) := by omega
   have hlk : k < l.length := by rw [← HN.out]; exact hlt
   obtain ⟨b1, o1, rfl⟩ := Ha.out.some (by omega)
   obtain ⟨b2, o2, rfl⟩ := Hb.out.some (by omega)
   obtain ⟨c0, c1⟩ := reads_pair (Ha.out.mod hx (fun _ _ f => f)) (List.getElem?_eq_getElem hlk)
   obtain ⟨d0, d1⟩ := reads_pair (Hb.out.mod hx (fun _ _ f => f)) (List.getElem?_eq_getElem hlk)
   generalize l[k] = x at *
   obtain ⟨p, q⟩ := x
   clear hlk
   go_wp2_with fail
   go_quiet (fail)
   go_wp2_with fail
   go_roundw
   case rel => exact ⟨k + 1, by omega, by go_num, hx.drewN _⟩
   case measure => simp [intOf]; omega
  ·have hlt' : ¬ (k : Int) < (N : Int) := by omega
   go_wp2_with fail
   go_ret
   exact ⟨rfl, hx⟩
end Go.Proofs.YthlmgoagnfkhdaaGreat
namespace Go.Gim
def rF (x y : Int × Int) : Prop := (spanI x).1 ≤ (spanI y).1
def rS (x y : Int × Int) : Prop := (spanI x).2 < (spanI y).1
theorem spanI_le (x : Int × Int) : (spanI x).1 ≤ (spanI x).2 := by unfold spanI; simp only; omega
theorem lessS_yes {x y : Int × Int} (h : lessS x y = true) : rF x y := by unfold lessS lessB at h; rw [decide_eq_true_eq] at h; unfold rF; omega
theorem lessS_no {x y : Int × Int} (h : lessS x y = false) : rF y x := by unfold lessS lessB at h; rw [decide_eq_false_iff_not] at h; unfold rF; omega
theorem place_yes {α : Type} (less : α → α → Bool) (x : α) (out : List α) : ∀ (k j : Nat) (y : α), place less x out k ≤ j → j < k → out[j]? = some y → less x y = true := by
 intro k
 induction k with
 | zero => intro j y _ h; omega
 | succ k ih =>
  intro j y h1 h2 h3
  unfold place at h1
  split at h1
  ·rename_i z hz
   split at h1
   ·rename_i hl
    by_cases hjk : j = k
    ·subst hjk; rw [hz] at h3; cases h3; exact hl
    ·exact ih j y h1 (by omega) h3
   ·omega
  ·omega
theorem place_no {α : Type} (less : α → α → Bool) (x : α) (out : List α) : ∀ (k j : Nat) (y : α), place less x out k = j + 1 → k ≤ out.length → out[j]? = some y → less x y = false := by
 intro k
 induction k with
 | zero => intro j y h; cases h
 | succ k ih =>
  intro j y h1 h2 h3
  unfold place at h1
  split at h1
  ·rename_i z hz
   split at h1
   ·exact ih j y h1 (by omega) h3
   ·rename_i hl
    obtain rfl : k = j := by omega
    rw [hz] at h3; cases h3; simpa using hl
  ·rename_i hz
   rw [List.getElem?_eq_getElem (by omega)] at hz; cases hz
theorem insR_rF {out : List (Int × Int)} (h : out.Pairwise rF) (x : Int × Int) : (insR lessS out x).Pairwise rF := by
 have hle := place_le lessS x out out.length
 have h1 := place_yes lessS x out out.length
 have h2 := place_no lessS x out out.length
 unfold insR
 generalize place lessS x out out.length = K at *
 have hsplit : (out.take K ++ out.drop K).Pairwise rF := by rw [List.take_append_drop]; exact h
 rw [List.pairwise_append] at hsplit
 obtain ⟨p1, p2, p3⟩ := hsplit
 have hx1 : ∀ y ∈ out.drop K, rF x y := by
  intro y hy
  obtain ⟨i, hi, rfl⟩ := List.getElem_of_mem hy
  rw [List.length_drop] at hi
  exact lessS_yes (h1 (K + i) _ (by omega) (by omega) (by rw [List.getElem_drop]; exact List.getElem?_eq_getElem (by omega)))
 have hx2 : ∀ y ∈ out.take K, rF y x := by
  intro y hy
  cases K with
  | zero => simp at hy
  | succ j =>
   have hl := lessS_no (h2 j (out[j]'(by omega)) rfl (Nat.le_refl _) (List.getElem?_eq_getElem _))
   rw [List.take_succ_eq_append_getElem (by omega)] at hy p1
   rcases List.mem_append.1 hy with hm | hm
   ·have := (List.pairwise_append.1 p1).2.2 y hm _ (List.mem_singleton.2 rfl)
    unfold rF at *; omega
   ·rw [List.mem_singleton.1 hm]; exact hl
 rw [List.pairwise_append]
 refine ⟨p1, List.pairwise_cons.2 ⟨hx1, p2⟩, ?_⟩
 intro a ha b hb
 rcases List.mem_cons.1 hb with rfl | hb
 ·exact hx2 a ha
 ·exact p3 a ha b hb
theorem sorted_rF (l : List (Int × Int)) : (sorted lessS l).Pairwise rF := by
 have : ∀ (l out : List (Int × Int)), out.Pairwise rF → (l.foldl (insR lessS) out).Pairwise rF := by
  intro l
  induction l with
  | nil => intro out h; exact h
  | cons x r ih => intro out h; exact ih _ (insR_rF h x)
 exact this l [] List.Pairwise.nil
theorem touch_sorted {a s : Int × Int} (h : rF a s) : touchB (spanI a) (spanI s) = decide ((spanI s).1 ≤ (spanI a).2) := by
 have := spanI_le a
 have := spanI_le s
 unfold rF at h
 unfold touchB
 rw [decide_eq_decide]; omega
def inS (x y : Int × Int) : Prop := (spanI y).1 ≤ (spanI x).1 ∧ (spanI x).2 ≤ (spanI y).2
theorem inS_refl (x : Int × Int) : inS x x := ⟨Int.le_refl _, Int.le_refl _⟩
theorem inS_trans {x y z : Int × Int} (h : inS x y) (k : inS y z) : inS x z := by unfold inS at *; omega
theorem fuse_in {a s : Int × Int} (h : rF a s) : inS a (fuse a s) ∧ inS s (fuse a s) := by
 unfold inS rF at *; rw [spanI_fuse]; simp only; omega
theorem mergeS_step {out : List (Int × Int)} {s : Int × Int} (h : out.Pairwise rS) (hs : ∀ y ∈ out, rF y s) :
  (mergeS out s).Pairwise rS ∧ (∀ t, rF s t → (∀ y ∈ out, rF y t) → ∀ y ∈ mergeS out s, rF y t) ∧ (∀ z, z ∈ out ∨ z = s → ∃ y ∈ mergeS out s, inS z y) := by
 unfold mergeS
 cases ho : out.getLast? with
 | none =>
  obtain rfl : out = [] := List.getLast?_eq_none_iff.1 ho
  refine ⟨by simp, fun t ht _ y hy => ?_, fun z hz => ?_⟩
  ·simp at hy; subst hy; exact ht
  ·rcases hz with hz | rfl
   ·cases hz
   ·exact ⟨z, by simp, inS_refl z⟩
 | some a =>
  obtain ⟨l, rfl⟩ := List.getLast?_eq_some_iff.1 ho
  rw [List.pairwise_append] at h
  obtain ⟨p1, _, p3⟩ := h
  have has := hs a (by simp)
  simp only
  by_cases ht : touchB (spanI a) (spanI s) = true
  ·rw [if_pos ht, List.dropLast_concat]
   have hf := fuse_in has
   refine ⟨?_, fun t hst ht2 y hy => ?_, fun z hz => ?_⟩
   ·rw [List.pairwise_append]
    refine ⟨p1, by simp, fun y hy b hb => ?_⟩
    rw [List.mem_singleton.1 hb]
    have := p3 y hy a (by simp)
    unfold rS at *; rw [spanI_fuse]; exact this
   ·rcases List.mem_append.1 hy with hy | hy
    ·exact ht2 y (by simp [hy])
    ·rw [List.mem_singleton.1 hy]
     have := ht2 a (by simp)
     unfold rF at *; rw [spanI_fuse]; exact this
   ·rcases hz with hz | rfl
    ·rcases List.mem_append.1 hz with hz | hz
     ·exact ⟨z, by simp [hz], inS_refl z⟩
     ·rw [List.mem_singleton.1 hz]; exact ⟨_, by simp, hf.1⟩
    ·exact ⟨_, by simp, hf.2⟩
  ·rw [if_neg ht]
   have ht : touchB (spanI a) (spanI s) = false := by simpa using ht
   rw [touch_sorted has, decide_eq_false_iff_not] at ht
   refine ⟨?_, fun t hst ht2 y hy => ?_, fun z hz => ?_⟩
   ·rw [List.pairwise_append]
    refine ⟨List.pairwise_append.2 ⟨p1, by simp, p3⟩, by simp, fun y hy b hb => ?_⟩
    rw [List.mem_singleton.1 hb]
    rcases List.mem_append.1 hy with hy | hy
    ·have := p3 y hy a (by simp)
     have := spanI_le a
     unfold rS rF at *; omega
    ·rw [List.mem_singleton.1 hy]; unfold rS; omega
   ·rcases List.mem_append.1 hy with hy | hy
    ·exact ht2 y hy
    ·rw [List.mem_singleton.1 hy]; exact hst
   ·rcases hz with hz | rfl
    ·exact ⟨z, List.mem_append_left _ hz, inS_refl z⟩
    ·exact ⟨z, by simp, inS_refl z⟩
theorem merged_step : ∀ (l out : List (Int × Int)), l.Pairwise rF → out.Pairwise rS → (∀ y ∈ out, ∀ t ∈ l, rF y t) →
  (l.foldl mergeS out).Pairwise rS ∧ ∀ z, z ∈ out ∨ z ∈ l → ∃ y ∈ l.foldl mergeS out, inS z y := by
 intro l
 induction l with
 | nil => intro out _ ho _; exact ⟨ho, fun z hz => ⟨z, by simpa using hz, inS_refl z⟩⟩
 | cons s r ih =>
  intro out hl ho hx
  rw [List.pairwise_cons] at hl
  obtain ⟨m1, m2, m3⟩ := mergeS_step ho (fun y hy => hx y hy s (by simp))
  obtain ⟨n1, n2⟩ := ih (mergeS out s) hl.2 m1 (fun y hy t ht => m2 t (hl.1 t ht) (fun y hy => hx y hy t (by simp [ht])) y hy)
  refine ⟨n1, fun z hz => ?_⟩
  have h1 : z ∈ r ∨ (z ∈ out ∨ z = s) := by
   rcases hz with h | h
   ·exact .inr (.inl h)
   ·rcases List.mem_cons.1 h with h | h
    ·exact .inr (.inr h)
    ·exact .inl h
  rcases h1 with h | h
  ·exact n2 z (.inr h)
  ·obtain ⟨y, hy, hin⟩ := m3 z h
   obtain ⟨y2, hy2, hin2⟩ := n2 y (.inl hy)
   exact ⟨y2, hy2, inS_trans hin hin2⟩
theorem orderN_rS (l : List (Int × Int)) : (orderN l).Pairwise rS := (merged_step _ [] (sorted_rF l) List.Pairwise.nil (by simp)).1
theorem insR_end {out : List (Int × Int)} {x : Int × Int} (h : ∀ y ∈ out, rS y x) : insR lessS out x = out ++ [x] := by
 have hp : place lessS x out out.length = out.length := by
  cases hn : out.length with
  | zero => rfl
  | succ k =>
   have hk : k < out.length := by omega
   rw [place.eq_2, List.getElem?_eq_getElem hk]
   have hl : lessS x out[k] = false := by
    have h1 := h out[k] (List.getElem_mem hk)
    have := spanI_le out[k]
    unfold rS at h1
    unfold lessS lessB; rw [decide_eq_false_iff_not]; omega
   simp only [hl]; rfl
 unfold insR; rw [hp, List.take_of_length_le (Nat.le_refl _), List.drop_of_length_le (Nat.le_refl _)]
theorem rS_sorted : ∀ (l out : List (Int × Int)), (out ++ l).Pairwise rS → l.foldl (insR lessS) out = out ++ l := by
 intro l
 induction l with
 | nil => intro out _; simp
 | cons x r ih =>
  intro out h
  rw [List.foldl_cons, insR_end (fun y hy => (List.pairwise_append.1 h).2.2 y hy x (by simp)), ih _ (by rw [List.append_assoc]; exact h), List.append_assoc]; rfl
theorem rS_merged : ∀ (l out : List (Int × Int)), (out ++ l).Pairwise rS → l.foldl mergeS out = out ++ l := by
 intro l
 induction l with
 | nil => intro out _; simp
 | cons x r ih =>
  intro out h
  have hm : mergeS out x = out ++ [x] := by
   unfold mergeS
   cases ho : out.getLast? with
   | none => rfl
   | some a =>
    have ha : a ∈ out := List.mem_of_getLast? ho
    have h1 := (List.pairwise_append.1 h).2.2 a ha x (by simp)
    have := spanI_le a
    have := spanI_le x
    unfold rS at h1
    have ht : touchB (spanI a) (spanI x) = false := by unfold touchB; rw [decide_eq_false_iff_not]; omega
    simp only [ht]; rfl
  rw [List.foldl_cons, hm, ih _ (by rw [List.append_assoc]; exact h), List.append_assoc]; rfl
theorem orderN_carets {l : List (Int × Int)} (h : ∀ x ∈ l, x.1 = x.2) : ∀ x ∈ orderN l, x.1 = x.2 := by
 have : ∀ (l out : List (Int × Int)), (∀ x ∈ out, x.1 = x.2) → (∀ x ∈ l, x.1 = x.2) → ∀ x ∈ l.foldl mergeS out, x.1 = x.2 := by
  intro l
  induction l with
  | nil => intro out ho _; exact ho
  | cons s r ih =>
   intro out ho hl
   refine ih (mergeS out s) ?_ (fun x hx => hl x (by simp [hx]))
   have hs := hl s (by simp)
   unfold mergeS
   cases hg : out.getLast? with
   | none =>
    intro x hx
    rcases List.mem_append.1 hx with hx | hx
    ·exact ho x hx
    ·rw [List.mem_singleton.1 hx]; exact hs
   | some a =>
    obtain ⟨t, rfl⟩ := List.getLast?_eq_some_iff.1 hg
    have ha := ho a (by simp)
    simp only
    split
    ·rename_i ht
     unfold touchB at ht
     rw [decide_eq_true_eq] at ht
     intro x hx
     rw [List.dropLast_concat] at hx
     rcases List.mem_append.1 hx with hx | hx
     ·exact ho x (by simp [hx])
     ·rw [List.mem_singleton.1 hx]
      unfold fuse
      unfold spanI at *
      simp only at ht
      split <;> simp only <;> omega
    ·intro x hx
     rcases List.mem_append.1 hx with hx | hx
     ·exact ho x hx
     ·rw [List.mem_singleton.1 hx]; exact hs
 exact this _ [] (by simp) (fun x hx => h x ((sorted_mem lessS l x).1 hx))
end Go.Gim

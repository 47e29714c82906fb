/- Norm of however many selections: what it answers of them. Conditions: at most 70 selections. -/
import Derived.Test.YthlmgoagnfkhdaaGreatGimXSheetRefuses
import Derived.Test.YthlmgoagnfkhdaaGreatGimSortW7
import Derived.Test.YthlmgoagnfkhdaaGreatGimF31
set_option maxHeartbeats 6400000
set_option maxRecDepth 1000000
set_option linter.unusedVariables false
set_option linter.unusedSimpArgs false
namespace Go.Proofs.YthlmgoagnfkhdaaGreat
open Go.RowKit Go.Gim
theorem orderW_any (b off cap : Nat) (l : List (Int × Int)) (w : World) (hr : Reads w 2 (some ⟨b, off, none⟩) l.length (prCells l)) (h0 : 0 < l.length) (hn : l.length ≤ 70) :
  Calls Tryz.prog 59 #[.slice (some ⟨b, off, none⟩) l.length cap] w fun e w' => ∃ Q, NewRow 47 Q w e w' := by
 have Hc := Lib.hid (cloneSel_any b off cap l w hr h0 (by omega))
 have Hs := Lib.hid (fun g c v (hv : Row2 v g 47 l) => sortW_any g c l.length v ⟨l, rfl, hv⟩ (by omega))
 unfold KeptW at Hs
 obtain ⟨N, hN⟩ : ∃ N, N = l.length := ⟨_, rfl⟩
 unfold NewRow at Hc
 rw [← hN] at h0 hn Hc Hs ⊢
 clear hr hN
 go_enter Tryz.func59, Tryz.ntmps59
 go_wp2_with fail
 refine Hc.out.mono ?_
 rintro e w1 ⟨g, c1, rfl, ho, hx⟩
 have hrow := row2_owns (n := N) ho
 have Hg := Lib.hid (owns_block (n := N) ho)
 clear ho
 go_wp2_with fail
 refine (Hs.out g c1 w1 hrow).mono ?_
 rintro e w2 ⟨rfl, ⟨S, hSl, hrow2⟩, hm2⟩
 have Hsl := Lib.hid hSl
 clear hSl
 have hx2 : Ext w w2 := hx.trans hm2 (fun i hi e => by have := Hg.out; omega)
 have Hr2 := Lib.hid hrow2
 have Hg2 := Lib.hid hrow2.lt
 clear hrow hrow2 hm2 Hs Hc
 go_wp2_with fail
 go_loopw [4, 16] (fun v i wr => ∃ (k : Nat) (out : List (Int × Int)), k ≤ N ∧ i = .int .i64 k ∧ out.length ≤ k ∧ Hid (wr.ownsRow w2.heap.size 47 2 v out.length (prCells out) ∧ out = merged (S.take k)) ∧ Ext w2 wr) (fun _ i _ => N - (intOf i).toNat)
 case atStart => exact ⟨0, [], by omega, rfl, by simp, Lib.hid ⟨World.ownsRow_nil _ _ _ _, rfl⟩, Mod.refl _ _⟩
 case round =>
  obtain ⟨k, out, hk, rfl, hok, HO, hxr⟩ := hrel
  by_cases hlt : k < N
  ·have hlt' : (k : Int) < (N : Int) := by omega
   have hk0 : (0 : Int) ≤ (k : Int) := by omega
   have hSk : S[k]? = some (S[k]'(by rw [Hsl.out]; exact hlt)) := List.getElem?_eq_getElem _
   have HM := Lib.hid (merged_snoc S k _ hSk)
   obtain ⟨c0, c1'⟩ := (Hr2.out.mod hxr (fun f => f)).cell hSk
   generalize S[k]'(by rw [Hsl.out]; exact hlt) = x at *
   have hgl := hxr.lt Hg2.out
   clear hSk
   have hl1 : maxLen = 9223372036854775807 := rfl
   have hxa : Ext w2 (wr.alloc (.cells #[.int .i64 x.1, .int .i64 x.2] 47)) := hxr.alloc _
   cases hout : out.length with
   | zero =>
    have hon := HO.out.1
    rw [hout] at hon
    obtain ⟨va, vc, rfl⟩ := owns_nil hon
    have Hon := Lib.hid hon
    have Hme := Lib.hid (show merged (S.take (k + 1)) = out ++ [x] by rw [HM.out, ← HO.out.2, List.eq_nil_of_length_eq_zero hout]; rfl)
    have Hout := Lib.hid hout
    clear hon hout hok
    go_wp2_with fail
    go_quiet (fail)
    have hxm : Ext wr ((wr.alloc (.cells #[.int .i64 x.1, .int .i64 x.2] 47)).drewN nq) := ((Mod.refl _ wr).alloc _).drewN nq
    have hxf : Ext w2 ((wr.alloc (.cells #[.int .i64 x.1, .int .i64 x.2] 47)).drewN nq) := hxa.drewN nq
    have Hom := Lib.hid (ownsRow_mod Hon.out hxm (fun _ _ f => f))
    clear hxm
    go_wp2_with (at_builtin; refine wpList_append_reads rfl _ _ 32 rfl w2.heap.size 47 _ 2 16 Tryz.info47 Tryz.underlying32 rfl (by decide) _ (0) (prCells out) rfl (Hom.out.alloc _) _ 1 1 [.int .i64 x.1, .int .i64 x.2] rfl ?hrd (two_cells x.1 x.2) (by omega) (by omega) ?hbs ?_)
    case hrd =>
     have := Reads.new ((wr.alloc (.cells #[.int .i64 x.1, .int .i64 x.2] 47)).drewN nq) 47 #[.int .i64 x.1, .int .i64 x.2] 2 1 rfl
     simpa using this
    case hbs => have := hxf.size; simp at this ⊢; omega
    intro v' w4 hown hm4 hbk
    have hx4 := (hxf.alloc _).over hm4 (fun i hi => (Hom.out.lt i hi).1)
    have Hown := Lib.hid hown
    clear hm4 hbk hown hxf
    go_wp2_with fail
    go_roundw
    case rel => exact ⟨k + 1, out ++ [x], by omega, by go_num, by have := Hout.out; simp; omega, Lib.hid ⟨by rw [prCells_append, List.length_append, Hout.out]; exact Hown.out, Hme.out.symm⟩, hx4⟩
    case measure => simp [intOf]; omega
   | succ m =>
    have hon := HO.out.1
    rw [hout] at hon
    obtain ⟨go, co, rfl⟩ := owns_some hon (by omega)
    have hma : m < out.length := by omega
    have Hla := Lib.hid (show out.getLast? = some out[m] by rw [List.getLast?_eq_getElem?, hout, Nat.add_sub_cancel]; exact List.getElem?_eq_getElem hma)
    obtain ⟨d0, d1⟩ := owns_cell hon (List.getElem?_eq_getElem hma)
    obtain ⟨hgo1, hgo2⟩ := owns_block hon
    generalize out[m] = a at *
    have Hon := Lib.hid hon
    have Hout := Lib.hid hout
    have e1 : decide ((m : Int) < 0) = false := decide_eq_false (by omega)
    have e2 : (m : Int) ≤ 70 := by omega
    have e3 : (0 : Int) ≤ (m : Int) := by omega
    have e4 : (m : Int) < (m : Int) + 1 := by omega
    clear hon hma
    cases hT : touchB (spanI a) (spanI x) with
    | false =>
     have Hme := Lib.hid (show merged (S.take (k + 1)) = out ++ [x] by rw [HM.out, ← HO.out.2, mergeS_no Hla.out hT])
     clear hout
     go_wp2_with fail
     refine wp_region_ext_lit (by kernel_rfl) (by kernel_rfl) ?_
     repeat (go_big_quiet_step (first | (with_reducible exact Calls.ext_of (span_any _ _)) | (with_reducible exact Calls.ext_of (touch_any _ _ _))))
     refine wpQuiet_nil ?_
     intro we hxe
     have hbx := (Blk.new wr 47 #[.int .i64 x.1, .int .i64 x.2]).mod hxe (fun f => f)
     have q0 : we.cell? ⟨wr.heap.size, 0, none⟩ = some (.int .i64 x.1) := hbx.cell 0
     have q1 : we.cell? ⟨wr.heap.size, 1, none⟩ = some (.int .i64 x.2) := hbx.cell 1
     clear hbx d0 d1 hT e1
     have hxm : Ext wr we := ((Mod.refl _ wr).alloc _).ext_trans hxe
     have hxf : Ext w2 we := hxa.ext_trans hxe
     have Hom := Lib.hid (ownsRow_mod Hon.out hxm (fun _ _ f => f))
     clear hxm
     go_wp2_with (at_builtin; refine wpList_append_reads rfl _ _ 32 rfl w2.heap.size 47 _ 2 16 Tryz.info47 Tryz.underlying32 rfl (by decide) _ ((m + 1)) (prCells out) rfl (Hom.out.alloc _) _ 1 1 [.int .i64 x.1, .int .i64 x.2] rfl ?hrd (two_cells x.1 x.2) (by omega) (by omega) ?hbs ?_)
     case hrd =>
      have := Reads.new we 47 #[.int .i64 x.1, .int .i64 x.2] 2 1 rfl
      simpa using this
     case hbs => have := hxf.size; simp at this ⊢; omega
     intro v' w4 hown hm4 hbk
     have hx4 := (hxf.alloc _).over hm4 (fun i hi => (Hom.out.lt i hi).1)
     have Hown := Lib.hid hown
     clear hm4 hbk hown hxf
     go_wp2_with fail
     go_roundw
     case rel => exact ⟨k + 1, out ++ [x], by omega, by go_num, by have := Hout.out; simp; omega, Lib.hid ⟨by rw [prCells_append, List.length_append, Hout.out]; exact Hown.out, Hme.out.symm⟩, hx4⟩
     case measure => simp [intOf]; omega
    | true =>
     have Hme := Lib.hid (show merged (S.take (k + 1)) = out.set m (fuse a x) by rw [HM.out, ← HO.out.2, mergeS_yes Hla.out hT, Hout.out, Nat.add_sub_cancel])
     clear hout
     unfold fuse at Hme
     by_cases hmx : (spanI x).2 ≤ (spanI a).2
     ·have hmax : max (spanI a).2 (spanI x).2 = (spanI a).2 := by omega
      rw [hmax] at Hme
      have hmx2 : ¬ (spanI a).2 < (spanI x).2 := by omega
      by_cases had : a.2 < a.1
      ·rw [if_pos had] at Hme
       have had2 : decide (a.2 < a.1) = true := decide_eq_true had
       go_wp2_with fail
       refine wp_region_ext_lit (by kernel_rfl) (by kernel_rfl) ?_
       repeat (go_big_quiet_step (first | (with_reducible exact Calls.ext_of (span_any _ _)) | (with_reducible exact Calls.ext_of (touch_any _ _ _))))
       refine wpQuiet_nil ?_
       intro we hxe
       have hbx := (Blk.new wr 47 #[.int .i64 x.1, .int .i64 x.2]).mod hxe (fun f => f)
       have q0 : we.cell? ⟨wr.heap.size, 0, none⟩ = some (.int .i64 x.1) := hbx.cell 0
       have q1 : we.cell? ⟨wr.heap.size, 1, none⟩ = some (.int .i64 x.2) := hbx.cell 1
       have qlt := hbx.lt
       clear hbx d0 d1 hT e1
       have Hon2 := Lib.hid (ownsRow_mod (ownsRow_mod Hon.out (show Ext wr (wr.alloc (.cells #[.int .i64 x.1, .int .i64 x.2] 47)) from (Mod.refl _ wr).alloc _) (fun _ _ f => f)) hxe (fun _ _ f => f))
       obtain ⟨d0, d1⟩ := owns_cell Hon2.out (k := m) (x := a) (by rw [List.getLast?_eq_getElem?, Hout.out, Nat.add_sub_cancel] at Hla; exact Hla.out)
       have hgo3 := (owns_block Hon2.out).2
       go_wp2_with fail
       have f1 := fun v => fld0 (spanI a).1 (spanI a).2 v
       have f2 := fun v => fld1 (spanI a).1 (spanI a).2 v
       have f3 := fun v => fld1 (spanI x).1 (spanI x).2 v
       refine wp_region_ext_lit (by kernel_rfl) (by kernel_rfl) ?_
       repeat (go_big_quiet_step (exact Calls.ext_of (span_any _ _)))
       refine wpQuiet_nil ?_
       intro wf hxg
       have Hon3 := Lib.hid (ownsRow_mod Hon2.out hxg (fun _ _ f => f))
       have hlx := hxg.lt hgo3
       clear q0 q1 qlt f1 f2 f3 d0 d1 Hon2 hgo3
       obtain ⟨d0, d1⟩ := owns_cell Hon3.out (k := m) (x := a) (by rw [List.getLast?_eq_getElem?, Hout.out, Nat.add_sub_cancel] at Hla; exact Hla.out)
       have g0 := owns_free Hon3.out (m * 2)
       have g1 := owns_free Hon3.out (m * 2 + 1)
       have hgo3 := (owns_block Hon3.out).2
       go_wp2_with fail
       go_quiet (fail)
       go_wp2_with fail
       go_roundw
       case rel =>
        try simp only [hmax]
        have hs := owns_set (ownsRow_mod Hon3.out ((Mod.refl (fun _ => False) wf).drewN nq) (fun _ _ f => f)) m (by omega) ((spanI a).2, (spanI a).1)
        exact ⟨k + 1, out.set m ((spanI a).2, (spanI a).1), by omega, by go_num, by rw [List.length_set]; omega, Lib.hid ⟨by rw [List.length_set, Hout.out]; exact hs, Hme.out.symm⟩, ((((hxa.ext_trans hxe).ext_trans hxg).drewN nq).setCell (p := ⟨go, m * 2, none⟩) (fun h => absurd h (Nat.not_lt.2 hgo1)) _).setCell (p := ⟨go, m * 2 + 1, none⟩) (fun h => absurd h (Nat.not_lt.2 hgo1)) _⟩
       case measure => simp [intOf]; omega
      ·rw [if_neg had] at Hme
       have had2 : decide (a.2 < a.1) = false := decide_eq_false had
       go_wp2_with fail
       refine wp_region_ext_lit (by kernel_rfl) (by kernel_rfl) ?_
       repeat (go_big_quiet_step (first | (with_reducible exact Calls.ext_of (span_any _ _)) | (with_reducible exact Calls.ext_of (touch_any _ _ _))))
       refine wpQuiet_nil ?_
       intro we hxe
       have hbx := (Blk.new wr 47 #[.int .i64 x.1, .int .i64 x.2]).mod hxe (fun f => f)
       have q0 : we.cell? ⟨wr.heap.size, 0, none⟩ = some (.int .i64 x.1) := hbx.cell 0
       have q1 : we.cell? ⟨wr.heap.size, 1, none⟩ = some (.int .i64 x.2) := hbx.cell 1
       have qlt := hbx.lt
       clear hbx d0 d1 hT e1
       have Hon2 := Lib.hid (ownsRow_mod (ownsRow_mod Hon.out (show Ext wr (wr.alloc (.cells #[.int .i64 x.1, .int .i64 x.2] 47)) from (Mod.refl _ wr).alloc _) (fun _ _ f => f)) hxe (fun _ _ f => f))
       obtain ⟨d0, d1⟩ := owns_cell Hon2.out (k := m) (x := a) (by rw [List.getLast?_eq_getElem?, Hout.out, Nat.add_sub_cancel] at Hla; exact Hla.out)
       have hgo3 := (owns_block Hon2.out).2
       go_wp2_with fail
       have f1 := fun v => fld0 (spanI a).1 (spanI a).2 v
       have f2 := fun v => fld1 (spanI a).1 (spanI a).2 v
       have f3 := fun v => fld1 (spanI x).1 (spanI x).2 v
       refine wp_region_ext_lit (by kernel_rfl) (by kernel_rfl) ?_
       repeat (go_big_quiet_step (exact Calls.ext_of (span_any _ _)))
       refine wpQuiet_nil ?_
       intro wf hxg
       have Hon3 := Lib.hid (ownsRow_mod Hon2.out hxg (fun _ _ f => f))
       have hlx := hxg.lt hgo3
       clear q0 q1 qlt f1 f2 f3 d0 d1 Hon2 hgo3
       obtain ⟨d0, d1⟩ := owns_cell Hon3.out (k := m) (x := a) (by rw [List.getLast?_eq_getElem?, Hout.out, Nat.add_sub_cancel] at Hla; exact Hla.out)
       have g0 := owns_free Hon3.out (m * 2)
       have g1 := owns_free Hon3.out (m * 2 + 1)
       have hgo3 := (owns_block Hon3.out).2
       go_wp2_with fail
       go_quiet (fail)
       go_wp2_with fail
       go_roundw
       case rel =>
        try simp only [hmax]
        have hs := owns_set (ownsRow_mod Hon3.out ((Mod.refl (fun _ => False) wf).drewN nq) (fun _ _ f => f)) m (by omega) ((spanI a).1, (spanI a).2)
        exact ⟨k + 1, out.set m ((spanI a).1, (spanI a).2), by omega, by go_num, by rw [List.length_set]; omega, Lib.hid ⟨by rw [List.length_set, Hout.out]; exact hs, Hme.out.symm⟩, ((((hxa.ext_trans hxe).ext_trans hxg).drewN nq).setCell (p := ⟨go, m * 2, none⟩) (fun h => absurd h (Nat.not_lt.2 hgo1)) _).setCell (p := ⟨go, m * 2 + 1, none⟩) (fun h => absurd h (Nat.not_lt.2 hgo1)) _⟩
       case measure => simp [intOf]; omega
     ·have hmax : max (spanI a).2 (spanI x).2 = (spanI x).2 := by omega
      rw [hmax] at Hme
      have hmx2 : (spanI a).2 < (spanI x).2 := by omega
      by_cases had : a.2 < a.1
      ·rw [if_pos had] at Hme
       have had2 : decide (a.2 < a.1) = true := decide_eq_true had
       go_wp2_with fail
       refine wp_region_ext_lit (by kernel_rfl) (by kernel_rfl) ?_
       repeat (go_big_quiet_step (first | (with_reducible exact Calls.ext_of (span_any _ _)) | (with_reducible exact Calls.ext_of (touch_any _ _ _))))
       refine wpQuiet_nil ?_
       intro we hxe
       have hbx := (Blk.new wr 47 #[.int .i64 x.1, .int .i64 x.2]).mod hxe (fun f => f)
       have q0 : we.cell? ⟨wr.heap.size, 0, none⟩ = some (.int .i64 x.1) := hbx.cell 0
       have q1 : we.cell? ⟨wr.heap.size, 1, none⟩ = some (.int .i64 x.2) := hbx.cell 1
       have qlt := hbx.lt
       clear hbx d0 d1 hT e1
       have Hon2 := Lib.hid (ownsRow_mod (ownsRow_mod Hon.out (show Ext wr (wr.alloc (.cells #[.int .i64 x.1, .int .i64 x.2] 47)) from (Mod.refl _ wr).alloc _) (fun _ _ f => f)) hxe (fun _ _ f => f))
       obtain ⟨d0, d1⟩ := owns_cell Hon2.out (k := m) (x := a) (by rw [List.getLast?_eq_getElem?, Hout.out, Nat.add_sub_cancel] at Hla; exact Hla.out)
       have hgo3 := (owns_block Hon2.out).2
       go_wp2_with fail
       have f1 := fun v => fld0 (spanI a).1 (spanI a).2 v
       have f2 := fun v => fld1 (spanI a).1 (spanI a).2 v
       have f3 := fun v => fld1 (spanI x).1 (spanI x).2 v
       refine wp_region_ext_lit (by kernel_rfl) (by kernel_rfl) ?_
       repeat (go_big_quiet_step (exact Calls.ext_of (span_any _ _)))
       refine wpQuiet_nil ?_
       intro wf hxg
       have Hon3 := Lib.hid (ownsRow_mod Hon2.out hxg (fun _ _ f => f))
       have hlx := hxg.lt hgo3
       clear q0 q1 qlt f1 f2 f3 d0 d1 Hon2 hgo3
       obtain ⟨d0, d1⟩ := owns_cell Hon3.out (k := m) (x := a) (by rw [List.getLast?_eq_getElem?, Hout.out, Nat.add_sub_cancel] at Hla; exact Hla.out)
       have g0 := owns_free Hon3.out (m * 2)
       have g1 := owns_free Hon3.out (m * 2 + 1)
       have hgo3 := (owns_block Hon3.out).2
       go_wp2_with fail
       go_quiet (fail)
       go_wp2_with fail
       go_roundw
       case rel =>
        try simp only [hmax]
        have hs := owns_set (ownsRow_mod Hon3.out ((Mod.refl (fun _ => False) wf).drewN nq) (fun _ _ f => f)) m (by omega) ((spanI x).2, (spanI a).1)
        exact ⟨k + 1, out.set m ((spanI x).2, (spanI a).1), by omega, by go_num, by rw [List.length_set]; omega, Lib.hid ⟨by rw [List.length_set, Hout.out]; exact hs, Hme.out.symm⟩, ((((hxa.ext_trans hxe).ext_trans hxg).drewN nq).setCell (p := ⟨go, m * 2, none⟩) (fun h => absurd h (Nat.not_lt.2 hgo1)) _).setCell (p := ⟨go, m * 2 + 1, none⟩) (fun h => absurd h (Nat.not_lt.2 hgo1)) _⟩
       case measure => simp [intOf]; omega
      ·rw [if_neg had] at Hme
       have had2 : decide (a.2 < a.1) = false := decide_eq_false had
       go_wp2_with fail
       refine wp_region_ext_lit (by kernel_rfl) (by kernel_rfl) ?_
       repeat (go_big_quiet_step (first | (with_reducible exact Calls.ext_of (span_any _ _)) | (with_reducible exact Calls.ext_of (touch_any _ _ _))))
       refine wpQuiet_nil ?_
       intro we hxe
       have hbx := (Blk.new wr 47 #[.int .i64 x.1, .int .i64 x.2]).mod hxe (fun f => f)
       have q0 : we.cell? ⟨wr.heap.size, 0, none⟩ = some (.int .i64 x.1) := hbx.cell 0
       have q1 : we.cell? ⟨wr.heap.size, 1, none⟩ = some (.int .i64 x.2) := hbx.cell 1
       have qlt := hbx.lt
       clear hbx d0 d1 hT e1
       have Hon2 := Lib.hid (ownsRow_mod (ownsRow_mod Hon.out (show Ext wr (wr.alloc (.cells #[.int .i64 x.1, .int .i64 x.2] 47)) from (Mod.refl _ wr).alloc _) (fun _ _ f => f)) hxe (fun _ _ f => f))
       obtain ⟨d0, d1⟩ := owns_cell Hon2.out (k := m) (x := a) (by rw [List.getLast?_eq_getElem?, Hout.out, Nat.add_sub_cancel] at Hla; exact Hla.out)
       have hgo3 := (owns_block Hon2.out).2
       go_wp2_with fail
       have f1 := fun v => fld0 (spanI a).1 (spanI a).2 v
       have f2 := fun v => fld1 (spanI a).1 (spanI a).2 v
       have f3 := fun v => fld1 (spanI x).1 (spanI x).2 v
       refine wp_region_ext_lit (by kernel_rfl) (by kernel_rfl) ?_
       repeat (go_big_quiet_step (exact Calls.ext_of (span_any _ _)))
       refine wpQuiet_nil ?_
       intro wf hxg
       have Hon3 := Lib.hid (ownsRow_mod Hon2.out hxg (fun _ _ f => f))
       have hlx := hxg.lt hgo3
       clear q0 q1 qlt f1 f2 f3 d0 d1 Hon2 hgo3
       obtain ⟨d0, d1⟩ := owns_cell Hon3.out (k := m) (x := a) (by rw [List.getLast?_eq_getElem?, Hout.out, Nat.add_sub_cancel] at Hla; exact Hla.out)
       have g0 := owns_free Hon3.out (m * 2)
       have g1 := owns_free Hon3.out (m * 2 + 1)
       have hgo3 := (owns_block Hon3.out).2
       go_wp2_with fail
       go_quiet (fail)
       go_wp2_with fail
       go_roundw
       case rel =>
        try simp only [hmax]
        have hs := owns_set (ownsRow_mod Hon3.out ((Mod.refl (fun _ => False) wf).drewN nq) (fun _ _ f => f)) m (by omega) ((spanI a).1, (spanI x).2)
        exact ⟨k + 1, out.set m ((spanI a).1, (spanI x).2), by omega, by go_num, by rw [List.length_set]; omega, Lib.hid ⟨by rw [List.length_set, Hout.out]; exact hs, Hme.out.symm⟩, ((((hxa.ext_trans hxe).ext_trans hxg).drewN nq).setCell (p := ⟨go, m * 2, none⟩) (fun h => absurd h (Nat.not_lt.2 hgo1)) _).setCell (p := ⟨go, m * 2 + 1, none⟩) (fun h => absurd h (Nat.not_lt.2 hgo1)) _⟩
       case measure => simp [intOf]; omega
  ·have hlt' : ¬ (k : Int) < (N : Int) := by omega
   obtain rfl : k = N := by omega
   have HO2 := HO.out
   rw [List.take_of_length_le (by rw [Hsl.out]; exact Nat.le_refl _)] at HO2
   obtain ⟨ho1, rfl⟩ := HO2
   have hpos : 0 < (merged S).length := by
    have hlast : S[k - 1]? = some (S[k - 1]'(by rw [Hsl.out]; omega)) := List.getElem?_eq_getElem _
    have := merged_snoc S (k - 1) _ hlast
    rw [List.take_of_length_le (by rw [Hsl.out]; omega)] at this
    rw [this]; exact mergeS_pos _ _
   obtain ⟨go, co, rfl⟩ := owns_some ho1 hpos
   have HO3 := Lib.hid (ownsRow_base ho1 hx2.size)
   clear ho1 HO
   go_wp2_with fail
   go_ret
   exact ⟨_, go, co, rfl, HO3.out, hx2.ext_trans hxr⟩
theorem normW_in (n : Int) (b off cap : Nat) (l : List (Int × Int)) (w : World) (hr : Reads w 2 (some ⟨b, off, none⟩) l.length (prCells l)) (h0 : 0 < l.length) (hn : l.length ≤ 64) :
  Calls Tryz.prog 30 #[.int .i64 n, .slice (some ⟨b, off, none⟩) l.length cap] w fun e w' => ∃ v, e = .returned (.tuple #[v, .int .i64 (normE n l)]) ∧ Ext w w' := by
 have He := Lib.hid (normE_in (n := n) h0 (by omega))
 have Hr := Lib.hid hr
 have Ho := Lib.hid (fun v hv => orderW_any b off cap l v hv h0 (by omega))
 have Hll := Lib.hid (show (0 : Nat) < l.length from h0)
 obtain ⟨N, hN⟩ : ∃ N, N = l.length := ⟨_, rfl⟩
 have HN := Lib.hid hN
 rw [← hN] at h0 hn ⊢
 have j1 : ¬ (N : Int) = 0 := by omega
 have j2 : ¬ 64 < (N : Int) := by omega
 have j3 : ¬ 64 < N := by omega
 have j4 : ¬ N = 0 := by omega
 clear hr hN
 go_enter Tryz.func30, Tryz.ntmps30
 go_wp2_with fail
 go_loopw [16] (fun i wr => ∃ k : Nat, k ≤ N ∧ i = .int .i64 k ∧ Hid (∀ x ∈ l.take k, mayB (spanI x) n = true) ∧ Ext w wr) (fun i _ => N - (intOf i).toNat)
 case atStart => exact ⟨0, by omega, rfl, Lib.hid (by simp), Mod.refl _ _⟩
 case round =>
  obtain ⟨k, hk, rfl, HA, hx⟩ := hrel
  by_cases hlt : k < N
  ·have hlt' : (k : Int) < (N : Int) := by omega
   have hk0 : (0 : Int) ≤ (k : Int) := by omega
   have hlk : k < l.length := by rw [← HN.out]; exact hlt
   obtain ⟨c0, c1⟩ := reads_pair (Hr.out.mod hx (fun _ _ f => f)) (List.getElem?_eq_getElem hlk)
   have hts := List.take_succ_eq_append_getElem hlk
   have Hmem := Lib.hid (List.getElem_mem hlk)
   generalize l[k] = x at *
   have Hts := Lib.hid hts
   have hbl := World.block_lt_of_cell? _ _ c0
   clear hts hlk
   go_wp2_with fail
   refine (span_any x _).mono ?_
   rintro e w1 ⟨rfl, y1⟩
   go_wp2_with fail
   refine (spanMay_any (spanI x) n _).mono ?_
   rintro e w2 ⟨rfl, y2⟩
   have hx2 := ((hx.alloc (.cells #[.int .i64 x.1, .int .i64 x.2] 47)).ext_trans y1).ext_trans y2
   cases hm : mayB (spanI x) n with
   | true =>
    have Hm := Lib.hid hm
    clear y1 y2 c0 c1 hm
    go_wp2_with fail
    go_roundw
    case rel => exact ⟨k + 1, by omega, by go_num, Lib.hid (by rw [Hts.out]; intro y hy; rcases List.mem_append.1 hy with h | h; exact HA.out y h; rw [List.mem_singleton.1 h]; exact Hm.out), hx2⟩
    case measure => simp [intOf]; omega
   | false =>
    have Hm := Lib.hid hm
    have HE := Lib.hid (show normE n l = 3 by
     rw [He.out, if_neg]
     intro hall
     have := List.all_eq_true.1 hall x Hmem.out
     rw [Hm.out] at this; cases this)
    clear y1 y2 c0 c1 hm
    go_wp2_with fail
    go_ret2
    exact ⟨_, by rw [HE.out]; rfl, hx2⟩
  ·have hlt' : ¬ (k : Int) < (N : Int) := by omega
   obtain rfl : k = N := by omega
   have HE := Lib.hid (show normE n l = 0 by
    have h1 := HA.out
    rw [HN.out, List.take_of_length_le (Nat.le_refl _)] at h1
    rw [He.out, if_pos (List.all_eq_true.2 h1)])
   have ho := Ho.out _ (Hr.out.mod hx (fun _ _ f => f))
   rw [← HN.out] at ho
   have Ho2 := Lib.hid ho
   clear ho Ho
   go_wp2_with fail
   refine Ho2.out.mono ?_
   rintro e w3 ⟨Q, g, c, rfl, hown, y3⟩
   clear hown
   go_wp2_with fail
   go_ret2
   exact ⟨_, by rw [HE.out]; rfl, hx.ext_trans y3⟩
theorem normW_full (n : Int) (ao : Option Addr) (cap N : Nat) (w : World) (hn : 64 < N) :
  Calls Tryz.prog 30 #[.int .i64 n, .slice ao N cap] w fun e w' => e = .returned (.tuple #[.slice none 0 0, .int .i64 7]) ∧ Ext w w' := by
 have j1 : ¬ (N : Int) = 0 := by omega
 have j2 : (64 : Int) < (N : Int) := by omega
 have j3 : 64 < N := hn
 have j4 : ¬ N = 0 := by omega
 have j5 : ((N : Int) == 0) = false := by simp; omega
 have j6 : decide ((64 : Int) < (N : Int)) = true := decide_eq_true j2
 clear hn
 go_enter Tryz.func30, Tryz.ntmps30
 go_wp2_with fail
 go_ret2
 exact ⟨rfl, Mod.refl _ _⟩
theorem normW_any (n : Int) (ao : Option Addr) (cap : Nat) (l : List (Int × Int)) (w : World) (hr : Reads w 2 ao l.length (prCells l)) (hn : l.length ≤ 70) :
  Calls Tryz.prog 30 #[.int .i64 n, .slice ao l.length cap] w fun e w' => ∃ v, e = .returned (.tuple #[v, .int .i64 (normE n l)]) ∧ Ext w w' := by
 by_cases h0 : 0 < l.length
 ·by_cases h1 : l.length ≤ 64
  ·obtain ⟨b, off, rfl⟩ := hr.some h0
   exact normW_in n b off cap l w hr h0 h1
  ·refine (normW_full n ao cap l.length w (by omega)).mono ?_
   rintro e w' ⟨rfl, hx⟩
   exact ⟨_, by unfold normE; rw [if_neg (by omega), if_pos (by omega)], hx⟩
 ·obtain rfl : l = [] := List.length_eq_zero_iff.1 (by omega)
  refine (norm_nil n ao cap w).mono ?_
  rintro e w' ⟨v, rfl, _, hx⟩
  exact ⟨_, rfl, hx⟩
end Go.Proofs.YthlmgoagnfkhdaaGreat

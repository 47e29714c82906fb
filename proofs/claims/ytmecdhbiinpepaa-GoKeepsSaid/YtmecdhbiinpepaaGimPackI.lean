/- Selections in order: those that touch put together; Norm. Conditions: less than 20 selections. -/
import Derived.Test.YtmecdhbiinpepaaGimPackH
import Derived.Test.YtmecdhbiinpepaaGimPackC
namespace Go.Gim
theorem mergeS_nil (s : Int × Int) : mergeS [] s = [s] := rfl
theorem mergeS_no {out : List (Int × Int)} {a s : Int × Int} (ha : out.getLast? = some a) (h : touchB (spanI a) (spanI s) = false) : mergeS out s = out ++ [s] := by
  unfold mergeS; rw [ha]; simp only [h]; rfl
theorem mergeS_yes {out : List (Int × Int)} {a s : Int × Int} (ha : out.getLast? = some a) (h : touchB (spanI a) (spanI s) = true) : mergeS out s = out.set (out.length - 1) (fuse a s) := by
  unfold mergeS; rw [ha]; simp only [h, if_true]
  obtain ⟨l, rfl⟩ := List.getLast?_eq_some_iff.1 ha
  rw [List.dropLast_concat, List.length_append, List.length_singleton, Nat.add_sub_cancel, List.set_append_right _ _ (Nat.le_refl _), Nat.sub_self]; rfl
theorem mergeS_pos (out : List (Int × Int)) (s : Int × Int) : 0 < (mergeS out s).length := by
  unfold mergeS
  split
  · split <;> simp
  · simp
theorem merged_snoc (l : List (Int × Int)) (k : Nat) (s : Int × Int) (h : l[k]? = some s) : merged (l.take (k + 1)) = mergeS (merged (l.take k)) s := by
  obtain ⟨hk, rfl⟩ := List.getElem?_eq_some_iff.1 h
  unfold merged
  rw [List.take_succ_eq_append_getElem hk, List.foldl_append]; rfl
theorem mergeS_len (out : List (Int × Int)) (s : Int × Int) : (mergeS out s).length ≤ out.length + 1 := by
  unfold mergeS
  split
  · split
    · simp
    · simp
  · simp
theorem merged_len (l : List (Int × Int)) : (merged l).length ≤ l.length := by
  have : ∀ (l out : List (Int × Int)), (l.foldl mergeS out).length ≤ out.length + l.length := by
    intro l
    induction l with
    | nil => intro out; simp
    | cons x r ih => intro out; rw [List.foldl_cons]; have := ih (mergeS out x); have := mergeS_len out x; simp only [List.length_cons]; omega
  have := this l []
  simpa [merged] using this
theorem orderN_len (l : List (Int × Int)) : (orderN l).length ≤ l.length := by
  have := merged_len (sorted lessS l); rw [sorted_length] at this; exact this
end Go.Gim
namespace Go.Proofs.Ytmecdhbiinpepaa
open Go.RowKit Go.Gim

theorem fld0 (p q : Int) (v : World) : (Instr.field 82 (.agg #[.int .i64 p, .int .i64 q]) 0).run Try.prog v = .ok (.int .i64 p) v := by kernel_rfl
theorem fld1 (p q : Int) (v : World) : (Instr.field 82 (.agg #[.int .i64 p, .int .i64 q]) 1).run Try.prog v = .ok (.int .i64 q) v := by kernel_rfl

set_option maxHeartbeats 3200000 in
set_option maxRecDepth 1000000 in
theorem orderSel_any (b off cap : Nat) (l : List (Int × Int)) (w : World) (hr : Reads w 2 (some ⟨b, off, none⟩) l.length (prCells l)) (h0 : 0 < l.length) (hn : l.length ≤ 19) :
    Calls Try.prog 56 #[.slice (some ⟨b, off, none⟩) l.length cap] w (NewRow 47 (orderN l) w) := by
  have Hc := Lib.hid (cloneSel_any b off cap l w hr h0 (by omega))
  have Hs := Lib.hid (fun g c v hv => sortSel_any g c l v hv h0 hn)
  have Hsl := Lib.hid (sorted_length lessS l)
  unfold orderN
  generalize sorted lessS l = S at *
  obtain ⟨N, hN⟩ : ∃ N, N = l.length := ⟨_, rfl⟩
  unfold NewRow at Hc
  rw [← hN] at h0 hn Hc Hs Hsl ⊢
  clear hr hN
  go_enter Try.func56, Try.ntmps56
  go_wp2_with fail
  refine Hc.out.mono ?_
  rintro e w1 ⟨g, c1, rfl, ho, hx⟩
  have hrow := row2_owns (n := N) ho
  have Hg := Lib.hid (owns_block (n := N) ho)
  clear ho
  go_wp2_with fail
  refine (Hs.out g c1 w1 hrow).mono ?_
  rintro e w2 ⟨rfl, hrow2, hm2⟩
  have hx2 : Ext w w2 := hx.trans hm2 (fun i hi e => by have := Hg.out; omega)
  have Hr2 := Lib.hid hrow2
  have Hg2 := Lib.hid hrow2.lt
  clear hrow hrow2 hm2 Hs Hc
  go_wp2_with fail
  go_loopw [4, 16] (fun v i wr => ∃ (k : Nat) (out : List (Int × Int)), k ≤ N ∧ i = .int .i64 k ∧ out.length ≤ k ∧ Hid (wr.ownsRow w2.heap.size 47 2 v out.length (prCells out) ∧ out = merged (S.take k)) ∧ Ext w2 wr) (fun _ i _ => N - (intOf i).toNat)
  case atStart => exact ⟨0, [], by omega, rfl, by simp, Lib.hid ⟨World.ownsRow_nil _ _ _ _, rfl⟩, Mod.refl _ _⟩
  case round =>
    obtain ⟨k, out, hk, rfl, hok, HO, hxr⟩ := hrel
    by_cases hlt : k < N
    · have hlt' : (k : Int) < (N : Int) := by omega
      have hk0 : (0 : Int) ≤ (k : Int) := by omega
      have hSk : S[k]? = some (S[k]'(by rw [Hsl.out]; exact hlt)) := List.getElem?_eq_getElem _
      have HM := Lib.hid (merged_snoc S k _ hSk)
      obtain ⟨c0, c1'⟩ := (Hr2.out.mod hxr (fun f => f)).cell hSk
      generalize S[k]'(by rw [Hsl.out]; exact hlt) = x at *
      have hgl := hxr.lt Hg2.out
      clear hSk
      have hl1 : maxLen = 9223372036854775807 := rfl
      have hxa : Ext w2 (wr.alloc (.cells #[.int .i64 x.1, .int .i64 x.2] 47)) := hxr.alloc _
      cases hout : out.length with
      | zero =>
        have hon := HO.out.1
        rw [hout] at hon
        obtain ⟨va, vc, rfl⟩ := owns_nil hon
        have Hon := Lib.hid hon
        have Hme := Lib.hid (show merged (S.take (k + 1)) = out ++ [x] by rw [HM.out, ← HO.out.2, List.eq_nil_of_length_eq_zero hout]; rfl)
        have Hout := Lib.hid hout
        clear hon hout hok
        go_wp2_with fail
        go_quiet (fail)
        have hxm : Ext wr ((wr.alloc (.cells #[.int .i64 x.1, .int .i64 x.2] 47)).drewN nq) := ((Mod.refl _ wr).alloc _).drewN nq
        have hxf : Ext w2 ((wr.alloc (.cells #[.int .i64 x.1, .int .i64 x.2] 47)).drewN nq) := hxa.drewN nq
        have Hom := Lib.hid (ownsRow_mod Hon.out hxm (fun _ _ f => f))
        clear hxm
        go_wp2_with (at_builtin; refine wpList_append_reads rfl _ _ 43 rfl w2.heap.size 47 _ 2 16 Try.info47 Try.underlying43 rfl (by decide) _ (0) (prCells out) rfl (Hom.out.alloc _) _ 1 1 [.int .i64 x.1, .int .i64 x.2] rfl ?hrd (two_cells x.1 x.2) (by omega) (by omega) ?hbs ?_)
        case hrd =>
          have := Reads.new ((wr.alloc (.cells #[.int .i64 x.1, .int .i64 x.2] 47)).drewN nq) 47 #[.int .i64 x.1, .int .i64 x.2] 2 1 rfl
          simpa using this
        case hbs => have := hxf.size; simp at this ⊢; omega
        intro v' w4 hown hm4 hbk
        have hx4 := (hxf.alloc _).over hm4 (fun i hi => (Hom.out.lt i hi).1)
        have Hown := Lib.hid hown
        clear hm4 hbk hown hxf
        go_wp2_with fail
        go_roundw
        case rel => exact ⟨k + 1, out ++ [x], by omega, by go_num, by have := Hout.out; simp; omega, Lib.hid ⟨by rw [prCells_append, List.length_append, Hout.out]; exact Hown.out, Hme.out.symm⟩, hx4⟩
        case measure => simp [intOf]; omega
      | succ m =>
        have hon := HO.out.1
        rw [hout] at hon
        obtain ⟨go, co, rfl⟩ := owns_some hon (by omega)
        have hma : m < out.length := by omega
        have Hla := Lib.hid (show out.getLast? = some out[m] by rw [List.getLast?_eq_getElem?, hout, Nat.add_sub_cancel]; exact List.getElem?_eq_getElem hma)
        obtain ⟨d0, d1⟩ := owns_cell hon (List.getElem?_eq_getElem hma)
        obtain ⟨hgo1, hgo2⟩ := owns_block hon
        generalize out[m] = a at *
        have Hon := Lib.hid hon
        have Hout := Lib.hid hout
        have e1 : decide ((m : Int) < 0) = false := decide_eq_false (by omega)
        have e2 : (m : Int) ≤ 19 := by omega
        have e3 : (0 : Int) ≤ (m : Int) := by omega
        have e4 : (m : Int) < (m : Int) + 1 := by omega
        clear hon hma
        cases hT : touchB (spanI a) (spanI x) with
        | false =>
          have Hme := Lib.hid (show merged (S.take (k + 1)) = out ++ [x] by rw [HM.out, ← HO.out.2, mergeS_no Hla.out hT])
          clear hout
          go_wp2_with fail
          refine wp_region_ext_lit (by kernel_rfl) (by kernel_rfl) ?_
          repeat (go_big_quiet_step (first | (with_reducible exact Calls.ext_of (span_any _ _)) | (with_reducible exact Calls.ext_of (touch_any _ _ _))))
          refine wpQuiet_nil ?_
          intro we hxe
          have hbx := (Blk.new wr 47 #[.int .i64 x.1, .int .i64 x.2]).mod hxe (fun f => f)
          have q0 : we.cell? ⟨wr.heap.size, 0, none⟩ = some (.int .i64 x.1) := hbx.cell 0
          have q1 : we.cell? ⟨wr.heap.size, 1, none⟩ = some (.int .i64 x.2) := hbx.cell 1
          clear hbx d0 d1 hT e1
          have hxm : Ext wr we := ((Mod.refl _ wr).alloc _).ext_trans hxe
          have hxf : Ext w2 we := hxa.ext_trans hxe
          have Hom := Lib.hid (ownsRow_mod Hon.out hxm (fun _ _ f => f))
          clear hxm
          go_wp2_with (at_builtin; refine wpList_append_reads rfl _ _ 43 rfl w2.heap.size 47 _ 2 16 Try.info47 Try.underlying43 rfl (by decide) _ ((m + 1)) (prCells out) rfl (Hom.out.alloc _) _ 1 1 [.int .i64 x.1, .int .i64 x.2] rfl ?hrd (two_cells x.1 x.2) (by omega) (by omega) ?hbs ?_)
          case hrd =>
            have := Reads.new we 47 #[.int .i64 x.1, .int .i64 x.2] 2 1 rfl
            simpa using this
          case hbs => have := hxf.size; simp at this ⊢; omega
          intro v' w4 hown hm4 hbk
          have hx4 := (hxf.alloc _).over hm4 (fun i hi => (Hom.out.lt i hi).1)
          have Hown := Lib.hid hown
          clear hm4 hbk hown hxf
          go_wp2_with fail
          go_roundw
          case rel => exact ⟨k + 1, out ++ [x], by omega, by go_num, by have := Hout.out; simp; omega, Lib.hid ⟨by rw [prCells_append, List.length_append, Hout.out]; exact Hown.out, Hme.out.symm⟩, hx4⟩
          case measure => simp [intOf]; omega
        | true =>
          have Hme := Lib.hid (show merged (S.take (k + 1)) = out.set m (fuse a x) by rw [HM.out, ← HO.out.2, mergeS_yes Hla.out hT, Hout.out, Nat.add_sub_cancel])
          clear hout
          unfold fuse at Hme
          by_cases hmx : (spanI x).2 ≤ (spanI a).2
          · rw [show max (spanI a).2 (spanI x).2 = (spanI a).2 from by omega] at Hme
            have hmx2 : ¬ (spanI a).2 < (spanI x).2 := by omega
            by_cases had : a.2 < a.1
            · rw [if_pos had] at Hme
              have had2 : decide (a.2 < a.1) = true := decide_eq_true had
              go_wp2_with fail
              refine wp_region_ext_lit (by kernel_rfl) (by kernel_rfl) ?_
              repeat (go_big_quiet_step (first | (with_reducible exact Calls.ext_of (span_any _ _)) | (with_reducible exact Calls.ext_of (touch_any _ _ _))))
              refine wpQuiet_nil ?_
              intro we hxe
              have hbx := (Blk.new wr 47 #[.int .i64 x.1, .int .i64 x.2]).mod hxe (fun f => f)
              have q0 : we.cell? ⟨wr.heap.size, 0, none⟩ = some (.int .i64 x.1) := hbx.cell 0
              have q1 : we.cell? ⟨wr.heap.size, 1, none⟩ = some (.int .i64 x.2) := hbx.cell 1
              have qlt := hbx.lt
              clear hbx d0 d1 hT e1
              have Hon2 := Lib.hid (ownsRow_mod (ownsRow_mod Hon.out (show Ext wr (wr.alloc (.cells #[.int .i64 x.1, .int .i64 x.2] 47)) from (Mod.refl _ wr).alloc _) (fun _ _ f => f)) hxe (fun _ _ f => f))
              obtain ⟨d0, d1⟩ := owns_cell Hon2.out (k := m) (x := a) (by rw [List.getLast?_eq_getElem?, Hout.out, Nat.add_sub_cancel] at Hla; exact Hla.out)
              have hgo3 := (owns_block Hon2.out).2
              go_wp2_with fail
              have f1 := fun v => fld0 (spanI a).1 (spanI a).2 v
              have f2 := fun v => fld1 (spanI a).1 (spanI a).2 v
              have f3 := fun v => fld1 (spanI x).1 (spanI x).2 v
              refine wp_region_ext_lit (by kernel_rfl) (by kernel_rfl) ?_
              repeat (go_big_quiet_step (exact Calls.ext_of (span_any _ _)))
              refine wpQuiet_nil ?_
              intro wf hxg
              have Hon3 := Lib.hid (ownsRow_mod Hon2.out hxg (fun _ _ f => f))
              have hlx := hxg.lt hgo3
              clear q0 q1 qlt f1 f2 f3 d0 d1 Hon2 hgo3
              obtain ⟨d0, d1⟩ := owns_cell Hon3.out (k := m) (x := a) (by rw [List.getLast?_eq_getElem?, Hout.out, Nat.add_sub_cancel] at Hla; exact Hla.out)
              have g0 := owns_free Hon3.out (m * 2)
              have g1 := owns_free Hon3.out (m * 2 + 1)
              have hgo3 := (owns_block Hon3.out).2
              go_wp2_with fail
              go_quiet (fail)
              go_wp2_with fail
              go_roundw
              case rel =>
                have hs := owns_set (ownsRow_mod Hon3.out ((Mod.refl (fun _ => False) wf).drewN nq) (fun _ _ f => f)) m (by omega) ((spanI a).2, (spanI a).1)
                exact ⟨k + 1, out.set m ((spanI a).2, (spanI a).1), by omega, by go_num, by rw [List.length_set]; omega, Lib.hid ⟨by rw [List.length_set, Hout.out]; exact hs, Hme.out.symm⟩, ((((hxa.ext_trans hxe).ext_trans hxg).drewN nq).setCell (p := ⟨go, m * 2, none⟩) (fun h => absurd h (Nat.not_lt.2 hgo1)) _).setCell (p := ⟨go, m * 2 + 1, none⟩) (fun h => absurd h (Nat.not_lt.2 hgo1)) _⟩
              case measure => simp [intOf]; omega
            · rw [if_neg had] at Hme
              have had2 : decide (a.2 < a.1) = false := decide_eq_false had
              go_wp2_with fail
              refine wp_region_ext_lit (by kernel_rfl) (by kernel_rfl) ?_
              repeat (go_big_quiet_step (first | (with_reducible exact Calls.ext_of (span_any _ _)) | (with_reducible exact Calls.ext_of (touch_any _ _ _))))
              refine wpQuiet_nil ?_
              intro we hxe
              have hbx := (Blk.new wr 47 #[.int .i64 x.1, .int .i64 x.2]).mod hxe (fun f => f)
              have q0 : we.cell? ⟨wr.heap.size, 0, none⟩ = some (.int .i64 x.1) := hbx.cell 0
              have q1 : we.cell? ⟨wr.heap.size, 1, none⟩ = some (.int .i64 x.2) := hbx.cell 1
              have qlt := hbx.lt
              clear hbx d0 d1 hT e1
              have Hon2 := Lib.hid (ownsRow_mod (ownsRow_mod Hon.out (show Ext wr (wr.alloc (.cells #[.int .i64 x.1, .int .i64 x.2] 47)) from (Mod.refl _ wr).alloc _) (fun _ _ f => f)) hxe (fun _ _ f => f))
              obtain ⟨d0, d1⟩ := owns_cell Hon2.out (k := m) (x := a) (by rw [List.getLast?_eq_getElem?, Hout.out, Nat.add_sub_cancel] at Hla; exact Hla.out)
              have hgo3 := (owns_block Hon2.out).2
              go_wp2_with fail
              have f1 := fun v => fld0 (spanI a).1 (spanI a).2 v
              have f2 := fun v => fld1 (spanI a).1 (spanI a).2 v
              have f3 := fun v => fld1 (spanI x).1 (spanI x).2 v
              refine wp_region_ext_lit (by kernel_rfl) (by kernel_rfl) ?_
              repeat (go_big_quiet_step (exact Calls.ext_of (span_any _ _)))
              refine wpQuiet_nil ?_
              intro wf hxg
              have Hon3 := Lib.hid (ownsRow_mod Hon2.out hxg (fun _ _ f => f))
              have hlx := hxg.lt hgo3
              clear q0 q1 qlt f1 f2 f3 d0 d1 Hon2 hgo3
              obtain ⟨d0, d1⟩ := owns_cell Hon3.out (k := m) (x := a) (by rw [List.getLast?_eq_getElem?, Hout.out, Nat.add_sub_cancel] at Hla; exact Hla.out)
              have g0 := owns_free Hon3.out (m * 2)
              have g1 := owns_free Hon3.out (m * 2 + 1)
              have hgo3 := (owns_block Hon3.out).2
              go_wp2_with fail
              go_quiet (fail)
              go_wp2_with fail
              go_roundw
              case rel =>
                have hs := owns_set (ownsRow_mod Hon3.out ((Mod.refl (fun _ => False) wf).drewN nq) (fun _ _ f => f)) m (by omega) ((spanI a).1, (spanI a).2)
                exact ⟨k + 1, out.set m ((spanI a).1, (spanI a).2), by omega, by go_num, by rw [List.length_set]; omega, Lib.hid ⟨by rw [List.length_set, Hout.out]; exact hs, Hme.out.symm⟩, ((((hxa.ext_trans hxe).ext_trans hxg).drewN nq).setCell (p := ⟨go, m * 2, none⟩) (fun h => absurd h (Nat.not_lt.2 hgo1)) _).setCell (p := ⟨go, m * 2 + 1, none⟩) (fun h => absurd h (Nat.not_lt.2 hgo1)) _⟩
              case measure => simp [intOf]; omega
          · rw [show max (spanI a).2 (spanI x).2 = (spanI x).2 from by omega] at Hme
            have hmx2 : (spanI a).2 < (spanI x).2 := by omega
            by_cases had : a.2 < a.1
            · rw [if_pos had] at Hme
              have had2 : decide (a.2 < a.1) = true := decide_eq_true had
              go_wp2_with fail
              refine wp_region_ext_lit (by kernel_rfl) (by kernel_rfl) ?_
              repeat (go_big_quiet_step (first | (with_reducible exact Calls.ext_of (span_any _ _)) | (with_reducible exact Calls.ext_of (touch_any _ _ _))))
              refine wpQuiet_nil ?_
              intro we hxe
              have hbx := (Blk.new wr 47 #[.int .i64 x.1, .int .i64 x.2]).mod hxe (fun f => f)
              have q0 : we.cell? ⟨wr.heap.size, 0, none⟩ = some (.int .i64 x.1) := hbx.cell 0
              have q1 : we.cell? ⟨wr.heap.size, 1, none⟩ = some (.int .i64 x.2) := hbx.cell 1
              have qlt := hbx.lt
              clear hbx d0 d1 hT e1
              have Hon2 := Lib.hid (ownsRow_mod (ownsRow_mod Hon.out (show Ext wr (wr.alloc (.cells #[.int .i64 x.1, .int .i64 x.2] 47)) from (Mod.refl _ wr).alloc _) (fun _ _ f => f)) hxe (fun _ _ f => f))
              obtain ⟨d0, d1⟩ := owns_cell Hon2.out (k := m) (x := a) (by rw [List.getLast?_eq_getElem?, Hout.out, Nat.add_sub_cancel] at Hla; exact Hla.out)
              have hgo3 := (owns_block Hon2.out).2
              go_wp2_with fail
              have f1 := fun v => fld0 (spanI a).1 (spanI a).2 v
              have f2 := fun v => fld1 (spanI a).1 (spanI a).2 v
              have f3 := fun v => fld1 (spanI x).1 (spanI x).2 v
              refine wp_region_ext_lit (by kernel_rfl) (by kernel_rfl) ?_
              repeat (go_big_quiet_step (exact Calls.ext_of (span_any _ _)))
              refine wpQuiet_nil ?_
              intro wf hxg
              have Hon3 := Lib.hid (ownsRow_mod Hon2.out hxg (fun _ _ f => f))
              have hlx := hxg.lt hgo3
              clear q0 q1 qlt f1 f2 f3 d0 d1 Hon2 hgo3
              obtain ⟨d0, d1⟩ := owns_cell Hon3.out (k := m) (x := a) (by rw [List.getLast?_eq_getElem?, Hout.out, Nat.add_sub_cancel] at Hla; exact Hla.out)
              have g0 := owns_free Hon3.out (m * 2)
              have g1 := owns_free Hon3.out (m * 2 + 1)
              have hgo3 := (owns_block Hon3.out).2
              go_wp2_with fail
              go_quiet (fail)
              go_wp2_with fail
              go_roundw
              case rel =>
                have hs := owns_set (ownsRow_mod Hon3.out ((Mod.refl (fun _ => False) wf).drewN nq) (fun _ _ f => f)) m (by omega) ((spanI x).2, (spanI a).1)
                exact ⟨k + 1, out.set m ((spanI x).2, (spanI a).1), by omega, by go_num, by rw [List.length_set]; omega, Lib.hid ⟨by rw [List.length_set, Hout.out]; exact hs, Hme.out.symm⟩, ((((hxa.ext_trans hxe).ext_trans hxg).drewN nq).setCell (p := ⟨go, m * 2, none⟩) (fun h => absurd h (Nat.not_lt.2 hgo1)) _).setCell (p := ⟨go, m * 2 + 1, none⟩) (fun h => absurd h (Nat.not_lt.2 hgo1)) _⟩
              case measure => simp [intOf]; omega
            · rw [if_neg had] at Hme
              have had2 : decide (a.2 < a.1) = false := decide_eq_false had
              go_wp2_with fail
              refine wp_region_ext_lit (by kernel_rfl) (by kernel_rfl) ?_
              repeat (go_big_quiet_step (first | (with_reducible exact Calls.ext_of (span_any _ _)) | (with_reducible exact Calls.ext_of (touch_any _ _ _))))
              refine wpQuiet_nil ?_
              intro we hxe
              have hbx := (Blk.new wr 47 #[.int .i64 x.1, .int .i64 x.2]).mod hxe (fun f => f)
              have q0 : we.cell? ⟨wr.heap.size, 0, none⟩ = some (.int .i64 x.1) := hbx.cell 0
              have q1 : we.cell? ⟨wr.heap.size, 1, none⟩ = some (.int .i64 x.2) := hbx.cell 1
              have qlt := hbx.lt
              clear hbx d0 d1 hT e1
              have Hon2 := Lib.hid (ownsRow_mod (ownsRow_mod Hon.out (show Ext wr (wr.alloc (.cells #[.int .i64 x.1, .int .i64 x.2] 47)) from (Mod.refl _ wr).alloc _) (fun _ _ f => f)) hxe (fun _ _ f => f))
              obtain ⟨d0, d1⟩ := owns_cell Hon2.out (k := m) (x := a) (by rw [List.getLast?_eq_getElem?, Hout.out, Nat.add_sub_cancel] at Hla; exact Hla.out)
              have hgo3 := (owns_block Hon2.out).2
              go_wp2_with fail
              have f1 := fun v => fld0 (spanI a).1 (spanI a).2 v
              have f2 := fun v => fld1 (spanI a).1 (spanI a).2 v
              have f3 := fun v => fld1 (spanI x).1 (spanI x).2 v
              refine wp_region_ext_lit (by kernel_rfl) (by kernel_rfl) ?_
              repeat (go_big_quiet_step (exact Calls.ext_of (span_any _ _)))
              refine wpQuiet_nil ?_
              intro wf hxg
              have Hon3 := Lib.hid (ownsRow_mod Hon2.out hxg (fun _ _ f => f))
              have hlx := hxg.lt hgo3
              clear q0 q1 qlt f1 f2 f3 d0 d1 Hon2 hgo3
              obtain ⟨d0, d1⟩ := owns_cell Hon3.out (k := m) (x := a) (by rw [List.getLast?_eq_getElem?, Hout.out, Nat.add_sub_cancel] at Hla; exact Hla.out)
              have g0 := owns_free Hon3.out (m * 2)
              have g1 := owns_free Hon3.out (m * 2 + 1)
              have hgo3 := (owns_block Hon3.out).2
              go_wp2_with fail
              go_quiet (fail)
              go_wp2_with fail
              go_roundw
              case rel =>
                have hs := owns_set (ownsRow_mod Hon3.out ((Mod.refl (fun _ => False) wf).drewN nq) (fun _ _ f => f)) m (by omega) ((spanI a).1, (spanI x).2)
                exact ⟨k + 1, out.set m ((spanI a).1, (spanI x).2), by omega, by go_num, by rw [List.length_set]; omega, Lib.hid ⟨by rw [List.length_set, Hout.out]; exact hs, Hme.out.symm⟩, ((((hxa.ext_trans hxe).ext_trans hxg).drewN nq).setCell (p := ⟨go, m * 2, none⟩) (fun h => absurd h (Nat.not_lt.2 hgo1)) _).setCell (p := ⟨go, m * 2 + 1, none⟩) (fun h => absurd h (Nat.not_lt.2 hgo1)) _⟩
              case measure => simp [intOf]; omega
    · have hlt' : ¬ (k : Int) < (N : Int) := by omega
      obtain rfl : k = N := by omega
      have HO2 := HO.out
      rw [List.take_of_length_le (by rw [Hsl.out]; exact Nat.le_refl _)] at HO2
      obtain ⟨ho1, rfl⟩ := HO2
      have hpos : 0 < (merged S).length := by
        have hlast : S[k - 1]? = some (S[k - 1]'(by rw [Hsl.out]; omega)) := List.getElem?_eq_getElem _
        have := merged_snoc S (k - 1) _ hlast
        rw [List.take_of_length_le (by rw [Hsl.out]; omega)] at this
        rw [this]; exact mergeS_pos _ _
      obtain ⟨go, co, rfl⟩ := owns_some ho1 hpos
      have HO3 := Lib.hid (ownsRow_base ho1 hx2.size)
      clear ho1 HO
      go_wp2_with fail
      go_ret
      exact ⟨go, co, rfl, HO3.out, hx2.ext_trans hxr⟩
end Go.Proofs.Ytmecdhbiinpepaa

/- Norm: selections in order, or refused. Conditions: less than 20 selections. -/
namespace Go.Gim
def mayB (x : Int × Int) (n : Int) : Bool := decide (0 ≤ x.1 ∧ x.1 ≤ x.2 ∧ x.2 ≤ n)
def normE (n : Int) (l : List (Int × Int)) : Int := if l.length = 0 then 2 else if 64 < l.length then 7 else if l.all (fun x => mayB (spanI x) n) then 0 else 3
def normL (n : Int) (l : List (Int × Int)) : List (Int × Int) := if normE n l = 0 then orderN l else []
theorem normE_nil (n : Int) : normE n [] = 2 := rfl
theorem normE_in {n : Int} {l : List (Int × Int)} (h0 : 0 < l.length) (h1 : l.length ≤ 64) : normE n l = if l.all (fun x => mayB (spanI x) n) then 0 else 3 := by
  unfold normE; rw [if_neg (by omega), if_neg (by omega)]
theorem normL_nil (n : Int) : normL n [] = [] := rfl
theorem normL_len (n : Int) (l : List (Int × Int)) : (normL n l).length ≤ l.length := by
  unfold normL; split
  · exact orderN_len l
  · simp
end Go.Gim
namespace Go.Proofs.Ytmecdhbiinpepaa
open Go.RowKit Go.Gim

set_option maxHeartbeats 800000 in
set_option maxRecDepth 1000000 in
theorem spanMay_any (x : Int × Int) (n : Int) (w : World) : Calls Try.prog 55 #[.agg #[.int .i64 x.1, .int .i64 x.2], .int .i64 n] w fun e w' => e = .returned (.bool (mayB x n)) ∧ Ext w w' := by
  obtain ⟨p, q⟩ := x
  simp only [mayB]
  go_enter Try.func55, Try.ntmps55
  go_wp2_with fail
  all_goals
    go_ret
    exact ⟨ret_bool (by rw [Bool.eq_iff_iff]; simp; try omega), (Mod.refl _ w).alloc _⟩

def NormPost (T : TypeId) (n : Int) (l : List (Int × Int)) (w : World) (e : Ending) (w' : World) : Prop :=
  ∃ v, e = .returned (.tuple #[v, .int .i64 (normE n l)]) ∧ w'.ownsRow w.heap.size T 2 v (normL n l).length (prCells (normL n l)) ∧ Ext w w'

set_option maxHeartbeats 1600000 in
set_option maxRecDepth 1000000 in
theorem norm_nil (n : Int) (ao : Option Addr) (cap : Nat) (w : World) :
    Calls Try.prog 27 #[.int .i64 n, .slice ao 0 cap] w (NormPost 47 n [] w) := by
  go_enter Try.func27, Try.ntmps27
  go_wp2_with fail
  go_ret2
  exact ⟨_, rfl, World.ownsRow_nil _ _ _ _, Mod.refl _ _⟩

set_option maxHeartbeats 1600000 in
set_option maxRecDepth 1000000 in
theorem norm_in (n : Int) (b off cap : Nat) (l : List (Int × Int)) (w : World) (hr : Reads w 2 (some ⟨b, off, none⟩) l.length (prCells l)) (h0 : 0 < l.length) (hn : l.length ≤ 19) :
    Calls Try.prog 27 #[.int .i64 n, .slice (some ⟨b, off, none⟩) l.length cap] w (NormPost 47 n l w) := by
  have He := Lib.hid (normE_in (n := n) h0 (by omega))
  have Hr := Lib.hid hr
  have Ho := Lib.hid (fun v hv => orderSel_any b off cap l v hv h0 hn)
  have Hll := Lib.hid (show (0 : Nat) < l.length from h0)
  obtain ⟨N, hN⟩ : ∃ N, N = l.length := ⟨_, rfl⟩
  have HN := Lib.hid hN
  rw [← hN] at h0 hn ⊢
  have j1 : ¬ (N : Int) = 0 := by omega
  have j2 : ¬ 64 < (N : Int) := by omega
  have j3 : ¬ 64 < N := by omega
  have j4 : ¬ N = 0 := by omega
  clear hr hN
  go_enter Try.func27, Try.ntmps27
  go_wp2_with fail
  go_loopw [16] (fun i wr => ∃ k : Nat, k ≤ N ∧ i = .int .i64 k ∧ Hid (∀ x ∈ l.take k, mayB (spanI x) n = true) ∧ Ext w wr) (fun i _ => N - (intOf i).toNat)
  case atStart => exact ⟨0, by omega, rfl, Lib.hid (by simp), Mod.refl _ _⟩
  case round =>
    obtain ⟨k, hk, rfl, HA, hx⟩ := hrel
    by_cases hlt : k < N
    · have hlt' : (k : Int) < (N : Int) := by omega
      have hk0 : (0 : Int) ≤ (k : Int) := by omega
      have hlk : k < l.length := by rw [← HN.out]; exact hlt
      obtain ⟨c0, c1⟩ := reads_pair (Hr.out.mod hx (fun _ _ f => f)) (List.getElem?_eq_getElem hlk)
      have hts := List.take_succ_eq_append_getElem hlk
      have Hmem := Lib.hid (List.getElem_mem hlk)
      generalize l[k] = x at *
      have Hts := Lib.hid hts
      have hbl := World.block_lt_of_cell? _ _ c0
      clear hts hlk
      go_wp2_with fail
      refine (span_any x _).mono ?_
      rintro e w1 ⟨rfl, y1⟩
      go_wp2_with fail
      refine (spanMay_any (spanI x) n _).mono ?_
      rintro e w2 ⟨rfl, y2⟩
      have hx2 := ((hx.alloc (.cells #[.int .i64 x.1, .int .i64 x.2] 47)).ext_trans y1).ext_trans y2
      cases hm : mayB (spanI x) n with
      | true =>
        have Hm := Lib.hid hm
        clear y1 y2 c0 c1 hm
        go_wp2_with fail
        go_roundw
        case rel => exact ⟨k + 1, by omega, by go_num, Lib.hid (by rw [Hts.out]; intro y hy; rcases List.mem_append.1 hy with h | h; exact HA.out y h; rw [List.mem_singleton.1 h]; exact Hm.out), hx2⟩
        case measure => simp [intOf]; omega
      | false =>
        have Hm := Lib.hid hm
        have HE := Lib.hid (show normE n l = 3 by
          rw [He.out, if_neg]
          intro hall
          have := List.all_eq_true.1 hall x Hmem.out
          rw [Hm.out] at this; cases this)
        clear y1 y2 c0 c1 hm
        go_wp2_with fail
        go_ret2
        exact ⟨_, by rw [HE.out]; rfl, by rw [show normL n l = [] by unfold normL; rw [HE.out]; rfl]; exact World.ownsRow_nil _ _ _ _, hx2⟩
    · have hlt' : ¬ (k : Int) < (N : Int) := by omega
      obtain rfl : k = N := by omega
      have HE := Lib.hid (show normE n l = 0 by
        have h1 := HA.out
        rw [HN.out, List.take_of_length_le (Nat.le_refl _)] at h1
        rw [He.out, if_pos (List.all_eq_true.2 h1)])
      have ho := Ho.out _ (Hr.out.mod hx (fun _ _ f => f))
      rw [← HN.out] at ho
      have Ho2 := Lib.hid ho
      clear ho Ho
      go_wp2_with fail
      refine Ho2.out.mono ?_
      rintro e w3 ⟨g, c, rfl, hown, y3⟩
      have HO := Lib.hid (ownsRow_base hown hx.size)
      clear hown
      go_wp2_with fail
      go_ret2
      exact ⟨_, by rw [HE.out]; rfl, by rw [show normL n l = orderN l by unfold normL; rw [HE.out]; rfl]; exact HO.out, hx.ext_trans y3⟩

theorem norm_any (n : Int) (ao : Option Addr) (cap : Nat) (l : List (Int × Int)) (w : World) (hr : Reads w 2 ao l.length (prCells l)) (hn : l.length ≤ 19) :
    Calls Try.prog 27 #[.int .i64 n, .slice ao l.length cap] w (NormPost 47 n l w) := by
  by_cases h0 : 0 < l.length
  · obtain ⟨b, off, rfl⟩ := hr.some h0
    exact norm_in n b off cap l w hr h0 hn
  · obtain rfl : l = [] := List.length_eq_zero_iff.1 (by omega)
    exact norm_nil n ao cap w
end Go.Proofs.Ytmecdhbiinpepaa

/- Where selections come to, plain. Conditions: none. -/
namespace Go.Gim

theorem mayB_span {x : Int × Int} {n : Int} : mayB (spanI x) n = true ↔ 0 ≤ x.1 ∧ 0 ≤ x.2 ∧ x.1 ≤ n ∧ x.2 ≤ n := by
  unfold mayB spanI; rw [decide_eq_true_eq]; simp only; omega
theorem spanI_fuse (a b : Int × Int) : spanI (fuse a b) = ((spanI a).1, max (spanI a).2 (spanI b).2) := by
  unfold fuse
  split <;> simp only [spanI] <;> rw [Prod.mk.injEq] <;> omega
theorem mergeS_in (p : Int × Int → Prop) (hf : ∀ a b, p a → p b → p (fuse a b)) {out : List (Int × Int)} {s : Int × Int} (ho : ∀ x ∈ out, p x) (hs : p s) : ∀ x ∈ mergeS out s, p x := by
  unfold mergeS
  split
  · rename_i a ha
    obtain ⟨l, rfl⟩ := List.getLast?_eq_some_iff.1 ha
    have hpa := ho a (by simp)
    split
    · intro x hx
      rw [List.dropLast_concat] at hx
      rcases List.mem_append.1 hx with h | h
      · exact ho x (List.mem_append_left _ h)
      · rw [List.mem_singleton.1 h]; exact hf _ _ hpa hs
    · intro x hx
      rcases List.mem_append.1 hx with h | h
      · exact ho x h
      · rw [List.mem_singleton.1 h]; exact hs
  · intro x hx
    rcases List.mem_append.1 hx with h | h
    · exact ho x h
    · rw [List.mem_singleton.1 h]; exact hs
theorem merged_in (p : Int × Int → Prop) (hf : ∀ a b, p a → p b → p (fuse a b)) {l : List (Int × Int)} (h : ∀ x ∈ l, p x) : ∀ x ∈ merged l, p x := by
  have : ∀ (l out : List (Int × Int)), (∀ x ∈ out, p x) → (∀ x ∈ l, p x) → ∀ x ∈ l.foldl mergeS out, p x := by
    intro l
    induction l with
    | nil => intro out ho _; exact ho
    | cons y r ih =>
      intro out ho hl
      rw [List.foldl_cons]
      exact ih _ (mergeS_in p hf ho (hl y (by simp))) (fun x hx => hl x (by simp [hx]))
  exact this l [] (by simp) h
theorem orderN_in (p : Int × Int → Prop) (hf : ∀ a b, p a → p b → p (fuse a b)) {l : List (Int × Int)} (h : ∀ x ∈ l, p x) : ∀ x ∈ orderN l, p x :=
  merged_in p hf (fun x hx => h x ((sorted_mem lessS l x).1 hx))
theorem merged_pos {l : List (Int × Int)} (h : 0 < l.length) : 0 < (merged l).length := by
  obtain ⟨r, x, rfl⟩ : ∃ r x, l = r ++ [x] := ⟨l.dropLast, l.getLast (List.ne_nil_of_length_pos h), (List.dropLast_concat_getLast _).symm⟩
  unfold merged
  rw [List.foldl_append, List.foldl_cons, List.foldl_nil]; exact mergeS_pos _ _
theorem orderN_pos {l : List (Int × Int)} (h : 0 < l.length) : 0 < (orderN l).length := merged_pos (by rw [sorted_length]; exact h)
theorem may_fuse (n : Int) : ∀ a b, mayB (spanI a) n = true → mayB (spanI b) n = true → mayB (spanI (fuse a b)) n = true := by
  intro a b ha hb
  rw [mayB_span] at *
  unfold fuse spanI
  split <;> simp only <;> omega
theorem normE_ok {n : Int} {l : List (Int × Int)} (h : normE n l = 0) : 0 < l.length ∧ l.length ≤ 64 ∧ ∀ x ∈ l, mayB (spanI x) n = true := by
  unfold normE at h
  split at h
  · cases h
  · split at h
    · cases h
    · split at h
      · rename_i h1 h2 h3
        exact ⟨by omega, by omega, List.all_eq_true.1 h3⟩
      · cases h
theorem normE_yes {n : Int} {l : List (Int × Int)} (h0 : 0 < l.length) (h1 : l.length ≤ 64) (h : ∀ x ∈ l, mayB (spanI x) n = true) : normE n l = 0 := by
  rw [normE_in h0 h1, if_pos (List.all_eq_true.2 h)]
theorem normL_ok {n : Int} {l : List (Int × Int)} (h : normE n l = 0) : normL n l = orderN l := by unfold normL; rw [if_pos h]
theorem normL_in {n : Int} {l : List (Int × Int)} : ∀ x ∈ normL n l, mayB (spanI x) n = true := by
  unfold normL
  split
  · rename_i h
    exact orderN_in _ (may_fuse n) (normE_ok h).2.2
  · intro x hx; cases hx

/-- Where a selection's head comes to. -/
def toN (t : List UInt8) (way : Int) (ext : Bool) (x : Int × Int) : Int :=
  if ext = true ∨ x.1 = x.2 ∨ 2 < way then (stepN t x.2.toNat way : Nat) else if way = 1 then (spanI x).1 else (spanI x).2
def turned (t : List UInt8) (way : Int) (ext : Bool) (x : Int × Int) : Int × Int := (if ext then x.1 else toN t way ext x, toN t way ext x)
def goE (n way : Int) (l : List (Int × Int)) : Int := if 1 ≤ way ∧ way ≤ 10 then normE n l else 2
def goL (t : List UInt8) (way : Int) (ext : Bool) (l : List (Int × Int)) : List (Int × Int) :=
  if goE t.length way l = 0 then normL t.length ((normL t.length l).map (turned t way ext)) else []
theorem turned_in {t : List UInt8} {way : Int} {ext : Bool} {x : Int × Int} (h : mayB (spanI x) t.length = true) : mayB (spanI (turned t way ext x)) t.length = true := by
  rw [mayB_span] at *
  have hs := stepN_le t x.2.toNat way (by omega)
  have ht : 0 ≤ toN t way ext x ∧ toN t way ext x ≤ t.length := by
    unfold toN spanI
    split
    · omega
    · split <;> simp only <;> omega
  unfold turned
  simp only
  split <;> omega
/-- The first k are done. -/
def halfway {α : Type} (f : α → α) (l : List α) (k : Nat) : List α := (l.take k).map f ++ l.drop k
theorem halfway_zero {α : Type} (f : α → α) (l : List α) : halfway f l 0 = l := rfl
theorem halfway_all {α : Type} (f : α → α) (l : List α) : halfway f l l.length = l.map f := by
  unfold halfway; rw [List.take_of_length_le (Nat.le_refl _), List.drop_of_length_le (Nat.le_refl _), List.append_nil]
theorem halfway_len {α : Type} (f : α → α) (l : List α) (k : Nat) : (halfway f l k).length = l.length := by
  unfold halfway; simp; omega
theorem halfway_at {α : Type} (f : α → α) {l : List α} {k : Nat} {x : α} (h : l[k]? = some x) : (halfway f l k)[k]? = some x := by
  obtain ⟨hk, rfl⟩ := List.getElem?_eq_some_iff.1 h
  unfold halfway
  rw [List.getElem?_append_right (by simp; omega)]
  simp [Nat.min_eq_left (Nat.le_of_lt hk)]
theorem halfway_step {α : Type} (f : α → α) {l : List α} {k : Nat} {x : α} (h : l[k]? = some x) : (halfway f l k).set k (f x) = halfway f l (k + 1) := by
  obtain ⟨hk, rfl⟩ := List.getElem?_eq_some_iff.1 h
  have hd : l.drop k = l[k] :: l.drop (k + 1) := List.drop_eq_getElem_cons hk
  unfold halfway
  rw [List.set_append_right _ _ (by simp; omega), List.take_succ_eq_append_getElem hk, List.map_append, hd]
  simp [Nat.min_eq_left (Nat.le_of_lt hk)]
  rw [hd]; rfl
theorem go_again {t : List UInt8} {way : Int} {ext : Bool} {l : List (Int × Int)} (h : normE t.length l = 0) : normE t.length ((normL t.length l).map (turned t way ext)) = 0 := by
  obtain ⟨h0, h1, _⟩ := normE_ok h
  have hl := normL_len t.length l
  refine normE_yes (by rw [List.length_map, normL_ok h]; exact orderN_pos h0) (by rw [List.length_map]; omega) ?_
  intro y hy
  obtain ⟨x, hx, rfl⟩ := List.mem_map.1 hy
  exact turned_in (normL_in x hx)
end Go.Gim

/- The document's table of ranges: Drop. Conditions: a table that may be. -/
import Derived.Test.YtffplppglicibaaGimTabRefD
namespace Go.Proofs.Ytffplppglicibaa
open Go.RowKit Go.Gim

/-- What the document's Drop has gathered. -/
structure DropRow (w wr : World) (vg vi vr : Value) (L : Tb) (id : Int) (k : Nat) : Prop where
  g : wr.ownsRow w.heap.size 3 1 vg (goneN L id k).length (inE.cells (goneN L id k))
  i : wr.ownsRow w.heap.size 3 1 vi (keepN L id k).length (inE.cells (idsR (keepN L id k)))
  r : wr.ownsRow w.heap.size 33 5 vr (keepN L id k).length (rgE.cells ((keepN L id k).map (·.2)))
  ap : ∀ b, vg.ownBlock = some b → vi.ownBlock ≠ some b

set_option maxHeartbeats 3200000 in
set_option maxRecDepth 1000000 in
theorem rdrop_any (B ub : Nat) (v1 v2 : Value) (L : Tb) (last Bd id : Int) (w : World) (h : RefAt w B ub v1 v2 L last) (hB : B ≤ w.heap.size) (hT : Tok L last Bd) :
    Calls Try.prog 43 #[.pointer (some ⟨ub, 0, none⟩), .int .i64 id] w (RcPost B ub (dropD L last id) w) := by
  have hn := hT.len
  cases hg : getR L id with
  | none =>
    have Hat := Lib.hid (h.whereAt hn (whereI_no hg))
    have H := Lib.hid h
    have HD := Lib.hid (show dropD L last id = ⟨L, last, 0, 6⟩ by unfold dropD; rw [hg])
    rw [HD.out]
    clear h hg hT HD
    go_enter Try.func43, Try.ntmps43
    go_wp2_with fail
    refine Hat.out.mono ?_
    rintro e w1 ⟨rfl, rfl⟩
    go_wp2_with fail
    go_ret
    exact ⟨rfl, rfl, ⟨v1, v2, H.out⟩, Mod.refl _ _⟩
  | some rr =>
    obtain ⟨K, hK⟩ := getR_place hg
    have Hat := Lib.hid (h.whereAt hn (whereI_at hT.once hK))
    have HD := Lib.hid (show dropD L last id = ⟨dropT L id, last, 0, 0⟩ by unfold dropD; rw [hg])
    rw [HD.out]
    obtain ⟨a1, c1, hv1, hr1⟩ := h.rdI
    obtain ⟨a2, c2, hv2, hr2⟩ := h.rdR
    have HT := Lib.hid hT
    have HrI := Lib.hid hr1
    have HrR := Lib.hid hr2
    obtain ⟨N, hN⟩ : ∃ N, N = L.length := ⟨_, rfl⟩
    have HN := Lib.hid hN
    subst hv1 hv2
    have H := Lib.hid h
    rw [← hN] at hn H
    have HDn := Lib.hid (show keepN L id N = dropT L id by rw [hN]; exact keepN_whole L id)
    have hKneg : ¬ (K : Int) < 0 := by omega
    have Hal := Lib.hid (show DropRow w (w.alloc (.cells #[.int .i64 id] 3)) (.slice (some ⟨w.heap.size, 0, none⟩) 1 1) (.slice none 0 0) (.slice none 0 0) L id 0 from
      ⟨World.ownsRow_lit w #[.int .i64 id] 1 (Nat.le_refl _) (by unfold maxLen; omega) rfl, World.ownsRow_nil _ _ _ _, World.ownsRow_nil _ _ _ _, fun b hb e => by cases e⟩)
    simp only at Hat
    clear h hg hT HD hr1 hr2 hK hN
    go_enter Try.func43, Try.ntmps43
    go_wp2_with fail
    refine Hat.out.mono ?_
    rintro e w ⟨rfl, rfl⟩
    clear Hat
    go_wp2_with fail
    go_loopw [5, 6, 7, 8] (fun vg vi vr i wr => ∃ k : Nat, k ≤ N ∧ i = .int .i64 k ∧ Hid (DropRow w wr vg vi vr L id k) ∧ Ext w wr) (fun _ _ _ i _ => N - (intOf i).toNat)
    case atStart => exact ⟨0, by omega, rfl, Hal, (Mod.refl _ w).alloc _⟩
    case round =>
      clear Hal
      obtain ⟨k, hk, rfl, HDr, hx⟩ := hrel
      by_cases hlt : k < N
      · have hlt' : (k : Int) < (N : Int) := by omega
        have hk0 : (0 : Int) ≤ (k : Int) := by omega
        obtain ⟨bi, oi, rfl⟩ := HrI.out.some (by rw [← HN.out]; omega)
        obtain ⟨br, or, rfl⟩ := HrR.out.some (by rw [← HN.out]; omega)
        have hmL : k < L.length := by rw [← HN.out]; exact hlt
        have hkL : L[k]? = some (L[k]'hmL) := List.getElem?_eq_getElem _
        have hidK : (idsR L)[k]? = some (L[k]'hmL).1 := by unfold idsR; rw [List.getElem?_map, hkL]; rfl
        have hxR : (L.map (·.2))[k]? = some (L[k]'hmL).2 := by rw [List.getElem?_map, hkL]; rfl
        have q0 := rdIn_at (HrI.out.mod hx (fun _ _ f => f)) hidK
        obtain ⟨r0, r1, r2, r3, r4⟩ := reads_rg (HrR.out.mod hx (fun _ _ f => f)) hxR
        generalize L[k]'hmL = z at *
        obtain ⟨id1, ra, rb, rp, rq, ru⟩ := z
        simp only at hidK hxR q0 r0 r1 r2 r3 r4
        have Hx := Lib.hid hkL
        have HxR := Lib.hid hxR
        have hgl := goneN_len L id k
        have hkl := keepN_len L id k
        have Hgl := Lib.hid (show (goneN L id k).length ≤ 257 by omega)
        have Hkl := Lib.hid (show (keepN L id k).length ≤ 256 by omega)
        have hbm := H.out.blk.mod hx (fun f => f)
        have d0 := hbm.cell 0
        have d1 := hbm.cell 1
        simp only [List.getElem?_toArray, List.getElem?_cons_zero, List.getElem?_cons_succ] at d0 d1
        have hlb := hbm.lt
        have hbl := World.block_lt_of_cell? wr _ q0
        have hbr := World.block_lt_of_cell? wr _ r0
        obtain ⟨ag, cg, hvg, hrg⟩ := Enc.owns_reads (E := inE) HDr.out.g
        obtain ⟨ai, ci, hvi, _, _⟩ := ownsRow_shape HDr.out.i
        obtain ⟨ar, cr, hvr, _, _⟩ := ownsRow_shape HDr.out.r
        subst hvg hvi hvr
        have Ha1 := Lib.hid (ramong_any (goneN L id k) id1 ag cg wr hrg (by omega))
        have Ha2 := Lib.hid (ramong_any (goneN L id k) ru ag cg wr hrg (by omega))
        clear hkL hidK hxR hbm hgl hkl hrg
        cases hA : decide (id1 ∈ goneN L id k) with
        | true =>
          rw [hA] at Ha1
          have hgo : id1 ∈ goneN L id k ∨ ru ≠ 0 ∧ ru ∈ goneN L id k := .inl (of_decide_eq_true hA)
          clear hA Ha2
          go_wp2_with fail
          refine Ha1.out.mono ?_
          rintro e wr ⟨rfl, rfl⟩
          clear Ha1
          have Hgo := Lib.hid hgo
          have Hg1 := Lib.hid (show goneN L id (k + 1) = goneN L id k ++ [id1] by rw [goneN_succ Hx.out, if_pos Hgo.out])
          have Hk1 := Lib.hid ((goneN_goes HT.out id Hx.out).1 Hgo.out)
          clear hgo
          go_upto_region 10 with fail
          have hmax : maxLen = 9223372036854775807 := rfl
          go_wp2_with (at_builtin; refine wpList_append_reads rfl _ _ 43 rfl w.heap.size 3 _ 1 8 Try.info3 Try.underlying43 rfl (by decide) _ (goneN L id k).length _ rfl (HDr.out.g.alloc _) _ 1 1 [.int .i64 id1] rfl ?hrd (inE.one id1) (by have := Hgl.out; omega) (by have := Hgl.out; omega) ?hbs ?_)
          case hrd =>
            have := Reads.new wr 3 #[.int .i64 id1] 1 1 rfl
            simpa using this
          case hbs => have := hx.size; simp at this ⊢; omega
          intro v' wk hown hmk hbk
          have hal : Ext wr (wr.alloc (.cells #[.int .i64 id1] 3)) := (Mod.refl _ wr).alloc _
          have hyk := (hx.ext_trans hal).over hmk (fun i hi => (HDr.out.g.lt i hi).1)
          have HDk := Lib.hid (show DropRow w wk v' _ _ L id (k + 1) from ⟨by rw [Hg1.out, inE.cells_append, List.length_append]; exact hown,
            by rw [Hk1.out]; exact ownsRow_mod (ownsRow_mod HDr.out.i hal (fun _ _ f => f)) hmk (fun j hj e => HDr.out.ap j e hj),
            by rw [Hk1.out]; exact ownsRow_mod (ownsRow_mod HDr.out.r hal (fun _ _ f => f)) hmk (fun j hj e => own_apart HDr.out.r HDr.out.g (by decide) j hj e),
            fun j hj e => by
              rcases hbk with hbk | hbk
              · rw [hbk] at hj; exact HDr.out.ap j hj e
              · have h1 := hbk j hj
                have h2 := (HDr.out.i.lt j e).2
                have h3 := hal.size
                omega⟩)
          clear hmk hbk hown d0 d1 q0 r0 r1 r2 r3 r4 hal hlb hbl hbr
          go_wp2_with fail
          go_roundw
          case rel => exact ⟨k + 1, by omega, by go_num, HDk, hyk⟩
          case measure => simp [intOf]; omega
        | false =>
          rw [hA] at Ha1
          have hA := of_decide_eq_false hA
          by_cases hu : ru = 0
          · have hu1 : (ru != 0) = false := by simpa using hu
            have hno : ¬ (id1 ∈ goneN L id k ∨ ru ≠ 0 ∧ ru ∈ goneN L id k) := fun h => h.elim hA (fun h => h.1 hu)
            clear hA Ha2 hu
            go_wp2_with fail
            refine Ha1.out.mono ?_
            rintro e wr ⟨rfl, rfl⟩
            clear Ha1
            have Hno := Lib.hid hno
            have Hg1 := Lib.hid (show goneN L id (k + 1) = goneN L id k by rw [goneN_succ Hx.out, if_neg Hno.out])
            have Hk1 := Lib.hid (show keepN L id (k + 1) = keepN L id k ++ [(id1, ⟨ra, rb, rp, rq, ru⟩)] by
              have h1 := keepN_succ (id := id) Hx.out
              split at h1
              · exact absurd ((goneN_goes HT.out id Hx.out).2 h1) Hno.out
              · exact h1)
            clear hno
            go_upto_region 11 with fail
            have hmax : maxLen = 9223372036854775807 := rfl
            go_wp2_with (at_builtin; refine wpList_append_reads rfl _ _ 43 rfl w.heap.size 3 _ 1 8 Try.info3 Try.underlying43 rfl (by decide) _ (keepN L id k).length _ rfl (HDr.out.i.alloc _) _ 1 1 [.int .i64 id1] rfl ?hrd (inE.one id1) (by have := Hkl.out; omega) (by have := Hkl.out; omega) ?hbs ?_)
            case hrd =>
              have := Reads.new wr 3 #[.int .i64 id1] 1 1 rfl
              simpa using this
            case hbs => have := hx.size; simp at this ⊢; omega
            intro vi' wk hown hmk hbk
            have hal : Ext wr (wr.alloc (.cells #[.int .i64 id1] 3)) := (Mod.refl _ wr).alloc _
            have hyk := (hx.ext_trans hal).over hmk (fun i hi => (HDr.out.i.lt i hi).1)
            have HIk := Lib.hid hown
            have HGk := Lib.hid (ownsRow_mod (ownsRow_mod HDr.out.g hal (fun _ _ f => f)) hmk (fun j hj e => HDr.out.ap j hj e))
            have HRk := Lib.hid (ownsRow_mod (ownsRow_mod HDr.out.r hal (fun _ _ f => f)) hmk (fun j hj e => own_apart HDr.out.r HDr.out.i (by decide) j hj e))
            have Hap := Lib.hid (show ∀ b, (Value.slice ag (goneN L id k).length cg).ownBlock = some b → vi'.ownBlock ≠ some b from fun j hj e => by
              rcases hbk with hbk | hbk
              · rw [hbk] at e; exact HDr.out.ap j hj e
              · have h1 := hbk j e
                have h2 := (HDr.out.g.lt j hj).2
                have h3 := hal.size
                omega)
            clear hmk hbk hown d0 d1 q0 r0 r1 r2 r3 r4 hal hlb hbl hbr HDr
            have hbm := H.out.blk.mod hyk (fun f => f)
            have d1 := hbm.cell 1
            simp only [List.getElem?_toArray, List.getElem?_cons_zero, List.getElem?_cons_succ] at d1
            have hlb := hbm.lt
            obtain ⟨r0, r1, r2, r3, r4⟩ := reads_rg (HrR.out.mod hyk (fun _ _ f => f)) HxR.out
            have hbr := World.block_lt_of_cell? wk _ r0
            clear hbm
            go_upto_region 12 with fail
            go_wp2_with (at_builtin; refine wpList_append_reads rfl _ _ 61 rfl w.heap.size 33 _ 5 32 Try.info33 Try.underlying61 rfl (by decide) _ (keepN L id k).length _ rfl (HRk.out.alloc _) _ 1 1 [.int .i64 ra, .int .i64 rb, .bool rp, .bool rq, .int .i64 ru] rfl ?hrd (rgE.one ⟨ra, rb, rp, rq, ru⟩) (by have := Hkl.out; omega) (by have := Hkl.out; omega) ?hbs ?_)
            case hrd =>
              have := Reads.new wk 33 #[.int .i64 ra, .int .i64 rb, .bool rp, .bool rq, .int .i64 ru] 5 1 rfl
              simpa using this
            case hbs => have := hyk.size; simp at this ⊢; omega
            intro vr' wl hown hml hbk
            have hal : Ext wk (wk.alloc (.cells #[.int .i64 ra, .int .i64 rb, .bool rp, .bool rq, .int .i64 ru] 33)) := (Mod.refl _ wk).alloc _
            have hyl := (hyk.ext_trans hal).over hml (fun i hi => (HRk.out.lt i hi).1)
            have HDk := Lib.hid (show DropRow w wl (.slice ag (goneN L id k).length cg) vi' vr' L id (k + 1) from ⟨by rw [Hg1.out]; exact ownsRow_mod (ownsRow_mod HGk.out hal (fun _ _ f => f)) hml (fun j hj e => own_apart HGk.out HRk.out (by decide) j hj e),
              by rw [Hk1.out, List.length_append, List.length_singleton]; unfold idsR; rw [List.map_append, inE.cells_append]; exact ownsRow_mod (ownsRow_mod HIk.out hal (fun _ _ f => f)) hml (fun j hj e => own_apart HIk.out HRk.out (by decide) j hj e),
              by rw [Hk1.out, List.length_append, List.length_singleton, List.map_append, rgE.cells_append]; exact hown,
              Hap.out⟩)
            clear hml hbk hown d1 r0 r1 r2 r3 r4 hal hlb hbr HIk HGk HRk Hap
            go_wp2_with fail
            go_roundw
            case rel => exact ⟨k + 1, by omega, by go_num, HDk, hyl⟩
            case measure => simp [intOf]; omega
          · have hu1 : (ru != 0) = true := by simpa using hu
            cases hA2 : decide (ru ∈ goneN L id k) with
            | true =>
              rw [hA2] at Ha2
              have hgo : id1 ∈ goneN L id k ∨ ru ≠ 0 ∧ ru ∈ goneN L id k := .inr ⟨hu, of_decide_eq_true hA2⟩
              clear hA hA2 hu
              go_wp2_with fail
              refine Ha1.out.mono ?_
              rintro e wr ⟨rfl, rfl⟩
              go_wp2_with fail
              refine Ha2.out.mono ?_
              rintro e wr ⟨rfl, rfl⟩
              clear Ha1 Ha2
              have Hgo := Lib.hid hgo
              have Hg1 := Lib.hid (show goneN L id (k + 1) = goneN L id k ++ [id1] by rw [goneN_succ Hx.out, if_pos Hgo.out])
              have Hk1 := Lib.hid ((goneN_goes HT.out id Hx.out).1 Hgo.out)
              clear hgo
              go_upto_region 10 with fail
              have hmax : maxLen = 9223372036854775807 := rfl
              go_wp2_with (at_builtin; refine wpList_append_reads rfl _ _ 43 rfl w.heap.size 3 _ 1 8 Try.info3 Try.underlying43 rfl (by decide) _ (goneN L id k).length _ rfl (HDr.out.g.alloc _) _ 1 1 [.int .i64 id1] rfl ?hrd (inE.one id1) (by have := Hgl.out; omega) (by have := Hgl.out; omega) ?hbs ?_)
              case hrd =>
                have := Reads.new wr 3 #[.int .i64 id1] 1 1 rfl
                simpa using this
              case hbs => have := hx.size; simp at this ⊢; omega
              intro v' wk hown hmk hbk
              have hal : Ext wr (wr.alloc (.cells #[.int .i64 id1] 3)) := (Mod.refl _ wr).alloc _
              have hyk := (hx.ext_trans hal).over hmk (fun i hi => (HDr.out.g.lt i hi).1)
              have HDk := Lib.hid (show DropRow w wk v' _ _ L id (k + 1) from ⟨by rw [Hg1.out, inE.cells_append, List.length_append]; exact hown,
                by rw [Hk1.out]; exact ownsRow_mod (ownsRow_mod HDr.out.i hal (fun _ _ f => f)) hmk (fun j hj e => HDr.out.ap j e hj),
                by rw [Hk1.out]; exact ownsRow_mod (ownsRow_mod HDr.out.r hal (fun _ _ f => f)) hmk (fun j hj e => own_apart HDr.out.r HDr.out.g (by decide) j hj e),
                fun j hj e => by
                  rcases hbk with hbk | hbk
                  · rw [hbk] at hj; exact HDr.out.ap j hj e
                  · have h1 := hbk j hj
                    have h2 := (HDr.out.i.lt j e).2
                    have h3 := hal.size
                    omega⟩)
              clear hmk hbk hown d0 d1 q0 r0 r1 r2 r3 r4 hal hlb hbl hbr
              go_wp2_with fail
              go_roundw
              case rel => exact ⟨k + 1, by omega, by go_num, HDk, hyk⟩
              case measure => simp [intOf]; omega
            | false =>
              rw [hA2] at Ha2
              have hno : ¬ (id1 ∈ goneN L id k ∨ ru ≠ 0 ∧ ru ∈ goneN L id k) := fun h => h.elim hA (fun h => (of_decide_eq_false hA2) h.2)
              clear hA hA2 hu
              go_wp2_with fail
              refine Ha1.out.mono ?_
              rintro e wr ⟨rfl, rfl⟩
              go_wp2_with fail
              refine Ha2.out.mono ?_
              rintro e wr ⟨rfl, rfl⟩
              clear Ha1 Ha2
              have Hno := Lib.hid hno
              have Hg1 := Lib.hid (show goneN L id (k + 1) = goneN L id k by rw [goneN_succ Hx.out, if_neg Hno.out])
              have Hk1 := Lib.hid (show keepN L id (k + 1) = keepN L id k ++ [(id1, ⟨ra, rb, rp, rq, ru⟩)] by
                have h1 := keepN_succ (id := id) Hx.out
                split at h1
                · exact absurd ((goneN_goes HT.out id Hx.out).2 h1) Hno.out
                · exact h1)
              clear hno
              go_upto_region 11 with fail
              have hmax : maxLen = 9223372036854775807 := rfl
              go_wp2_with (at_builtin; refine wpList_append_reads rfl _ _ 43 rfl w.heap.size 3 _ 1 8 Try.info3 Try.underlying43 rfl (by decide) _ (keepN L id k).length _ rfl (HDr.out.i.alloc _) _ 1 1 [.int .i64 id1] rfl ?hrd (inE.one id1) (by have := Hkl.out; omega) (by have := Hkl.out; omega) ?hbs ?_)
              case hrd =>
                have := Reads.new wr 3 #[.int .i64 id1] 1 1 rfl
                simpa using this
              case hbs => have := hx.size; simp at this ⊢; omega
              intro vi' wk hown hmk hbk
              have hal : Ext wr (wr.alloc (.cells #[.int .i64 id1] 3)) := (Mod.refl _ wr).alloc _
              have hyk := (hx.ext_trans hal).over hmk (fun i hi => (HDr.out.i.lt i hi).1)
              have HIk := Lib.hid hown
              have HGk := Lib.hid (ownsRow_mod (ownsRow_mod HDr.out.g hal (fun _ _ f => f)) hmk (fun j hj e => HDr.out.ap j hj e))
              have HRk := Lib.hid (ownsRow_mod (ownsRow_mod HDr.out.r hal (fun _ _ f => f)) hmk (fun j hj e => own_apart HDr.out.r HDr.out.i (by decide) j hj e))
              have Hap := Lib.hid (show ∀ b, (Value.slice ag (goneN L id k).length cg).ownBlock = some b → vi'.ownBlock ≠ some b from fun j hj e => by
                rcases hbk with hbk | hbk
                · rw [hbk] at e; exact HDr.out.ap j hj e
                · have h1 := hbk j e
                  have h2 := (HDr.out.g.lt j hj).2
                  have h3 := hal.size
                  omega)
              clear hmk hbk hown d0 d1 q0 r0 r1 r2 r3 r4 hal hlb hbl hbr HDr
              have hbm := H.out.blk.mod hyk (fun f => f)
              have d1 := hbm.cell 1
              simp only [List.getElem?_toArray, List.getElem?_cons_zero, List.getElem?_cons_succ] at d1
              have hlb := hbm.lt
              obtain ⟨r0, r1, r2, r3, r4⟩ := reads_rg (HrR.out.mod hyk (fun _ _ f => f)) HxR.out
              have hbr := World.block_lt_of_cell? wk _ r0
              clear hbm
              go_upto_region 12 with fail
              go_wp2_with (at_builtin; refine wpList_append_reads rfl _ _ 61 rfl w.heap.size 33 _ 5 32 Try.info33 Try.underlying61 rfl (by decide) _ (keepN L id k).length _ rfl (HRk.out.alloc _) _ 1 1 [.int .i64 ra, .int .i64 rb, .bool rp, .bool rq, .int .i64 ru] rfl ?hrd (rgE.one ⟨ra, rb, rp, rq, ru⟩) (by have := Hkl.out; omega) (by have := Hkl.out; omega) ?hbs ?_)
              case hrd =>
                have := Reads.new wk 33 #[.int .i64 ra, .int .i64 rb, .bool rp, .bool rq, .int .i64 ru] 5 1 rfl
                simpa using this
              case hbs => have := hyk.size; simp at this ⊢; omega
              intro vr' wl hown hml hbk
              have hal : Ext wk (wk.alloc (.cells #[.int .i64 ra, .int .i64 rb, .bool rp, .bool rq, .int .i64 ru] 33)) := (Mod.refl _ wk).alloc _
              have hyl := (hyk.ext_trans hal).over hml (fun i hi => (HRk.out.lt i hi).1)
              have HDk := Lib.hid (show DropRow w wl (.slice ag (goneN L id k).length cg) vi' vr' L id (k + 1) from ⟨by rw [Hg1.out]; exact ownsRow_mod (ownsRow_mod HGk.out hal (fun _ _ f => f)) hml (fun j hj e => own_apart HGk.out HRk.out (by decide) j hj e),
                by rw [Hk1.out, List.length_append, List.length_singleton]; unfold idsR; rw [List.map_append, inE.cells_append]; exact ownsRow_mod (ownsRow_mod HIk.out hal (fun _ _ f => f)) hml (fun j hj e => own_apart HIk.out HRk.out (by decide) j hj e),
                by rw [Hk1.out, List.length_append, List.length_singleton, List.map_append, rgE.cells_append]; exact hown,
                Hap.out⟩)
              clear hml hbk hown d1 r0 r1 r2 r3 r4 hal hlb hbr HIk HGk HRk Hap
              go_wp2_with fail
              go_roundw
              case rel => exact ⟨k + 1, by omega, by go_num, HDk, hyl⟩
              case measure => simp [intOf]; omega
      · have hlt' : ¬ (k : Int) < (N : Int) := by omega
        obtain rfl : k = N := by omega
        have hIs := HDr.out.i
        have hRs := HDr.out.r
        rw [HDn.out] at hIs hRs
        have HIs := Lib.hid hIs
        have HRs := Lib.hid hRs
        have hbm := H.out.blk.mod hx (fun f => f)
        have d0 := hbm.cell 0
        have d1 := hbm.cell 1
        simp only [List.getElem?_toArray, List.getElem?_cons_zero, List.getElem?_cons_succ] at d0 d1
        have f0 := hbm.free 0
        have f1 := hbm.free 1
        have hlb := hbm.lt
        have Hbm := Lib.hid hbm
        obtain ⟨ai, ci, hvi, _, _⟩ := ownsRow_shape hIs
        obtain ⟨ar, cr, hvr, _, _⟩ := ownsRow_shape hRs
        subst hvi hvr
        clear hIs hRs HDr hbm
        go_wp2_with fail
        go_ret
        have hm : Mod (· = ub) wr ((wr.setCell ⟨ub, 0, none⟩ (.slice ai (dropT L id).length ci)).setCell ⟨ub, 1, none⟩ (.slice ar (dropT L id).length cr)) := ((Mod.refl (· = ub) wr).setCell (fun _ => rfl) _).setCell (fun _ => rfl) _
        refine ⟨rfl, rfl, ⟨_, _, ?_, H.out.base, ownsRow_base (ownsRow_mod HIs.out hm (own_type HIs.out Hbm.out (by decide))) hB, ownsRow_base (ownsRow_mod HRs.out hm (own_type HRs.out Hbm.out (by decide))) hB⟩, RefS.trans hx.any (refs_blk Hbm.out (.inr (.inr rfl)) H.out.base hm)⟩
        exact (Hbm.out.set 0 _).set 1 _
end Go.Proofs.Ytffplppglicibaa

/- The document's table of ranges: Move. Conditions: a table that may be; fewer than 20 edits of at most 100000 bytes each, in none of the table's blocks. -/
namespace Go.Proofs.Ytffplppglicibaa
open Go.RowKit Go.Gim

theorem moveTo_here (es : List Ed) {L : Tb} (ho : Once L) {k j : Nat} {x : Int × Rg} (hkj : k ≤ j) (hx : L[j]? = some x) : (moveTo es L k)[j]? = some x := by
  have hg := moveTo_rest es ho k j x hkj hx
  have hl := moveTo_len es L k
  have hj := (List.getElem?_eq_some_iff.1 hx).1
  have hy : (moveTo es L k)[j]? = some ((moveTo es L k)[j]'(by omega)) := List.getElem?_eq_getElem _
  have hi : (idsR (moveTo es L k))[j]? = (idsR L)[j]? := by rw [moveTo_ids]
  unfold idsR at hi
  rw [List.getElem?_map, List.getElem?_map, hy, hx] at hi
  have hi' : ((moveTo es L k)[j]'(by omega)).1 = x.1 := by simpa using hi
  have ho2 : Once (moveTo es L k) := by rw [once_ids, moveTo_ids]; exact once_ids.1 ho
  have hg2 := getR_of_mem ho2 (show (x.1, ((moveTo es L k)[j]'(by omega)).2) ∈ moveTo es L k by rw [← hi']; exact List.getElem_mem _)
  rw [hg] at hg2
  rw [hy]
  refine congrArg some (Prod.ext hi' (Option.some.inj hg2).symm)
theorem moveTo_once (es : List Ed) {L : Tb} (ho : Once L) (k : Nat) : Once (moveTo es L k) := by rw [once_ids, moveTo_ids]; exact once_ids.1 ho
/-- Five cells stored: a range put in its place. -/
theorem owns_put5 {w : World} {B g c n : Nat} {T : TypeId} {l : List Rg} (h : w.ownsRow B T 5 (.slice (some ⟨g, 0, none⟩) n c) n (rgE.cells l)) {k : Nat} {x : Rg} (hx : l[k]? = some x) (y : Rg) :
    (((((w.setCell ⟨g, k * 5, none⟩ (.int .i64 y.a)).setCell ⟨g, k * 5 + 1, none⟩ (.int .i64 y.b)).setCell ⟨g, k * 5 + 2, none⟩ (.bool y.p)).setCell ⟨g, k * 5 + 3, none⟩ (.bool y.q)).setCell ⟨g, k * 5 + 4, none⟩ (.int .i64 y.u)).ownsRow B T 5 (.slice (some ⟨g, 0, none⟩) n c) n (rgE.cells (l.set k y)) := by
  have hk := (List.getElem?_eq_some_iff.1 hx).1
  have h0 := Enc.owns_set (E := rgE) h hx (j := 0) (by decide) (v := .int .i64 y.a) ⟨y.a, x.b, x.p, x.q, x.u⟩ rfl
  have h1 := Enc.owns_set2 (E := rgE) h0 hk (j := 1) (by decide) (v := .int .i64 y.b) (y := ⟨y.a, y.b, x.p, x.q, x.u⟩) rfl
  have h2 := Enc.owns_set2 (E := rgE) h1 hk (j := 2) (by decide) (v := .bool y.p) (y := ⟨y.a, y.b, y.p, x.q, x.u⟩) rfl
  have h3 := Enc.owns_set2 (E := rgE) h2 hk (j := 3) (by decide) (v := .bool y.q) (y := ⟨y.a, y.b, y.p, y.q, x.u⟩) rfl
  exact Enc.owns_set2 (E := rgE) h3 hk (j := 4) (by decide) (v := .int .i64 y.u) (y := y) rfl

set_option maxHeartbeats 3200000 in
set_option maxRecDepth 1000000 in
theorem rmove_any (B ub : Nat) (v1 v2 : Value) (L : Tb) (last Bd : Int) (es : List Ed) (ao : Option Addr) (cap : Nat) (w : World) (h : RefAt w B ub v1 v2 L last) (hB : B ≤ w.heap.size) (hT : Tok L last Bd) (hBd : 65536 ≤ Bd) (hBd2 : Bd ≤ 900000000)
    (hr : Reads w 3 ao es.length (edE.cells es)) (hn : es.length ≤ 19) (ht : ∀ e ∈ es, e.t.size ≤ 100000) (hfar : 0 < es.length → ∀ a, ao = some a → ¬ RefS B w a.block) :
    Calls Try.prog 44 #[.pointer (some ⟨ub, 0, none⟩), .slice ao es.length cap] w (RcPost B ub (moveD L last es) w) := by
  have HRg := Lib.hid (rfRanged_any 65536 ao cap es w hr (by omega))
  have Hr := Lib.hid hr
  have Hfar := Lib.hid hfar
  have HT := Lib.hid hT
  by_cases hz : rangedE 65536 es = 0
  · have Hok := Lib.hid (ranged_ok hz ht)
    have HD := Lib.hid (show moveD L last es = ⟨moveT es L, last, 0, 0⟩ by unfold moveD; rw [if_pos hz])
    rw [HD.out]
    rw [hz] at HRg
    obtain ⟨a1, c1, hv1, hr1⟩ := h.rdI
    obtain ⟨a2, c2, hv2, hr2⟩ := h.rdR
    obtain ⟨N, hN⟩ : ∃ N, N = L.length := ⟨_, rfl⟩
    have HN := Lib.hid hN
    have hNl : N ≤ 256 := by rw [hN]; exact hT.len
    subst hv1 hv2
    have H := Lib.hid h
    rw [← hN] at H
    clear h hT hr ht hfar hz hr1 hr2 HD hN
    go_enter Try.func44, Try.ntmps44
    go_wp2_with fail
    refine HRg.out.mono ?_
    rintro e w1 ⟨rfl, hx1⟩
    have H1 := Lib.hid (H.out.ext hx1)
    clear HRg
    go_wp2_with fail
    go_loopw [6] (fun i wr => ∃ k : Nat, k ≤ N ∧ i = .int .i64 k ∧ Hid (RefAt wr B ub (.slice a1 N c1) (.slice a2 N c2) (moveTo es L k) last) ∧ Mod (fun j => (Value.slice a2 N c2).ownBlock = some j) w1 wr) (fun i _ => N - (intOf i).toNat)
    case atStart => exact ⟨0, by omega, rfl, H1, Mod.refl _ _⟩
    case round =>
      obtain ⟨k, hk, rfl, HTA, hmr⟩ := hrel
      by_cases hlt : k < N
      · have hlt' : (k : Int) < (N : Int) := by omega
        have hk0 : (0 : Int) ≤ (k : Int) := by omega
        have hmL : k < L.length := by rw [← HN.out]; exact hlt
        have hkL : L[k]? = some (L[k]'hmL) := List.getElem?_eq_getElem _
        have hst := moveTo_step es hkL
        have hhr := moveTo_here es HT.out.once (Nat.le_refl k) hkL
        have hbd := HT.out.bd _ (List.getElem_mem hmL)
        have hup := HT.out.up _ (List.getElem_mem hmL)
        have hon := moveTo_once es HT.out.once k
        have hlen := moveTo_len es L k
        have hids := moveTo_ids es L k
        have hzero : getR (moveTo es L k) 0 = none := by
          refine getR_none_of fun y hy => ?_
          have h1 : y.1 ∈ idsR (moveTo es L k) := List.mem_map.2 ⟨y, hy, rfl⟩
          rw [hids] at h1
          obtain ⟨z, hz, e⟩ := List.mem_map.1 h1
          have := HT.out.ids z hz
          omega
        have hsome : ∀ u, (getR L u).isSome = true → (getR (moveTo es L k) u).isSome = true := fun u hu => by
          rw [getR_isSome, hids, ← getR_isSome]; exact hu
        generalize L[k]'hmL = x at *
        obtain ⟨id, ra, rb, rp, rq, ru⟩ := x
        simp only at hst hbd hup
        generalize moveTo es L k = T at *
        have hmk : (T.map (·.2))[k]? = some ⟨ra, rb, rp, rq, ru⟩ := by rw [List.getElem?_map, hhr]; rfl
        have HM := Lib.hid (setR_map hon hhr (movedR es T ⟨ra, rb, rp, rq, ru⟩))
        obtain ⟨gb, gc, hg2⟩ := Enc.owns_some (E := rgE) HTA.out.rs (by omega)
        injection hg2 with e1 e2 e3
        subst e1
        subst e3
        have Hln := Lib.hid (show T.length = N by omega)
        have h3r := HTA.out.rs
        rw [Hln.out] at h3r
        obtain ⟨r0, r1, r2, r3, r4⟩ := reads_rg (Reads.own h3r) hmk
        simp only [Nat.zero_add] at r0 r1 r2 r3 r4
        have Hrs := Lib.hid h3r
        have hgl := (Enc.owns_block (E := rgE) h3r).2
        have d0 := HTA.out.blk.cell 0
        have d1 := HTA.out.blk.cell 1
        simp only [List.getElem?_toArray, List.getElem?_cons_zero, List.getElem?_cons_succ] at d0 d1
        have hlb := HTA.out.blk.lt
        have Hst := Lib.hid hst
        have Hmk := Lib.hid hmk
        have Hup := Lib.hid hup
        have Hbd := Lib.hid hbd
        have Hon := Lib.hid hon
        have Hz := Lib.hid hzero
        have Hsm := Lib.hid hsome
        have HMv := Lib.hid (fun (right : Bool) (o : Int) w' (h' : Ext wr w') (o0 : 0 ≤ o) (o1 : o ≤ 1000000000) => rfMove_any right o ao cap es w' (reads_mod0 (Hr.out.mod hx1 (fun _ _ f => f)) (hmr.trans h' (fun _ _ f => f.elim)) (fun hz a ha e => Hfar.out hz a ha (by
          have h4 := RefS.own H.out.rs (.inr (.inl rfl)) (Nat.le_refl _) _ e
          exact h4))) (by omega) Hok.out o0 o1)
        clear hst hhr hkL hup hlen hon hids hzero hsome hmk h3r e2
        go_upto_region 8 with fail
        obtain ⟨u, hu⟩ : ∃ u, u = wr.alloc (.cells #[.int .i64 ra, .int .i64 rb, .bool rp, .bool rq, .int .i64 ru] 33) := ⟨_, rfl⟩
        have hxu : Ext wr u := by rw [hu]; exact (Mod.refl _ wr).alloc _
        have hbu : Blk u wr.heap.size 33 #[.int .i64 ra, .int .i64 rb, .bool rp, .bool rq, .int .i64 ru] := by rw [hu]; exact Blk.new _ _ _
        rw [← hu]
        clear hu r0 r1 r2 r3 r4 d0 d1 hlb hgl
        have d0 := Blk.cell hbu 0
        have d1 := Blk.cell hbu 1
        have d2 := Blk.cell hbu 2
        have d3 := Blk.cell hbu 3
        have d4 := Blk.cell hbu 4
        simp only [List.getElem?_toArray, List.getElem?_cons_zero, List.getElem?_cons_succ] at d0 d1 d2 d3 d4
        have f0 := Blk.free hbu 0
        have f1 := Blk.free hbu 1
        have f2 := Blk.free hbu 2
        have f3 := Blk.free hbu 3
        have f4 := Blk.free hbu 4
        have hlt2 := Blk.lt hbu
        have HMa := Lib.hid (HMv.out rp ra u hxu (by omega) (by omega))
        generalize hP : moveE rp es ra = P at *
        have HP := Lib.hid hP
        clear hP
        go_wp2_with fail
        refine HMa.out.mono ?_
        rintro e u2 ⟨rfl, hxa⟩
        have hb2 := hbu.mod hxa (fun f => f)
        have hx2 := hxu.ext_trans hxa
        clear d0 d1 d2 d3 d4 f0 f1 f2 f3 f4 hlt2 HMa hbu hxu hxa
        have d0 := Blk.cell hb2 0
        have d1 := Blk.cell hb2 1
        have d2 := Blk.cell hb2 2
        have d3 := Blk.cell hb2 3
        have d4 := Blk.cell hb2 4
        simp only [List.getElem?_toArray, List.getElem?_cons_zero, List.getElem?_cons_succ] at d0 d1 d2 d3 d4
        have f0 := Blk.free hb2 0
        have f1 := Blk.free hb2 1
        have f2 := Blk.free hb2 2
        have f3 := Blk.free hb2 3
        have f4 := Blk.free hb2 4
        have hlt2 := Blk.lt hb2
        go_upto_region 9 with fail
        obtain ⟨u3, hu3⟩ : ∃ u3, u3 = u2.setCell ⟨wr.heap.size, 0, none⟩ (.int .i64 P) := ⟨_, rfl⟩
        have hx3 : Ext wr u3 := by rw [hu3]; exact hx2.setCell (p := ⟨wr.heap.size, 0, none⟩) (fun h => absurd h (Nat.lt_irrefl _)) _
        have hb3 : Blk u3 wr.heap.size 33 #[.int .i64 P, .int .i64 rb, .bool rp, .bool rq, .int .i64 ru] := by rw [hu3]; exact hb2.set 0 _
        rw [← hu3]
        clear d0 d1 d2 d3 d4 f0 f1 f2 f3 f4 hlt2 hu3 hb2 hx2
        have d0 := Blk.cell hb3 0
        have d1 := Blk.cell hb3 1
        have d2 := Blk.cell hb3 2
        have d3 := Blk.cell hb3 3
        have d4 := Blk.cell hb3 4
        simp only [List.getElem?_toArray, List.getElem?_cons_zero, List.getElem?_cons_succ] at d0 d1 d2 d3 d4
        have f0 := Blk.free hb3 0
        have f1 := Blk.free hb3 1
        have f2 := Blk.free hb3 2
        have f3 := Blk.free hb3 3
        have f4 := Blk.free hb3 4
        have hlt2 := Blk.lt hb3
        have HMb := Lib.hid (HMv.out rq rb u3 hx3 (by omega) (by omega))
        generalize hQ : moveE rq es rb = Q at *
        have HQ := Lib.hid hQ
        clear hQ HMv
        go_wp2_with fail
        refine HMb.out.mono ?_
        rintro e u4 ⟨rfl, hxb⟩
        have hb4 := hb3.mod hxb (fun f => f)
        have hx4 := hx3.ext_trans hxb
        clear d0 d1 d2 d3 d4 f0 f1 f2 f3 f4 hlt2 HMb hb3 hx3 hxb
        have d0 := Blk.cell hb4 0
        have d1 := Blk.cell hb4 1
        have d2 := Blk.cell hb4 2
        have d3 := Blk.cell hb4 3
        have d4 := Blk.cell hb4 4
        simp only [List.getElem?_toArray, List.getElem?_cons_zero, List.getElem?_cons_succ] at d0 d1 d2 d3 d4
        have f0 := Blk.free hb4 0
        have f1 := Blk.free hb4 1
        have f2 := Blk.free hb4 2
        have f3 := Blk.free hb4 3
        have f4 := Blk.free hb4 4
        have hlt2 := Blk.lt hb4
        go_upto_region 11 with fail
        obtain ⟨v, hv⟩ : ∃ v, v = ((u4.setCell ⟨wr.heap.size, 1, none⟩ (.int .i64 Q)).setCell ⟨wr.heap.size, 0, none⟩ (.int .i64 (min P Q))) := ⟨_, rfl⟩
        have hbv : Blk v wr.heap.size 33 #[.int .i64 (min P Q), .int .i64 Q, .bool rp, .bool rq, .int .i64 ru] := by rw [hv]; exact (hb4.set 1 _).set 0 _
        have hxv : Ext wr v := by rw [hv]; exact (hx4.setCell (p := ⟨wr.heap.size, 1, none⟩) (fun h => absurd h (Nat.lt_irrefl _)) _).setCell (p := ⟨wr.heap.size, 0, none⟩) (fun h => absurd h (Nat.lt_irrefl _)) _
        rw [← hv]
        clear hv d0 d1 d2 d3 d4 f0 f1 f2 f3 f4 hlt2 hb4 hx4
        by_cases hu : ru = 0
        · subst hu
          have HE := Lib.hid (show movedR es T ⟨ra, rb, rp, rq, 0⟩ = ⟨min P Q, Q, rp, rq, 0⟩ by
            unfold movedR
            rw [show getR T 0 = none from Hz.out]
            simp only [HP.out, HQ.out])
          obtain ⟨ru, hru⟩ : ∃ ru : Int, ru = 0 := ⟨_, rfl⟩
          have hu1 : (ru != 0) = false := by simpa using hru
          rw [← hru] at hbv HE Hmk Hst HM
          clear hru
          have hTV := HTA.out.ext hxv
          have d1' := hTV.blk.cell 1
          simp only [List.getElem?_toArray, List.getElem?_cons_zero, List.getElem?_cons_succ] at d1'
          have hlb := hTV.blk.lt
          have d0 := Blk.cell hbv 0
          have d1 := Blk.cell hbv 1
          have d2 := Blk.cell hbv 2
          have d3 := Blk.cell hbv 3
          have d4 := Blk.cell hbv 4
          simp only [List.getElem?_toArray, List.getElem?_cons_zero, List.getElem?_cons_succ] at d0 d1 d2 d3 d4
          have f0 := Blk.free hbv 0
          have f1 := Blk.free hbv 1
          have f2 := Blk.free hbv 2
          have f3 := Blk.free hbv 3
          have f4 := Blk.free hbv 4
          have hlt2 := Blk.lt hbv
          have h3v := ownsRow_mod Hrs.out (hxv) (fun _ _ f => f)
          have hgl := (Enc.owns_block (E := rgE) h3v).2
          go_upto_region 15 with fail
          refine wp_region_ext_tail 7 (by kernel_rfl) (by kernel_rfl) ?_
          simp only [List.take_succ_cons, List.take_zero, List.drop_succ_cons, List.drop_zero]
          repeat (go_big_quiet_step (fail))
          refine wpQuiet_nil ?_
          intro we hxe
          have hTE := hTV.ext hxe
          have h3e := ownsRow_mod h3v hxe (fun _ _ f => f)
          have hge := (Enc.owns_block (E := rgE) h3e).2
          obtain ⟨r0, r1, r2, r3, r4⟩ := reads_rg (Reads.own h3e) Hmk.out
          simp only [Nat.zero_add] at r0 r1 r2 r3 r4
          have g0 := Enc.owns_free (E := rgE) h3e (k * 5)
          have g1 := Enc.owns_free (E := rgE) h3e (k * 5 + 1)
          have g2 := Enc.owns_free (E := rgE) h3e (k * 5 + 2)
          have g3 := Enc.owns_free (E := rgE) h3e (k * 5 + 3)
          have g4 := Enc.owns_free (E := rgE) h3e (k * 5 + 4)
          have Hfin := Lib.hid (owns_put5 h3e Hmk.out ⟨min P Q, Q, rp, rq, ru⟩)
          have HTE := Lib.hid hTE
          have hxwe := (hxv).ext_trans hxe
          clear d0 d1 d2 d3 d4 f0 f1 f2 f3 f4 hlt2 d1' hlb hgl hTV h3v hTE h3e
          go_wp2_with fail
          go_roundw
          case rel =>
            have hm : Mod (· = gb) we (((((we.setCell ⟨gb, k * 5, none⟩ (.int .i64 (min P Q))).setCell ⟨gb, k * 5 + 1, none⟩ (.int .i64 (Q))).setCell ⟨gb, k * 5 + 2, none⟩ (.bool rp)).setCell ⟨gb, k * 5 + 3, none⟩ (.bool rq)).setCell ⟨gb, k * 5 + 4, none⟩ (.int .i64 ru)) := (((((Mod.refl (· = gb) we).setCell (fun _ => rfl) _).setCell (fun _ => rfl) _).setCell (fun _ => rfl) _).setCell (fun _ => rfl) _).setCell (fun _ => rfl) _
            have hMM : (moveTo es L (k + 1)).map (·.2) = (T.map (·.2)).set k ⟨min P Q, Q, rp, rq, ru⟩ := by rw [Hst.out, HM.out, HE.out]
            have hII : idsR (moveTo es L (k + 1)) = idsR T := by rw [Hst.out, setR_ids]
            have hLL : (moveTo es L (k + 1)).length = N := by rw [Hst.out, setR_len, Hln.out]
            refine ⟨k + 1, by omega, by go_num, Lib.hid ⟨HTE.out.blk.mod hm (fun e => own_type HTE.out.rs HTE.out.blk (by decide) gb rfl e.symm), HTE.out.base, ?_, ?_⟩, (hmr.then hxwe).trans hm (fun i _ e => by rw [e]; rfl)⟩
            · rw [hII, hLL]
              have h5 := HTE.out.is
              rw [Hln.out] at h5
              exact ownsRow_mod h5 hm (fun i hi e => own_apart h5 HTE.out.rs (by decide) i hi (by rw [e]; rfl))
            · rw [hMM, hLL]; exact Hfin.out
          case measure => simp [intOf]; omega
        · have hu1 : (ru != 0) = true := by simpa using hu
          obtain ⟨up, hgu⟩ := Option.isSome_iff_exists.1 (Hsm.out ru (Hup.out.resolve_left hu).2)
          obtain ⟨K, hK⟩ := getR_place hgu
          have hKl := (List.getElem?_eq_some_iff.1 hK).1
          have HAt := Lib.hid (fun w' (h' : Ext v w') => Calls.same_ext ((HTA.out.ext (hxv.ext_trans h')).whereAt (by rw [Hln.out]; exact hNl) (whereI_at Hon.out hK)))
          have hKm : (T.map (·.2))[K]? = some up := by rw [List.getElem?_map, hK]; rfl
          obtain ⟨ua, ub2, uc, ud, ue⟩ := up
          simp only at HAt
          have HE := Lib.hid (show movedR es T ⟨ra, rb, rp, rq, ru⟩ = ⟨min (max (min P Q) ua) ub2, min (max Q ua) ub2, rp, rq, ru⟩ by
            unfold movedR
            rw [show getR T ru = some ⟨ua, ub2, uc, ud, ue⟩ from hgu]
            simp only [HP.out, HQ.out, clampI])
          have HS := Lib.hid (fun w' (h' : Ext v w') => by
            have h3v := ownsRow_mod Hrs.out (hxv.ext_trans h') (fun _ _ f => f)
            obtain ⟨r0, r1, r2, r3, r4⟩ := reads_rg (Reads.own h3v) hKm
            simp only [Nat.zero_add] at r0 r1 r2 r3 r4
            exact (⟨(HTA.out.ext (hxv.ext_trans h')).blk.cell 1, (hbv.mod h' (fun f => f)).cell 4, r0, r1, r2, r3, r4⟩ :
              w'.cell? ⟨ub, 1, none⟩ = some (.slice (some ⟨gb, 0, none⟩) N c2) ∧ w'.cell? ⟨wr.heap.size, 4, none⟩ = some (.int .i64 ru) ∧ w'.cell? ⟨gb, K * 5, none⟩ = some (.int .i64 ua) ∧ w'.cell? ⟨gb, K * 5 + 1, none⟩ = some (.int .i64 ub2) ∧ w'.cell? ⟨gb, K * 5 + 2, none⟩ = some (.bool uc) ∧ w'.cell? ⟨gb, K * 5 + 3, none⟩ = some (.bool ud) ∧ w'.cell? ⟨gb, K * 5 + 4, none⟩ = some (.int .i64 ue)))
          have hKN : (K : Int) < (N : Int) := by have := Hln.out; omega
          have hK0 : (0 : Int) ≤ (K : Int) := by omega
          have d0 := Blk.cell hbv 0
          have d1 := Blk.cell hbv 1
          have d2 := Blk.cell hbv 2
          have d3 := Blk.cell hbv 3
          have d4 := Blk.cell hbv 4
          simp only [List.getElem?_toArray, List.getElem?_cons_zero, List.getElem?_cons_succ] at d0 d1 d2 d3 d4
          have f0 := Blk.free hbv 0
          have f1 := Blk.free hbv 1
          have f2 := Blk.free hbv 2
          have f3 := Blk.free hbv 3
          have f4 := Blk.free hbv 4
          have hlt2 := Blk.lt hbv
          clear hgu hK hKm hu
          go_upto_region 12 with fail
          clear d0 d1 d2 d3 d4 f0 f1 f2 f3 f4 hlt2 hu1
          refine wp_region_E (by kernel_rfl) ?_
          refine wpE_take 0 60 (v := ?_) rfl rfl (by kernel_rfl) (by kernel_rfl) (by kernel_rfl) (fun _ _ _ h => h) (by first | exact ext_draw _ | assumption) rfl ?_ ?_
          rotate_left
          · intro w' hw'
            refine qat_value ?_
            go_simp
            rfl
          simp only [Act.put, List.setIfInBounds_toArray, List.set_cons_zero, List.set_cons_succ]
          refine wpE_take 1 61 (v := ?_) rfl rfl (by kernel_rfl) (by kernel_rfl) (by kernel_rfl) (fun _ _ _ h => h) (by first | exact ext_draw _ | assumption) rfl ?_ ?_
          rotate_left
          · intro w' hw'
            refine qat_value ?_
            go_simp
            rfl
          simp only [Act.put, List.setIfInBounds_toArray, List.set_cons_zero, List.set_cons_succ]
          refine wpE_take 2 62 (v := ?_) rfl rfl (by kernel_rfl) (by kernel_rfl) (by kernel_rfl) (fun _ _ _ h => h) (by first | exact ext_draw _ | assumption) rfl ?_ ?_
          rotate_left
          · intro w' hw'
            refine qat_value ?_
            go_simp
            rfl
          simp only [Act.put, List.setIfInBounds_toArray, List.set_cons_zero, List.set_cons_succ]
          refine wpE_take 3 63 (v := ?_) rfl rfl (by kernel_rfl) (by kernel_rfl) (by kernel_rfl) (fun _ _ _ h => h) (by first | exact ext_draw _ | assumption) rfl ?_ ?_
          rotate_left
          · intro w' hw'
            obtain ⟨r0, r1, r2, r3, r4, r5, r6⟩ := HS.out w' hw'
            refine qat_value ?_
            go_simp
            rfl
          simp only [Act.put, List.setIfInBounds_toArray, List.set_cons_zero, List.set_cons_succ]
          refine wpE_take 4 64 (v := ?_) rfl rfl (by kernel_rfl) (by kernel_rfl) (by kernel_rfl) (fun _ _ _ h => h) (by first | exact ext_draw _ | assumption) rfl ?_ ?_
          rotate_left
          · intro w' hw'
            refine qat_value ?_
            go_simp
            rfl
          simp only [Act.put, List.setIfInBounds_toArray, List.set_cons_zero, List.set_cons_succ]
          refine wpE_take 5 65 (v := ?_) rfl rfl (by kernel_rfl) (by kernel_rfl) (by kernel_rfl) (fun _ _ _ h => h) (by first | exact ext_draw _ | assumption) rfl ?_ ?_
          rotate_left
          · intro w' hw'
            refine qat_value ?_
            go_simp
            rfl
          simp only [Act.put, List.setIfInBounds_toArray, List.set_cons_zero, List.set_cons_succ]
          refine wpE_take 6 66 (v := ?_) rfl rfl (by kernel_rfl) (by kernel_rfl) (by kernel_rfl) (fun _ _ _ h => h) (by first | exact ext_draw _ | assumption) rfl ?_ ?_
          rotate_left
          · intro w' hw'
            obtain ⟨r0, r1, r2, r3, r4, r5, r6⟩ := HS.out w' hw'
            refine qat_value ?_
            go_simp
            rfl
          simp only [Act.put, List.setIfInBounds_toArray, List.set_cons_zero, List.set_cons_succ]
          refine wpE_take 7 67 (v := ?_) rfl rfl (by kernel_rfl) (by kernel_rfl) (by kernel_rfl) (fun _ _ _ h => h) (by first | exact ext_draw _ | assumption) rfl ?_ ?_
          rotate_left
          · intro w' hw'
            refine qat_enter (by go_simp; exact ⟨rfl, rfl⟩) ?_
            exact HAt.out _ hw'
          simp only [Act.put, List.setIfInBounds_toArray, List.set_cons_zero, List.set_cons_succ]
          refine wpE_take 8 68 (v := ?_) rfl rfl (by kernel_rfl) (by kernel_rfl) (by kernel_rfl) (fun _ _ _ h => h) (by first | exact ext_draw _ | assumption) rfl ?_ ?_
          rotate_left
          · intro w' hw'
            refine qat_value ?_
            go_simp
            rfl
          simp only [Act.put, List.setIfInBounds_toArray, List.set_cons_zero, List.set_cons_succ]
          refine wpE_take 9 69 (v := ?_) rfl rfl (by kernel_rfl) (by kernel_rfl) (by kernel_rfl) (fun _ _ _ h => h) (by first | exact ext_draw _ | assumption) rfl ?_ ?_
          rotate_left
          · intro w' hw'
            obtain ⟨r0, r1, r2, r3, r4, r5, r6⟩ := HS.out w' hw'
            refine qat_value ?_
            go_simp
            rfl
          simp only [Act.put, List.setIfInBounds_toArray, List.set_cons_zero, List.set_cons_succ]
          refine wpE_boxT (x := #[.int .i64 ua, .int .i64 ub2, .bool uc, .bool ud, .int .i64 ue]) box_rg 10 11 8 69 rfl rfl ⟨rfl, rfl⟩ ⟨rfl, rfl⟩ ⟨rfl, rfl⟩ (by kernel_rfl) (by kernel_rfl) ⟨by simp, by decide⟩ rfl rfl (by intro u hu; simp at hu; rcases hu with rfl | rfl | rfl | rfl | rfl <;> rfl) (ext_draw _) ?_
          intro w22 pb hx22 hpb hbp
          simp only [Act.put, List.setIfInBounds_toArray, List.set_cons_zero, List.set_cons_succ]
          refine wpE_done (by kernel_rfl) (fun w6 hu6 => ?_) _
          have hx6 := hx22.ext_trans hu6
          have hbp6 := hbp.mod hu6 (fun f => f)
          have hxw6 := hxv.ext_trans hx6
          have hb6 := hbv.mod hx6 (fun f => f)
          have hne : pb ≠ wr.heap.size := by have := hbv.lt; omega
          clear HS hbp hpb hx22 hu6 hbv hxv hx6 HAt
          have d0 := Blk.cell hb6 0
          have d1 := Blk.cell hb6 1
          have d2 := Blk.cell hb6 2
          have d3 := Blk.cell hb6 3
          have d4 := Blk.cell hb6 4
          simp only [List.getElem?_toArray, List.getElem?_cons_zero, List.getElem?_cons_succ] at d0 d1 d2 d3 d4
          have f0 := Blk.free hb6 0
          have f1 := Blk.free hb6 1
          have f2 := Blk.free hb6 2
          have f3 := Blk.free hb6 3
          have f4 := Blk.free hb6 4
          have hlt2 := Blk.lt hb6
          have e0 : w6.cell? ⟨pb, 0, none⟩ = some (.int .i64 ua) := hbp6.cell 0
          have e1 : w6.cell? ⟨pb, 1, none⟩ = some (.int .i64 ub2) := hbp6.cell 1
          have hlt3 := hbp6.lt
          have hne2 : ¬ wr.heap.size = pb := fun e => hne e.symm
          go_upto_region 15 with fail
          obtain ⟨v9, hv⟩ : ∃ v, v = (w6.setCell ⟨wr.heap.size, 0, none⟩ (.int .i64 (min (max (min P Q) ua) ub2))).setCell ⟨wr.heap.size, 1, none⟩ (.int .i64 (min (max Q ua) ub2)) := ⟨_, rfl⟩
          have hb9 : Blk v9 wr.heap.size 33 #[.int .i64 (min (max (min P Q) ua) ub2), .int .i64 (min (max Q ua) ub2), .bool rp, .bool rq, .int .i64 ru] := by rw [hv]; exact (hb6.set 0 _).set 1 _
          have hx9 : Ext wr v9 := by rw [hv]; exact (hxw6.setCell (p := ⟨wr.heap.size, 0, none⟩) (fun h => absurd h (Nat.lt_irrefl _)) _).setCell (p := ⟨wr.heap.size, 1, none⟩) (fun h => absurd h (Nat.lt_irrefl _)) _
          rw [← hv]
          clear hv d0 d1 d2 d3 d4 f0 f1 f2 f3 f4 hlt2 e0 e1 hlt3 hb6 hbp6 hne hne2
          have hTV := HTA.out.ext hx9
          have d1' := hTV.blk.cell 1
          simp only [List.getElem?_toArray, List.getElem?_cons_zero, List.getElem?_cons_succ] at d1'
          have hlb := hTV.blk.lt
          have d0 := Blk.cell hb9 0
          have d1 := Blk.cell hb9 1
          have d2 := Blk.cell hb9 2
          have d3 := Blk.cell hb9 3
          have d4 := Blk.cell hb9 4
          simp only [List.getElem?_toArray, List.getElem?_cons_zero, List.getElem?_cons_succ] at d0 d1 d2 d3 d4
          have f0 := Blk.free hb9 0
          have f1 := Blk.free hb9 1
          have f2 := Blk.free hb9 2
          have f3 := Blk.free hb9 3
          have f4 := Blk.free hb9 4
          have hlt2 := Blk.lt hb9
          have h3v := ownsRow_mod Hrs.out (hx9) (fun _ _ f => f)
          have hgl := (Enc.owns_block (E := rgE) h3v).2
          go_upto_region 15 with fail
          refine wp_region_ext_tail 7 (by kernel_rfl) (by kernel_rfl) ?_
          simp only [List.take_succ_cons, List.take_zero, List.drop_succ_cons, List.drop_zero]
          repeat (go_big_quiet_step (fail))
          refine wpQuiet_nil ?_
          intro we hxe
          have hTE := hTV.ext hxe
          have h3e := ownsRow_mod h3v hxe (fun _ _ f => f)
          have hge := (Enc.owns_block (E := rgE) h3e).2
          obtain ⟨r0, r1, r2, r3, r4⟩ := reads_rg (Reads.own h3e) Hmk.out
          simp only [Nat.zero_add] at r0 r1 r2 r3 r4
          have g0 := Enc.owns_free (E := rgE) h3e (k * 5)
          have g1 := Enc.owns_free (E := rgE) h3e (k * 5 + 1)
          have g2 := Enc.owns_free (E := rgE) h3e (k * 5 + 2)
          have g3 := Enc.owns_free (E := rgE) h3e (k * 5 + 3)
          have g4 := Enc.owns_free (E := rgE) h3e (k * 5 + 4)
          have Hfin := Lib.hid (owns_put5 h3e Hmk.out ⟨min (max (min P Q) ua) ub2, min (max Q ua) ub2, rp, rq, ru⟩)
          have HTE := Lib.hid hTE
          have hxwe := (hx9).ext_trans hxe
          clear d0 d1 d2 d3 d4 f0 f1 f2 f3 f4 hlt2 d1' hlb hgl hTV h3v hTE h3e
          go_wp2_with fail
          go_roundw
          case rel =>
            have hm : Mod (· = gb) we (((((we.setCell ⟨gb, k * 5, none⟩ (.int .i64 (min (max (min P Q) ua) ub2))).setCell ⟨gb, k * 5 + 1, none⟩ (.int .i64 (min (max Q ua) ub2))).setCell ⟨gb, k * 5 + 2, none⟩ (.bool rp)).setCell ⟨gb, k * 5 + 3, none⟩ (.bool rq)).setCell ⟨gb, k * 5 + 4, none⟩ (.int .i64 ru)) := (((((Mod.refl (· = gb) we).setCell (fun _ => rfl) _).setCell (fun _ => rfl) _).setCell (fun _ => rfl) _).setCell (fun _ => rfl) _).setCell (fun _ => rfl) _
            have hMM : (moveTo es L (k + 1)).map (·.2) = (T.map (·.2)).set k ⟨min (max (min P Q) ua) ub2, min (max Q ua) ub2, rp, rq, ru⟩ := by rw [Hst.out, HM.out, HE.out]
            have hII : idsR (moveTo es L (k + 1)) = idsR T := by rw [Hst.out, setR_ids]
            have hLL : (moveTo es L (k + 1)).length = N := by rw [Hst.out, setR_len, Hln.out]
            refine ⟨k + 1, by omega, by go_num, Lib.hid ⟨HTE.out.blk.mod hm (fun e => own_type HTE.out.rs HTE.out.blk (by decide) gb rfl e.symm), HTE.out.base, ?_, ?_⟩, (hmr.then hxwe).trans hm (fun i _ e => by rw [e]; rfl)⟩
            · rw [hII, hLL]
              have h5 := HTE.out.is
              rw [Hln.out] at h5
              exact ownsRow_mod h5 hm (fun i hi e => own_apart h5 HTE.out.rs (by decide) i hi (by rw [e]; rfl))
            · rw [hMM, hLL]; exact Hfin.out
          case measure => simp [intOf]; omega
      · have hlt' : ¬ (k : Int) < (N : Int) := by omega
        obtain rfl : k = N := by omega
        have hfin := HTA.out
        rw [HN.out] at hfin
        have Hfin := Lib.hid (show RefAt wr B ub (.slice a1 L.length c1) (.slice a2 L.length c2) (moveT es L) last from hfin)
        have d0 := HTA.out.blk.cell 0
        simp only [List.getElem?_toArray, List.getElem?_cons_zero, List.getElem?_cons_succ] at d0
        have hlb := HTA.out.blk.lt
        clear hfin
        go_wp2_with fail
        go_ret
        exact ⟨rfl, rfl, ⟨_, _, Hfin.out⟩, RefS.trans hx1.any (refs_own H1.out.rs (.inr (.inl rfl)) (Nat.le_refl _) hmr)⟩
  · have HD := Lib.hid (show moveD L last es = ⟨L, last, 0, rangedE 65536 es⟩ by unfold moveD; rw [if_neg hz])
    rw [HD.out]
    have H := Lib.hid h
    generalize rangedE 65536 es = C at *
    have hz1 : (C != 0) = true := by simpa using hz
    clear h hT hr ht hfar hz HD
    go_enter Try.func44, Try.ntmps44
    go_wp2_with fail
    refine HRg.out.mono ?_
    rintro e w1 ⟨rfl, hx1⟩
    go_wp2_with fail
    go_ret
    exact ⟨rfl, rfl, ⟨v1, v2, H.out.ext hx1⟩, hx1.any⟩
end Go.Proofs.Ytffplppglicibaa

/- What the document says that a deed to a table answers. Conditions: a table that may be. -/
namespace Go.Proofs.Ytffplppglicibaa
open Go.RowKit Go.Gim

theorem own_notref {w : World} {B B' z n : Nat} {T : TypeId} {v : Value} {xs : List Value} (h : w.ownsRow B' T z v n xs) (hT : ¬ refT T) : ∀ k, v.ownBlock = some k → ¬ RefS B w k := by
  intro k hk
  rcases h.2 with ⟨hv, _⟩ | ⟨g, cap, cur, hv, _, hg, _⟩
  · rw [hv] at hk; cases hk
  · rw [hv] at hk
    cases hk
    rintro ⟨_, T', cs, fr, h2, h3⟩
    rw [hg] at h2
    cases h2
    exact hT h3

set_option maxHeartbeats 1600000 in
set_option maxRecDepth 1000000 in
theorem says_add (m : Int) (hm : m = 0 ∨ m = 1 ∨ m = 2) (x : Dm) (hk : ((lowN x.k 7 : Nat) : Int) = m) (B ub : Nat) (v1 v2 : Value) (L : Tb) (last Bd : Int) (w : World) (h : RefAt w B ub v1 v2 L last) (hB : B ≤ w.heap.size) (hT : Tok L last Bd) :
    Calls Try.prog 25 #[.pointer (some ⟨ub, 0, none⟩), dmV x] w (RnPost B ub (addD L last (ofR x)) w) := by
  have L4 := lowC x.k 7 7 rfl (by omega) (by omega)
  have HO := Lib.hid (fun w' => of7_any x w')
  have HA := Lib.hid (fun w' (h' : Ext w w') => radd_any B ub v1 v2 L last Bd (ofR x) w' (h.ext h') (Nat.le_trans hB h'.size) hT)
  unfold RnPost at HA
  generalize addD L last (ofR x) = d at *
  generalize ofR x = R at *
  clear h hT
  rw [hk] at L4
  have HL := Lib.hid L4
  obtain ⟨u, hu⟩ : ∃ u, u = w.alloc (.cells #[.int .i64 x.k, .int .i64 x.a, .int .i64 x.b, .int .i64 x.c, .bool x.p, .bool x.q, .slice x.ao x.es.length x.cap] 54) := ⟨_, rfl⟩
  have hxu : Ext w u := by rw [hu]; exact (Mod.refl _ w).alloc _
  have hbd : Blk u w.heap.size 54 #[.int .i64 x.k, .int .i64 x.a, .int .i64 x.b, .int .i64 x.c, .bool x.p, .bool x.q, .slice x.ao x.es.length x.cap] := by rw [hu]; exact Blk.new w _ _
  unfold RnPost dmV
  clear L4 hk
  go_enter Try.func25, Try.ntmps25
  go_upto_region 1 with fail
  rw [← hu]
  clear hu
  have c0 := hbd.cell 0
  have c1 := hbd.cell 1
  have c2 := hbd.cell 2
  have c3 := hbd.cell 3
  have c4 := hbd.cell 4
  have c5 := hbd.cell 5
  have c6 := hbd.cell 6
  simp only [List.getElem?_toArray, List.getElem?_cons_zero, List.getElem?_cons_succ] at c0 c1 c2 c3 c4 c5 c6
  have hltd := hbd.lt
  go_wp2_with fail
  refine (HL.out _).mono ?_
  rintro e v0 ⟨rfl, rfl⟩
  rcases hm with rfl | rfl | rfl
  all_goals
    go_wp2_with fail
    refine (HO.out _).mono ?_
    rintro e v1 ⟨rfl, hx1⟩
    have hx2 := hxu.ext_trans hx1
    have HA2 := Lib.hid (HA.out _ hx2)
    clear c0 c1 c2 c3 c4 c5 c6 hltd HO HA
    go_wp2_with fail
    refine HA2.out.mono ?_
    rintro e v2 ⟨rfl, h2, hm2⟩
    have H2 := Lib.hid h2
    have Hm := Lib.hid (RefS.trans (Mod.any (S := RefS B w) hx2) hm2)
    clear h2 hm2
    go_wp2_with fail
    go_ret2
    exact ⟨rfl, H2.out, Hm.out⟩

set_option maxHeartbeats 1600000 in
set_option maxRecDepth 1000000 in
theorem says_pose (x : Dm) (hk : ((lowN x.k 7 : Nat) : Int) = 3) (B ub : Nat) (v1 v2 : Value) (L : Tb) (last Bd : Int) (w : World) (h : RefAt w B ub v1 v2 L last) (hT : Tok L last Bd) :
    Calls Try.prog 25 #[.pointer (some ⟨ub, 0, none⟩), dmV x] w (RnPost B ub (poseD L last (lowN x.a 8 : Nat) x.p x.q) w) := by
  have L4 := lowC x.k 7 7 rfl (by omega) (by omega)
  have L8 := Lib.hid (lowC x.a 8 8 rfl (by omega) (by omega))
  have HP' := Lib.hid (fun w' (h' : Ext w w') => rpose_any B ub v1 v2 L last Bd (lowN x.a 8 : Nat) x.p x.q w' (h.ext h') hT)
  unfold RcPost at HP'
  generalize poseD L last (lowN x.a 8 : Nat) x.p x.q = d at *
  generalize lowN x.a 8 = id at *
  clear h hT
  rw [hk] at L4
  have HL := Lib.hid L4
  obtain ⟨u, hu⟩ : ∃ u, u = w.alloc (.cells #[.int .i64 x.k, .int .i64 x.a, .int .i64 x.b, .int .i64 x.c, .bool x.p, .bool x.q, .slice x.ao x.es.length x.cap] 54) := ⟨_, rfl⟩
  have hxu : Ext w u := by rw [hu]; exact (Mod.refl _ w).alloc _
  have hbd : Blk u w.heap.size 54 #[.int .i64 x.k, .int .i64 x.a, .int .i64 x.b, .int .i64 x.c, .bool x.p, .bool x.q, .slice x.ao x.es.length x.cap] := by rw [hu]; exact Blk.new w _ _
  unfold RnPost dmV
  clear L4 hk
  go_enter Try.func25, Try.ntmps25
  go_upto_region 1 with fail
  rw [← hu]
  clear hu
  have c0 := hbd.cell 0
  have c1 := hbd.cell 1
  have c2 := hbd.cell 2
  have c3 := hbd.cell 3
  have c4 := hbd.cell 4
  have c5 := hbd.cell 5
  have c6 := hbd.cell 6
  simp only [List.getElem?_toArray, List.getElem?_cons_zero, List.getElem?_cons_succ] at c0 c1 c2 c3 c4 c5 c6
  have hltd := hbd.lt
  go_wp2_with fail
  refine (HL.out _).mono ?_
  rintro e v0 ⟨rfl, rfl⟩
  go_upto_region 7 with fail
  refine wp_region_ext_tail 8 (by kernel_rfl) (by kernel_rfl) ?_
  simp only [List.take_succ_cons, List.take_zero, List.drop_succ_cons, List.drop_zero]
  repeat (go_big_quiet_step (exact Calls.ext_of_same (L8.out _)))
  refine wpQuiet_nil ?_
  intro we hxe
  have hx2 := hxu.ext_trans hxe
  have HA2 := Lib.hid (HP'.out _ hx2)
  clear c0 c1 c2 c3 c4 c5 c6 hltd HP' L8
  go_wp2_with fail
  refine HA2.out.mono ?_
  rintro e v2 ⟨rfl, hn, h2, hm2⟩
  have H2 := Lib.hid h2
  have Hn := Lib.hid hn
  have Hm := Lib.hid (RefS.trans (Mod.any (S := RefS B w) (hx2)) hm2)
  clear h2 hm2 hn
  go_wp2_with fail
  go_ret2
  exact ⟨by rw [Hn.out]; rfl, H2.out, Hm.out⟩

set_option maxHeartbeats 1600000 in
set_option maxRecDepth 1000000 in
theorem says_drop (x : Dm) (hk : ((lowN x.k 7 : Nat) : Int) = 4) (B ub : Nat) (v1 v2 : Value) (L : Tb) (last Bd : Int) (w : World) (h : RefAt w B ub v1 v2 L last) (hB : B ≤ w.heap.size) (hT : Tok L last Bd) :
    Calls Try.prog 25 #[.pointer (some ⟨ub, 0, none⟩), dmV x] w (RnPost B ub (dropD L last (lowN x.a 10 : Nat)) w) := by
  have L4 := lowC x.k 7 7 rfl (by omega) (by omega)
  have L8 := Lib.hid (lowC x.a 10 10 rfl (by omega) (by omega))
  have HP' := Lib.hid (fun w' (h' : Ext w w') => rdrop_any B ub v1 v2 L last Bd (lowN x.a 10 : Nat) w' (h.ext h') (Nat.le_trans hB h'.size) hT)
  unfold RcPost at HP'
  generalize dropD L last (lowN x.a 10 : Nat) = d at *
  generalize lowN x.a 10 = id at *
  clear h hT
  rw [hk] at L4
  have HL := Lib.hid L4
  obtain ⟨u, hu⟩ : ∃ u, u = w.alloc (.cells #[.int .i64 x.k, .int .i64 x.a, .int .i64 x.b, .int .i64 x.c, .bool x.p, .bool x.q, .slice x.ao x.es.length x.cap] 54) := ⟨_, rfl⟩
  have hxu : Ext w u := by rw [hu]; exact (Mod.refl _ w).alloc _
  have hbd : Blk u w.heap.size 54 #[.int .i64 x.k, .int .i64 x.a, .int .i64 x.b, .int .i64 x.c, .bool x.p, .bool x.q, .slice x.ao x.es.length x.cap] := by rw [hu]; exact Blk.new w _ _
  unfold RnPost dmV
  clear L4 hk
  go_enter Try.func25, Try.ntmps25
  go_upto_region 1 with fail
  rw [← hu]
  clear hu
  have c0 := hbd.cell 0
  have c1 := hbd.cell 1
  have c2 := hbd.cell 2
  have c3 := hbd.cell 3
  have c4 := hbd.cell 4
  have c5 := hbd.cell 5
  have c6 := hbd.cell 6
  simp only [List.getElem?_toArray, List.getElem?_cons_zero, List.getElem?_cons_succ] at c0 c1 c2 c3 c4 c5 c6
  have hltd := hbd.lt
  go_wp2_with fail
  refine (HL.out _).mono ?_
  rintro e v0 ⟨rfl, rfl⟩
  go_wp2_with fail
  refine (L8.out _).mono ?_
  rintro e v1 ⟨rfl, rfl⟩
  have HA2 := Lib.hid (HP'.out _ hxu)
  clear c0 c1 c2 c3 c4 c5 c6 hltd HP' L8
  go_wp2_with fail
  refine HA2.out.mono ?_
  rintro e v2 ⟨rfl, hn, h2, hm2⟩
  have H2 := Lib.hid h2
  have Hn := Lib.hid hn
  have Hm := Lib.hid (RefS.trans (Mod.any (S := RefS B w) (hxu)) hm2)
  clear h2 hm2 hn
  go_wp2_with fail
  go_ret2
  exact ⟨by rw [Hn.out]; rfl, H2.out, Hm.out⟩

set_option maxHeartbeats 1600000 in
set_option maxRecDepth 1000000 in
theorem says_moveB (x : Dm) (hk : ((lowN x.k 7 : Nat) : Int) = 6) (B ub : Nat) (v1 v2 : Value) (L : Tb) (last Bd : Int) (w : World) (h : RefAt w B ub v1 v2 L last) (hB : B ≤ w.heap.size) (hT : Tok L last Bd) (hBd : 65536 ≤ Bd) (hBd2 : Bd ≤ 900000000)
    (hr : Reads w 3 x.ao x.es.length (edE.cells x.es)) (hn : x.es.length ≤ 19) (ht : ∀ e ∈ x.es, e.t.size ≤ 100000) (hfar : 0 < x.es.length → ∀ a, x.ao = some a → a.block < B) :
    Calls Try.prog 25 #[.pointer (some ⟨ub, 0, none⟩), dmV x] w (RnPost B ub (moveD L last x.es) w) := by
  have L4 := lowC x.k 7 7 rfl (by omega) (by omega)
  have HP' := Lib.hid (fun w' (hx : Ext w w') => rmove_any B ub v1 v2 L last Bd x.es x.ao x.cap w' (h.ext hx) (Nat.le_trans hB hx.size) hT hBd hBd2 (hr.mod hx (fun _ _ f => f)) hn ht (fun hz a ha e => by have := hfar hz a ha; have := e.1; omega))
  unfold RcPost at HP'
  generalize moveD L last x.es = d at *
  clear h hT hr hn ht hfar
  rw [hk] at L4
  have HL := Lib.hid L4
  obtain ⟨u, hu⟩ : ∃ u, u = w.alloc (.cells #[.int .i64 x.k, .int .i64 x.a, .int .i64 x.b, .int .i64 x.c, .bool x.p, .bool x.q, .slice x.ao x.es.length x.cap] 54) := ⟨_, rfl⟩
  have hxu : Ext w u := by rw [hu]; exact (Mod.refl _ w).alloc _
  have hbd : Blk u w.heap.size 54 #[.int .i64 x.k, .int .i64 x.a, .int .i64 x.b, .int .i64 x.c, .bool x.p, .bool x.q, .slice x.ao x.es.length x.cap] := by rw [hu]; exact Blk.new w _ _
  unfold RnPost dmV
  clear L4 hk
  go_enter Try.func25, Try.ntmps25
  go_upto_region 1 with fail
  rw [← hu]
  clear hu
  have c0 := hbd.cell 0
  have c1 := hbd.cell 1
  have c2 := hbd.cell 2
  have c3 := hbd.cell 3
  have c4 := hbd.cell 4
  have c5 := hbd.cell 5
  have c6 := hbd.cell 6
  simp only [List.getElem?_toArray, List.getElem?_cons_zero, List.getElem?_cons_succ] at c0 c1 c2 c3 c4 c5 c6
  have hltd := hbd.lt
  go_wp2_with fail
  refine (HL.out _).mono ?_
  rintro e v0 ⟨rfl, rfl⟩
  have HA2 := Lib.hid (HP'.out _ hxu)
  clear HP'
  go_wp2_with fail
  refine HA2.out.mono ?_
  rintro e v2 ⟨rfl, hn, h2, hm2⟩
  have H2 := Lib.hid h2
  have Hn := Lib.hid hn
  have Hm := Lib.hid (RefS.trans (Mod.any (S := RefS B w) (hxu)) hm2)
  clear h2 hm2 hn
  go_wp2_with fail
  go_ret2
  exact ⟨by rw [Hn.out]; rfl, H2.out, Hm.out⟩

set_option maxHeartbeats 1600000 in
set_option maxRecDepth 1000000 in
theorem says_moveA (x : Dm) (hk : ((lowN x.k 7 : Nat) : Int) = 5) (B ub : Nat) (v1 v2 : Value) (L : Tb) (last Bd : Int) (w : World) (h : RefAt w B ub v1 v2 L last) (hB : B ≤ w.heap.size) (hT : Tok L last Bd) (hBd : 65536 ≤ Bd) (hBd2 : Bd ≤ 900000000)
    (hr : Reads w 3 x.ao x.es.length (edE.cells x.es)) (hn : x.es.length ≤ 19) (ht : ∀ e ∈ x.es, e.t.size ≤ 100000) :
    Calls Try.prog 25 #[.pointer (some ⟨ub, 0, none⟩), dmV x] w (RnPost B ub (moveD L last (editsL x.es)) w) := by
  have L4 := lowC x.k 7 7 rfl (by omega) (by omega)
  have HE := Lib.hid (fun w' (hx : Ext w w') => edits7_any x.ao x.cap x.es w' (hr.mod hx (fun _ _ f => f)) (by omega))
  have HP' := Lib.hid (fun w1 w2 (ao : Option Addr) (cap : Nat) (hx : Ext w w1) (hx2 : Ext w1 w2) (v : Value) (hv : v = .slice ao (editsL x.es).length cap) (ho : w2.ownsRow w1.heap.size 37 3 v (editsL x.es).length (edE.cells (editsL x.es))) =>
    rmove_any B ub v1 v2 L last Bd (editsL x.es) ao cap w2 (h.ext (hx.ext_trans hx2)) (Nat.le_trans hB (hx.ext_trans hx2).size) hT hBd hBd2 (by subst hv; exact Reads.own ho) (by rw [editsL_len]; exact hn) (fun e he => by
      obtain ⟨e0, h0, rfl⟩ := List.mem_map.1 he
      exact ht e0 h0) (fun _ a ha => own_notref ho (by unfold refT; decide) _ (by subst hv; rw [ha]; rfl)))
  unfold Enc.Out at HE
  unfold RcPost at HP'
  generalize moveD L last (editsL x.es) = d at *
  generalize editsL x.es = E at *
  clear h hT hr hn ht
  rw [hk] at L4
  have HL := Lib.hid L4
  obtain ⟨u, hu⟩ : ∃ u, u = w.alloc (.cells #[.int .i64 x.k, .int .i64 x.a, .int .i64 x.b, .int .i64 x.c, .bool x.p, .bool x.q, .slice x.ao x.es.length x.cap] 54) := ⟨_, rfl⟩
  have hxu : Ext w u := by rw [hu]; exact (Mod.refl _ w).alloc _
  have hbd : Blk u w.heap.size 54 #[.int .i64 x.k, .int .i64 x.a, .int .i64 x.b, .int .i64 x.c, .bool x.p, .bool x.q, .slice x.ao x.es.length x.cap] := by rw [hu]; exact Blk.new w _ _
  unfold RnPost dmV
  clear L4 hk
  go_enter Try.func25, Try.ntmps25
  go_upto_region 1 with fail
  rw [← hu]
  clear hu
  have c0 := hbd.cell 0
  have c1 := hbd.cell 1
  have c2 := hbd.cell 2
  have c3 := hbd.cell 3
  have c4 := hbd.cell 4
  have c5 := hbd.cell 5
  have c6 := hbd.cell 6
  simp only [List.getElem?_toArray, List.getElem?_cons_zero, List.getElem?_cons_succ] at c0 c1 c2 c3 c4 c5 c6
  have hltd := hbd.lt
  go_wp2_with fail
  refine (HL.out _).mono ?_
  rintro e v0 ⟨rfl, rfl⟩
  have HE2 := Lib.hid (HE.out _ hxu)
  clear HE
  go_wp2_with fail
  refine HE2.out.mono ?_
  rintro e v1 ⟨v, rfl, ho, hx1⟩
  obtain ⟨ao, c, rfl, _⟩ := Enc.owns_reads (E := edE) ho
  have HA2 := Lib.hid (HP'.out _ _ ao c hxu hx1 _ rfl ho)
  have hx2 := hxu.ext_trans hx1
  clear HP' HE2 ho c0 c1 c2 c3 c4 c5 c6 hltd hx1
  go_wp2_with fail
  refine HA2.out.mono ?_
  rintro e v2 ⟨rfl, hn, h2, hm2⟩
  have H2 := Lib.hid h2
  have Hn := Lib.hid hn
  have Hm := Lib.hid (RefS.trans (Mod.any (S := RefS B w) (hx2)) hm2)
  clear h2 hm2 hn
  go_wp2_with fail
  go_ret2
  exact ⟨by rw [Hn.out]; rfl, H2.out, Hm.out⟩

theorem says_any (x : Dm) (ub : Nat) (v1 v2 : Value) (L : Tb) (last Bd : Int) (w0 w : World) (h : RefAt w w0.heap.size ub v1 v2 L last) (hT : Tok L last Bd) (hB : 65536 ≤ Bd) (hB2 : Bd ≤ 900000000) (hx : DmOk w0 x) (hw : Ext w0 w) (hn : x.es.length ≤ 8) (ht : ∀ e ∈ x.es, e.t.size ≤ 60) :
    Calls Try.prog 25 #[.pointer (some ⟨ub, 0, none⟩), dmV x] w (RnPost w0.heap.size ub (doesD x L last) w) := by
  have hr := hx.rd.mod hw (fun _ _ f => f)
  have ht2 : ∀ e ∈ x.es, e.t.size ≤ 100000 := fun e he => by have := ht e he; omega
  have hb := lowN_lt x.k 7 (by omega)
  have hsz := hw.size
  unfold doesD
  split
  · rename_i hk
    exact says_add (lowN x.k 7 : Nat) (by omega) x rfl _ ub v1 v2 L last Bd w h hsz hT
  · split
    · rename_i hk
      exact says_pose x (by rw [hk]; rfl) _ ub v1 v2 L last Bd w h hT
    · split
      · rename_i hk
        exact says_drop x (by rw [hk]; rfl) _ ub v1 v2 L last Bd w h hsz hT
      · split
        · rename_i hk
          exact says_moveA x (by rw [hk]; rfl) _ ub v1 v2 L last Bd w h hsz hT hB hB2 hr (by omega) ht2
        · refine says_moveB x (by omega) _ ub v1 v2 L last Bd w h hsz hT hB hB2 hr (by omega) ht2 (fun hz a ha => ?_)
          obtain ⟨b, off, e, hc⟩ := hx.rd.2 hz
          rw [e] at ha
          cases ha
          have hl : 0 < (edE.cells x.es).length := by rw [edE.cells_len]; show 0 < x.es.length * 3; omega
          have h0 := hc 0 hl
          rw [List.getElem?_eq_getElem hl] at h0
          exact World.block_lt_of_cell? w0 _ h0
end Go.Proofs.Ytffplppglicibaa

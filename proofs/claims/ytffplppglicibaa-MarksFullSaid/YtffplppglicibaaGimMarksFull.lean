/- MaxMarks ranges are let, one more is not; where one was dropped one more comes, by a number of its own; two tables go on apart: the walk. Conditions: none. -/
import Derived.Test.YtffplppglicibaaGimAwake7
import Derived.Test.YtffplppglicibaaGimLow
import Derived.Test.YtffplppglicibaaGimTwin
import Derived.Test.YtffplppglicibaaGimDrop
namespace Go.Gim
/-- The table of k ranges, each one byte on. -/
def fullT (k : Nat) : Tb := (List.range k).map fun (i : Nat) => ((i : Int) + 1, ⟨(i : Int), (i : Int) + 1, false, false, 0⟩)
theorem fullT_len (k : Nat) : (fullT k).length = k := by simp [fullT]
theorem fullT_succ (k : Nat) : fullT (k + 1) = fullT k ++ [((k : Int) + 1, ⟨(k : Int), (k : Int) + 1, false, false, 0⟩)] := by
  unfold fullT; rw [List.range_succ, List.map_append]; rfl
theorem fullT_u (k : Nat) : ∀ x ∈ fullT k, x.2.u = 0 := by
  intro x hx
  obtain ⟨i, _, rfl⟩ := List.mem_map.1 hx
  rfl
theorem fullT_mem {k i : Nat} (h : i < k) : ((i : Int) + 1, (⟨(i : Int), (i : Int) + 1, false, false, 0⟩ : Rg)) ∈ fullT k := List.mem_map.2 ⟨i, List.mem_range.2 h, rfl⟩
theorem fullT_add {k : Nat} (h : k < 256) : addE (fullT k) ⟨(k : Int), (k : Int) + 1, false, false, 0⟩ = 0 := by
  rw [addE_top (by unfold mayS; exact decide_eq_true ⟨by simp only; omega, by simp only; omega, by simp only; omega⟩) rfl, fullT_len, if_neg (by omega)]
theorem fullT_tok (k : Nat) (h : k ≤ 256) : Tok (fullT k) k 65536 := by
  induction k with
  | zero => exact Tok.nil.mono (by omega)
  | succ k ih =>
    have := (ih (by omega)).add (fullT_add (k := k) (by omega)) (by omega) (by omega)
    have e : ((k + 1 : Nat) : Int) = (k : Int) + 1 := by omega
    rw [e, fullT_succ]
    exact this
theorem addE_three {L : Tb} : addE L ⟨3, 3, false, false, 0⟩ = if 256 ≤ L.length then 7 else 0 := addE_top rfl rfl
theorem keepT_free (id : Int) : ∀ (t K : Tb), (∀ x ∈ t, x.2.u = 0) → keepT id K t = K ++ delR t id := by
  intro t
  induction t with
  | nil => intro K _; simp [keepT, delR]
  | cons x t ih =>
    intro K h
    have h0 := h x List.mem_cons_self
    have h1 := fun y hy => h y (List.mem_cons_of_mem _ hy)
    unfold keepT
    by_cases e : x.1 = id
    · rw [if_pos (.inl e), ih K h1]
      unfold delR
      rw [List.filter_cons_of_neg (by simp [e])]
    · rw [if_neg (by rintro (h | ⟨h, _⟩); exact e h; exact h h0), ih _ h1]
      unfold delR
      rw [List.filter_cons_of_pos (by simp [e]), List.append_assoc]; rfl
theorem dropT_free {L : Tb} (id : Int) (h : ∀ x ∈ L, x.2.u = 0) : dropT L id = delR L id := by
  unfold dropT
  rw [keepT_free id L [] h, List.nil_append]
theorem delR_less {L : Tb} (ho : Once L) {id : Int} (h : (getR L id).isSome = true) : (delR L id).length + 1 = L.length := by
  induction L with
  | nil => simp [getR] at h
  | cons x t ih =>
    obtain ⟨h1, h2⟩ := List.pairwise_cons.1 ho
    rw [getR_cons] at h
    by_cases e : x.1 = id
    · have : delR (x :: t) id = t := by
        unfold delR
        rw [List.filter_cons_of_neg (by simp [e])]
        exact List.filter_eq_self.2 (fun y hy => by have := h1 y hy; simp; intro h; exact this (by rw [e, h]))
      rw [this, List.length_cons]
    · rw [if_neg e] at h
      have : delR (x :: t) id = x :: delR t id := by unfold delR; rw [List.filter_cons_of_pos (by simp [e])]
      rw [this, List.length_cons, List.length_cons, ih h2 h]
end Go.Gim
namespace Go.Proofs.Ytffplppglicibaa
open Go.RowKit Go.Gim

set_option maxHeartbeats 3200000 in
set_option maxRecDepth 1000000 in
theorem marksFull_calls (w : World) (x0 : Int) (_ : (Lit.int .i64 x0).wf = true) :
    Calls Try.prog 6 #[.int .i64 x0] w fun e w' => e = .returned (.bool true) ∧ Ext w w' := by
  obtain ⟨g, hg, L1⟩ := low_nat2 x0 256 256 rfl (by omega) (by omega)
  have HL1 := Lib.hid L1
  have Hg := Lib.hid hg
  clear L1 hg
  go_enter Try.func6, Try.ntmps6
  go_wp2_with fail
  refine (tnew_any w).mono ?_
  rintro e w1 ⟨tb, mb, rfl, h1, l1, l2, hx1⟩
  have H1 := Lib.hid h1
  have L1 := Lib.hid l1
  have L2 := Lib.hid l2
  have lt1 := h1.blk.lt
  have lm1 := h1.map.lt
  clear h1 l1 l2
  go_wp2_with fail
  go_loopw [4] (fun i wr => ∃ k : Nat, k ≤ 256 ∧ i = .int .i64 k ∧ Hid (TabAt wr tb mb (fullT k) k) ∧ Ext w wr) (fun i _ => 256 - (intOf i).toNat)
  case atStart => exact ⟨0, by omega, rfl, H1, hx1⟩
  case round =>
    obtain ⟨k, hk, rfl, HT, hxr⟩ := hrel
    clear H1 hx1 lt1 lm1
    have hlt := HT.out.blk.lt
    have hlm := HT.out.map.lt
    have l1 := L1.out
    have l2 := L2.out
    by_cases hk2 : k < 256
    · have k2 : (k : Int) < 256 := by omega
      have HA := Lib.hid (tadd_any tb mb (fullT k) k ⟨k, (k : Int) + 1, false, false, 0⟩ wr HT.out (by rw [fullT_len]; omega) (fullT_tok k (by omega)).next (by omega) (by omega) (show (Lit.int .i64 0).wf = true by decide))
      have H0 := Lib.hid (fullT_add hk2)
      go_wp2_with fail
      refine HA.out.mono ?_
      rintro e w2 hp2
      rcases hp2 with ⟨_, rfl, h2, hm2⟩ | ⟨hne, _⟩
      · have H2 := Lib.hid (show TabAt w2 tb mb (fullT (k + 1)) ((k + 1 : Nat) : Int) by rw [show ((k + 1 : Nat) : Int) = (k : Int) + 1 by omega, fullT_succ]; exact h2)
        have hx2 : Ext w w2 := hxr.trans hm2 (fun i hi e => by unfold tabS at e; omega)
        clear HA HT h2 hm2
        go_wp2_with fail
        go_roundw
        case rel => exact ⟨k + 1, by omega, by go_num, H2, hx2⟩
        case measure => simp [intOf]; omega
      · exact absurd H0.out hne
    · obtain rfl : k = 256 := by omega
      go_wp2_with fail
      refine (ttwin_any tb mb (fullT 256) 256 wr HT.out).mono ?_
      rintro e w3 ⟨t2, m2, rfl, h3, l3, l4, hx3⟩
      have HT3 := Lib.hid (HT.out.ext hx3)
      have H3 := Lib.hid h3
      have hxa := hxr.ext_trans hx3
      have n1 : t2 ≠ tb := by omega
      have n2 : t2 ≠ mb := by omega
      have n3 : m2 ≠ tb := by omega
      have n4 : m2 ≠ mb := by omega
      have l5 : w.heap.size ≤ t2 := by have := hxr.size; omega
      have l6 : w.heap.size ≤ m2 := by have := hxr.size; omega
      clear HT h3 hxr hx3 l3 l4
      have hlt3 := HT3.out.blk.lt
      have hlm3 := HT3.out.map.lt
      have hlt4 := H3.out.blk.lt
      have hlm4 := H3.out.map.lt
      go_wp2_with fail
      obtain ⟨w4, hw4⟩ : ∃ w4, w4 = w3.alloc (.cells #[.int .i64 3, .int .i64 3, .bool false, .bool false, .int .i64 0] 33) := ⟨_, rfl⟩
      have hx4 : Ext w3 w4 := by rw [hw4]; exact (Mod.refl _ w3).alloc _
      have hb4 : Blk w4 w3.heap.size 33 #[.int .i64 3, .int .i64 3, .bool false, .bool false, .int .i64 0] := by rw [hw4]; exact Blk.new _ _ _
      rw [← hw4]
      clear hw4
      have HT4 := Lib.hid (HT3.out.ext hx4)
      have H4 := Lib.hid (H3.out.ext hx4)
      have hxb := hxa.ext_trans hx4
      have HF := Lib.hid (fullT_tok 256 (by omega))
      have H7 := Lib.hid (show addE (fullT 256) ⟨3, 3, false, false, 0⟩ = 7 by rw [addE_three, if_pos (by rw [fullT_len]; omega)])
      have l7 : w.heap.size ≤ w3.heap.size := hxa.size
      have n5 : tb ≠ w3.heap.size := by omega
      have n6 : mb ≠ w3.heap.size := by omega
      have n7 : t2 ≠ w3.heap.size := by omega
      have n8 : m2 ≠ w3.heap.size := by omega
      clear HT3 H3 hx4 hlt3 hlm3 hlt4 hlm4
      refine (tadd_any tb mb (fullT 256) 256 ⟨3, 3, false, false, 0⟩ w4 HT4.out (by rw [fullT_len]; omega) HF.out.next (by omega) (by omega) (show (Lit.int .i64 0).wf = true by decide)).mono ?_
      rintro e w5 hp5
      rcases hp5 with ⟨h0, _⟩ | ⟨_, rfl, hx5⟩
      · exact absurd (H7.out.symm.trans h0) (by decide)
      rw [H7.out]
      have HT5 := Lib.hid (HT4.out.ext hx5)
      have H5 := Lib.hid (H4.out.ext hx5)
      have hb5 := Lib.hid (hb4.mod hx5 (fun f => f))
      have hxc := hxb.ext_trans hx5
      have hgo : (getR (fullT 256) ((g : Int) + 1)) = some ⟨g, (g : Int) + 1, false, false, 0⟩ := getR_of_mem HF.out.once (fullT_mem Hg.out)
      have Hgo := Lib.hid hgo
      have hg1 : (1 : Int) + (g : Int) = ((g + 1 : Nat) : Int) := by omega
      have hg2 : ((g + 1 : Nat) : Int) = (g : Int) + 1 := by omega
      have Hg1 := Lib.hid hg1
      have Hg2 := Lib.hid hg2
      clear HT4 H4 hb4 hx5 hxb hgo hg1 hg2
      go_wp2_with fail
      refine (HL1.out _).mono ?_
      rintro e w6 ⟨rfl, rfl⟩
      have hgb := Hg.out
      go_wp2_with fail
      rw [Hg1.out]
      have h2n : ¬ (t2 = w.heap.size ∧ False) := by simp
      have hlt5 := HT5.out.blk.lt
      have hlt6 := H5.out.blk.lt
      go_wp2_with fail
      have hdr := tdrop_yes tb mb (fullT 256) 256 65536 ((g + 1 : Nat) : Int) ⟨g, (g : Int) + 1, false, false, 0⟩ _ HT5.out HF.out (by rw [Hg2.out]; exact Hgo.out)
      refine hdr.mono ?_
      rintro e w7 ⟨rfl, h7, hm7⟩
      have HD := Lib.hid (show addE (dropT (fullT 256) ((g + 1 : Nat) : Int)) ⟨3, 3, false, false, 0⟩ = 0 ∧ (dropT (fullT 256) ((g + 1 : Nat) : Int)).length = 255 by
        have hl : (dropT (fullT 256) ((g + 1 : Nat) : Int)).length = 255 := by
          rw [dropT_free _ (fullT_u 256)]
          have := delR_less HF.out.once (id := ((g + 1 : Nat) : Int)) (by rw [Hg2.out, Hgo.out]; rfl)
          rw [fullT_len] at this
          omega
        exact ⟨by rw [addE_three, if_neg (by omega)], hl⟩)
      have HDT := Lib.hid (HF.out.drop ((g + 1 : Nat) : Int))
      have HT7 := Lib.hid h7
      have H5' := Lib.hid (H5.out.mod hm7 (by unfold tabS; omega) (by unfold tabS; omega))
      have hb7 := Lib.hid (hb5.out.mod hm7 (by unfold tabS; omega))
      have l1 := L1.out
      have l2 := L2.out
      have hxd : Ext w w7 := hxc.trans hm7 (fun i hi e => by unfold tabS at e; omega)
      clear HT5 H5 hb5 hm7 h7 hdr hxc hlt5 hlt6
      have hlt7 := HT7.out.blk.lt
      have d0 := hb7.out.cell 0
      have d1 := hb7.out.cell 1
      have d2 := hb7.out.cell 2
      have d3 := hb7.out.cell 3
      have d4 := hb7.out.cell 4
      simp only [List.getElem?_toArray, List.getElem?_cons_zero, List.getElem?_cons_succ] at d0 d1 d2 d3 d4
      have hlb7 := hb7.out.lt
      go_wp2_with fail
      refine (tadd_any tb mb (dropT (fullT 256) ((g + 1 : Nat) : Int)) 256 ⟨3, 3, false, false, 0⟩ _ HT7.out (by rw [HD.out.2]; omega) HDT.out.next (by omega) (by omega) (show (Lit.int .i64 0).wf = true by decide)).mono ?_
      rintro e w8 hp8
      rcases hp8 with ⟨_, rfl, h8, hm8⟩ | ⟨hne, _⟩
      rotate_left
      · exact absurd HD.out.1 hne
      have HT8 := Lib.hid h8
      have H8 := Lib.hid (H5'.out.mod hm8 (by unfold tabS; omega) (by unfold tabS; omega))
      have hb8 := Lib.hid (hb7.out.mod hm8 (by unfold tabS; omega))
      have hxe : Ext w w8 := hxd.trans hm8 (fun i hi e => by unfold tabS at e; omega)
      have HTK := Lib.hid (HDT.out.add HD.out.1 (by omega) (by omega))
      clear HT7 H5' hb7 h8 hm8 hxd hlt7 d0 d1 d2 d3 d4 hlb7
      have d0 := hb8.out.cell 0
      have d1 := hb8.out.cell 1
      have d2 := hb8.out.cell 2
      have d3 := hb8.out.cell 3
      have d4 := hb8.out.cell 4
      simp only [List.getElem?_toArray, List.getElem?_cons_zero, List.getElem?_cons_succ] at d0 d1 d2 d3 d4
      have hlb8 := hb8.out.lt
      go_wp2_with fail
      refine (tadd_any t2 m2 (fullT 256) 256 ⟨3, 3, false, false, 0⟩ _ H8.out (by rw [fullT_len]; omega) HF.out.next (by omega) (by omega) (show (Lit.int .i64 0).wf = true by decide)).mono ?_
      rintro e w9 hp9
      rcases hp9 with ⟨h0, _⟩ | ⟨_, rfl, hx9⟩
      · exact absurd (H7.out.symm.trans h0) (by decide)
      rw [H7.out]
      have HT9 := Lib.hid (HT8.out.ext hx9)
      have HGt := Lib.hid (fun w' (h' : Ext w9 w') => tget_any t2 m2 (fullT 256) 256 ((g + 1 : Nat) : Int) w' ((H8.out.ext hx9).ext h') (id_wf (by omega) (by omega)))
      rw [Hg2.out, Hgo.out] at HGt
      rw [show (some (⟨g, (g : Int) + 1, false, false, 0⟩ : Rg)).getD rg0 = ⟨g, (g : Int) + 1, false, false, 0⟩ from rfl] at HGt
      unfold rgV at HGt
      simp only [Option.isSome_some] at HGt
      rw [← Hg2.out] at HGt
      have hxf := hxe.ext_trans hx9
      clear HT8 H8 hb8 hxe hx9 d0 d1 d2 d3 d4 hlb8
      go_wp2_with fail
      refine (HGt.out _ (Mod.refl _ _)).mono ?_
      rintro e w10 ⟨rfl, hx10⟩
      have HT10 := Lib.hid (HT9.out.ext (hx10.alloc (.cells #[.int .i64 g, .int .i64 ((g : Int) + 1), .bool false, .bool false, .int .i64 0] 33)))
      have hxg := (hxf.ext_trans hx10).alloc (.cells #[.int .i64 g, .int .i64 ((g : Int) + 1), .bool false, .bool false, .int .i64 0] 33)
      clear HT9 HGt hxf hx10
      go_wp2_with fail
      generalize World.alloc w10 _ = w11 at *
      refine (ids_any tb mb _ _ _ HT10.out.blk HT10.out.map HTK.out.rise (Nat.le_trans HTK.out.len (by omega))).mono ?_
      rintro e w12 ⟨v, rfl, hov, hx12⟩
      obtain ⟨a1, c1, rfl, hrd⟩ := Enc.owns_reads (E := inE) hov
      have Hl : (idsR (dropT (fullT 256) ((g + 1 : Nat) : Int) ++ [((256 : Int) + 1, (⟨3, 3, false, false, 0⟩ : Rg))])).length = 256 := by
        unfold idsR; rw [List.length_map, List.length_append, HD.out.2]; rfl
      rw [Hl]
      clear hov hrd Hl
      go_wp2_with fail
      refine (awake7_any _).mono ?_
      rintro e w13 ⟨rfl, hx13⟩
      go_wp2_with fail
      go_ret
      exact ⟨rfl, (hxg.ext_trans hx12).ext_trans hx13⟩
end Go.Proofs.Ytffplppglicibaa

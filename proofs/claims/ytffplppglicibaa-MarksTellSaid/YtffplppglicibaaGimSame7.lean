/- Has a table what the document tells: it has, where both hold the same ranges. Conditions: a table that may be. -/
import Derived.Test.YtffplppglicibaaGimPackU
import Derived.Test.YtffplppglicibaaGimSame
import Derived.Test.YtffplppglicibaaGimKidsP
namespace Go.Proofs.Ytffplppglicibaa
open Go.RowKit Go.Gim

theorem intsSame (l : List Int) (a b : Option Addr) (c d : Nat) (w : World) (ha : Reads w 1 a l.length (inE.cells l)) (hb : Reads w 1 b l.length (inE.cells l)) (hn : l.length ≤ 1000) :
    Calls Try.prog 28 #[.slice a l.length c, .slice b l.length d] w fun e w' => e = .returned (.bool true) ∧ Ext w w' := by
  rw [inE_cells] at ha hb
  refine (ints_any w a b c d l l ha hb (by omega) (by omega)).mono ?_
  rintro e w' ⟨rfl, m, rfl⟩
  exact ⟨by rw [decide_eq_true rfl], (Mod.refl _ w).drewN m⟩

set_option maxHeartbeats 3200000 in
set_option maxRecDepth 1000000 in
theorem same7_any (o : Int) (tb mb B ub : Nat) (v1 v2 : Value) (L : Tb) (last Bd : Int) (w : World) (ht : TabAt w tb mb L last) (hu : RefAt w B ub v1 v2 L last) (hT : Tok L last Bd) :
    Calls Try.prog 26 #[.pointer (some ⟨tb, 0, none⟩), .pointer (some ⟨ub, 0, none⟩), .int .i64 o] w fun e w' => e = .returned (.bool true) ∧ Ext w w' := by
  have HI := Lib.hid (ids_any tb mb last L w ht.blk ht.map hT.rise (Nat.le_trans hT.len (by omega)))
  obtain ⟨a1, c1, hv1, hr1⟩ := hu.rdI
  obtain ⟨a2, c2, hv2, hr2⟩ := hu.rdR
  have hn := hT.len
  have HT := Lib.hid hT
  have Ht := Lib.hid ht
  have HrI := Lib.hid hr1
  have HrR := Lib.hid hr2
  obtain ⟨N, hN⟩ : ∃ N, N = L.length := ⟨_, rfl⟩
  have HN := Lib.hid hN
  subst hv1 hv2
  have Hu := Lib.hid hu
  have hil : (idsR L).length = N := by rw [hN]; exact idsR_len L
  rw [← hN] at hn Hu
  unfold Enc.Out at HI
  rw [hil] at HI
  have Hil := Lib.hid hil
  clear ht hu hT hr1 hr2 hN hil
  go_enter Try.func26, Try.ntmps26
  go_wp2_with fail
  refine HI.out.mono ?_
  rintro e w1 ⟨v, rfl, hov, hx1⟩
  obtain ⟨ai, ci, rfl, hrd⟩ := Enc.owns_reads (E := inE) hov
  have Hrd := Lib.hid hrd
  have Hu1 := Lib.hid (Hu.out.ext hx1)
  have Ht1 := Lib.hid (Ht.out.ext hx1)
  have HS0 := Lib.hid (intsSame (idsR L) ai a1 ci c1 w1 (by rw [Hil.out]; exact hrd) (by rw [Hil.out, HN.out]; exact HrI.out.mod hx1 (fun _ _ f => f)) (by rw [Hil.out]; omega))
  rw [Hil.out] at HS0
  have HA := Lib.hid (fun w' (h' : Ext w1 w') => tat_any tb mb L last Bd o w' (Ht1.out.ext h') HT.out)
  have HB := Lib.hid (fun w' (h' : Ext w1 w') => rat2_any o B ub _ _ L last w' (Hu1.out.ext h') (by rw [← HN.out]; exact hn))
  have HK := Lib.hid (fun (id : Int) w' (h' : Ext w1 w') => tkids_any tb mb L last Bd id w' (Ht1.out.ext h') HT.out)
  have HL := Lib.hid (fun (id : Int) w' (h' : Ext w1 w') => rkids_any id B ub _ _ L last w' (Hu1.out.ext h') (by rw [← HN.out]; exact hn))
  unfold Enc.Out at HA HB HK HL
  have HlA := Lib.hid (Nat.le_trans (idsBy_len (fun r => hasS (r.a, r.b) o) L) (show L.length ≤ 1000 by rw [← HN.out]; omega))
  have HlK := Lib.hid (fun id : Int => Nat.le_trans (idsBy_len (fun r => r.u == id) L) (show L.length ≤ 1000 by rw [← HN.out]; omega))
  have d0 := Hu1.out.blk.cell 0
  simp only [List.getElem?_toArray, List.getElem?_cons_zero] at d0
  have hlb := Hu1.out.blk.lt
  clear hov hrd HI
  go_wp2_with fail
  refine HS0.out.mono ?_
  rintro e w2 ⟨rfl, hx2⟩
  clear HS0 d0 hlb
  have HA2 := Lib.hid (HA.out w2 hx2)
  go_wp2_with fail
  refine HA2.out.mono ?_
  rintro e w3 ⟨v3, rfl, ho3, hx3⟩
  obtain ⟨a3, c3, rfl, hr3⟩ := Enc.owns_reads (E := inE) ho3
  have hy3 := hx2.ext_trans hx3
  have HB2 := Lib.hid (HB.out w3 hy3)
  have Hr3 := Lib.hid hr3
  clear HA HA2 HB ho3 hr3
  go_wp2_with fail
  refine HB2.out.mono ?_
  rintro e w4 ⟨v4, rfl, ho4, hx4⟩
  obtain ⟨a4, c4, rfl, hr4⟩ := Enc.owns_reads (E := inE) ho4
  have hy4 := hy3.ext_trans hx4
  have HS1 := Lib.hid (intsSame _ a3 a4 c3 c4 w4 (Hr3.out.mod hx4 (fun _ _ f => f)) hr4 HlA.out)
  clear HB2 ho4 hr4 Hr3
  go_wp2_with fail
  refine HS1.out.mono ?_
  rintro e w5 ⟨rfl, hx5⟩
  have hy5 := hy4.ext_trans hx5
  have HA2 := Lib.hid (HK.out 0 w5 hy5)
  clear HS1
  go_wp2_with fail
  refine HA2.out.mono ?_
  rintro e w6 ⟨v6, rfl, ho6, hx6⟩
  obtain ⟨a6, c6, rfl, hr6⟩ := Enc.owns_reads (E := inE) ho6
  have hy6 := hy5.ext_trans hx6
  have HB2 := Lib.hid (HL.out 0 w6 hy6)
  have Hr6 := Lib.hid hr6
  clear HA2 ho6 hr6
  go_wp2_with fail
  refine HB2.out.mono ?_
  rintro e w7 ⟨v7, rfl, ho7, hx7⟩
  obtain ⟨a7, c7, rfl, hr7⟩ := Enc.owns_reads (E := inE) ho7
  have hy7 := hy6.ext_trans hx7
  have HS1 := Lib.hid (intsSame _ a6 a7 c6 c7 w7 (Hr6.out.mod hx7 (fun _ _ f => f)) hr7 (HlK.out 0))
  clear HB2 ho7 hr7 Hr6
  go_wp2_with fail
  refine HS1.out.mono ?_
  rintro e w8 ⟨rfl, hx8⟩
  have hy8 := hy7.ext_trans hx8
  clear HS1 hx2 hx3 hx4 hx5 hx6 hx7 hx8 hy3 hy4 hy5 hy6 hy7
  go_wp2_with fail
  go_loopw [8] (fun i wr => ∃ k : Nat, k ≤ N ∧ i = .int .i64 k ∧ Ext w1 wr) (fun i _ => N - (intOf i).toNat)
  case atStart => exact ⟨0, by omega, rfl, hy8⟩
  case round =>
    obtain ⟨k, hk, rfl, hy⟩ := hrel
    by_cases hlt : k < N
    · have hlt' : (k : Int) < (N : Int) := by omega
      have hk0 : (0 : Int) ≤ (k : Int) := by omega
      obtain ⟨bi, oi, rfl⟩ := Hrd.out.some (by omega)
      obtain ⟨br, or, rfl⟩ := HrR.out.some (by rw [← HN.out]; omega)
      have hmL : k < L.length := by rw [← HN.out]; exact hlt
      have hkL : L[k]? = some (L[k]'hmL) := List.getElem?_eq_getElem _
      have hidK : (idsR L)[k]? = some (L[k]'hmL).1 := by unfold idsR; rw [List.getElem?_map, hkL]; rfl
      have hxR : (L.map (·.2))[k]? = some (L[k]'hmL).2 := by rw [List.getElem?_map, hkL]; rfl
      have hgr := getR_of_mem HT.out.once (show ((L[k]'hmL).1, (L[k]'hmL).2) ∈ L from List.getElem_mem _)
      have hib := HT.out.ids _ (List.getElem_mem hmL)
      have hl0 := HT.out.last0
      have q0 := rdIn_at (Hrd.out.mod hy (fun _ _ f => f)) hidK
      generalize L[k]'hmL = z at *
      obtain ⟨id1, ra, rb, rp, rq, ru⟩ := z
      simp only at hidK hxR q0 hgr hib
      have hg := tget_any tb mb _ _ id1 wr (Ht1.out.ext hy) (id_wf (by omega) (by omega))
      rw [hgr] at hg
      rw [show (some (⟨ra, rb, rp, rq, ru⟩ : Rg)).getD rg0 = ⟨ra, rb, rp, rq, ru⟩ from rfl] at hg
      unfold rgV at hg
      simp only [Option.isSome_some] at hg
      have HG := Lib.hid hg
      have HidK := Lib.hid hidK
      have HxR := Lib.hid hxR
      have hbl := World.block_lt_of_cell? wr _ q0
      clear hg hgr hkL hidK hxR hib hl0
      go_wp2_with fail
      refine HG.out.mono ?_
      rintro e w9 ⟨rfl, hx9⟩
      clear HG q0 hbl
      go_upto_region 8 with fail
      obtain ⟨u, hu⟩ : ∃ u, u = w9.alloc (.cells #[.int .i64 ra, .int .i64 rb, .bool rp, .bool rq, .int .i64 ru] 33) := ⟨_, rfl⟩
      have hxu : Ext w9 u := by rw [hu]; exact (Mod.refl _ w9).alloc _
      have hbu : Blk u w9.heap.size 33 #[.int .i64 ra, .int .i64 rb, .bool rp, .bool rq, .int .i64 ru] := by rw [hu]; exact Blk.new _ _ _
      rw [← hu]
      clear hu
      have hyu := (hy.ext_trans hx9).ext_trans hxu
      have HS := Lib.hid (fun w' (h' : Ext u w') => by
        obtain ⟨r0, r1, r2, r3, r4⟩ := reads_rg (HrR.out.mod ((hx1.ext_trans hyu).ext_trans h') (fun _ _ f => f)) HxR.out
        exact (⟨(Hu1.out.ext (hyu.ext_trans h')).blk.cell 1, rdIn_at (Hrd.out.mod (hyu.ext_trans h') (fun _ _ f => f)) HidK.out, r0, r1, r2, r3, r4, (hbu.mod h' (fun f => f)).cell 0, (hbu.mod h' (fun f => f)).cell 1, (hbu.mod h' (fun f => f)).cell 2, (hbu.mod h' (fun f => f)).cell 3, (hbu.mod h' (fun f => f)).cell 4⟩ :
          w'.cell? ⟨ub, 1, none⟩ = some (.slice (some ⟨br, or, none⟩) N c2) ∧ w'.cell? ⟨bi, oi + k, none⟩ = some (.int .i64 id1) ∧ w'.cell? ⟨br, or + k * 5, none⟩ = some (.int .i64 ra) ∧ w'.cell? ⟨br, or + k * 5 + 1, none⟩ = some (.int .i64 rb) ∧ w'.cell? ⟨br, or + k * 5 + 2, none⟩ = some (.bool rp) ∧ w'.cell? ⟨br, or + k * 5 + 3, none⟩ = some (.bool rq) ∧ w'.cell? ⟨br, or + k * 5 + 4, none⟩ = some (.int .i64 ru) ∧
          w'.cell? ⟨w9.heap.size, 0, none⟩ = some (.int .i64 ra) ∧ w'.cell? ⟨w9.heap.size, 1, none⟩ = some (.int .i64 rb) ∧ w'.cell? ⟨w9.heap.size, 2, none⟩ = some (.bool rp) ∧ w'.cell? ⟨w9.heap.size, 3, none⟩ = some (.bool rq) ∧ w'.cell? ⟨w9.heap.size, 4, none⟩ = some (.int .i64 ru)))
      refine wp_region_E (by kernel_rfl) ?_
      refine wpE_take 0 53 (v := ?_) rfl rfl (by kernel_rfl) (by kernel_rfl) (by kernel_rfl) (fun _ _ _ h => h) (by first | exact ext_draw _ | assumption) rfl ?_ ?_
      rotate_left
      · intro w' hw'
        refine qat_value ?_
        go_simp
        rfl
      simp only [Act.put, List.setIfInBounds_toArray, List.set_cons_zero, List.set_cons_succ]
      refine wpE_take 1 54 (v := ?_) rfl rfl (by kernel_rfl) (by kernel_rfl) (by kernel_rfl) (fun _ _ _ h => h) (by first | exact ext_draw _ | assumption) rfl ?_ ?_
      rotate_left
      · intro w' hw'
        refine qat_value ?_
        go_simp
        rfl
      simp only [Act.put, List.setIfInBounds_toArray, List.set_cons_zero, List.set_cons_succ]
      refine wpE_take 2 55 (v := ?_) rfl rfl (by kernel_rfl) (by kernel_rfl) (by kernel_rfl) (fun _ _ _ h => h) (by first | exact ext_draw _ | assumption) rfl ?_ ?_
      rotate_left
      · intro w' hw'
        refine qat_value ?_
        go_simp
        rfl
      simp only [Act.put, List.setIfInBounds_toArray, List.set_cons_zero, List.set_cons_succ]
      refine wpE_take 3 56 (v := ?_) rfl rfl (by kernel_rfl) (by kernel_rfl) (by kernel_rfl) (fun _ _ _ h => h) (by first | exact ext_draw _ | assumption) rfl ?_ ?_
      rotate_left
      · intro w' hw'
        obtain ⟨r0, r1, r2, r3, r4, r5, r6, r7, r8, r9, r10, r11⟩ := HS.out w' hw'
        refine qat_value ?_
        go_simp
        rfl
      simp only [Act.put, List.setIfInBounds_toArray, List.set_cons_zero, List.set_cons_succ]
      refine wpE_take 4 57 (v := ?_) rfl rfl (by kernel_rfl) (by kernel_rfl) (by kernel_rfl) (fun _ _ _ h => h) (by first | exact ext_draw _ | assumption) rfl ?_ ?_
      rotate_left
      · intro w' hw'
        refine qat_value ?_
        go_simp
        rfl
      simp only [Act.put, List.setIfInBounds_toArray, List.set_cons_zero, List.set_cons_succ]
      refine wpE_take 5 58 (v := ?_) rfl rfl (by kernel_rfl) (by kernel_rfl) (by kernel_rfl) (fun _ _ _ h => h) (by first | exact ext_draw _ | assumption) rfl ?_ ?_
      rotate_left
      · intro w' hw'
        refine qat_value ?_
        go_simp
        rfl
      simp only [Act.put, List.setIfInBounds_toArray, List.set_cons_zero, List.set_cons_succ]
      refine wpE_take 6 59 (v := ?_) rfl rfl (by kernel_rfl) (by kernel_rfl) (by kernel_rfl) (fun _ _ _ h => h) (by first | exact ext_draw _ | assumption) rfl ?_ ?_
      rotate_left
      · intro w' hw'
        refine qat_value ?_
        go_simp
        rfl
      simp only [Act.put, List.setIfInBounds_toArray, List.set_cons_zero, List.set_cons_succ]
      refine wpE_take 7 60 (v := ?_) rfl rfl (by kernel_rfl) (by kernel_rfl) (by kernel_rfl) (fun _ _ _ h => h) (by first | exact ext_draw _ | assumption) rfl ?_ ?_
      rotate_left
      · intro w' hw'
        obtain ⟨r0, r1, r2, r3, r4, r5, r6, r7, r8, r9, r10, r11⟩ := HS.out w' hw'
        refine qat_value ?_
        go_simp
        rfl
      simp only [Act.put, List.setIfInBounds_toArray, List.set_cons_zero, List.set_cons_succ]
      refine wpE_take 8 61 (v := ?_) rfl rfl (by kernel_rfl) (by kernel_rfl) (by kernel_rfl) (fun _ _ _ h => h) (by first | exact ext_draw _ | assumption) rfl ?_ ?_
      rotate_left
      · intro w' hw'
        refine qat_value ?_
        go_simp
        rfl
      simp only [Act.put, List.setIfInBounds_toArray, List.set_cons_zero, List.set_cons_succ]
      refine wpE_take 9 62 (v := ?_) rfl rfl (by kernel_rfl) (by kernel_rfl) (by kernel_rfl) (fun _ _ _ h => h) (by first | exact ext_draw _ | assumption) rfl ?_ ?_
      rotate_left
      · intro w' hw'
        refine qat_value ?_
        go_simp
        rfl
      simp only [Act.put, List.setIfInBounds_toArray, List.set_cons_zero, List.set_cons_succ]
      refine wpE_take 10 63 (v := ?_) rfl rfl (by kernel_rfl) (by kernel_rfl) (by kernel_rfl) (fun _ _ _ h => h) (by first | exact ext_draw _ | assumption) rfl ?_ ?_
      rotate_left
      · intro w' hw'
        obtain ⟨r0, r1, r2, r3, r4, r5, r6, r7, r8, r9, r10, r11⟩ := HS.out w' hw'
        refine qat_value ?_
        go_simp
        rfl
      simp only [Act.put, List.setIfInBounds_toArray, List.set_cons_zero, List.set_cons_succ]
      refine wpE_take 11 64 (v := ?_) rfl rfl (by kernel_rfl) (by kernel_rfl) (by kernel_rfl) (fun _ _ _ h => h) (by first | exact ext_draw _ | assumption) rfl ?_ ?_
      rotate_left
      · intro w' hw'
        refine qat_value ?_
        go_simp
        rfl
      simp only [Act.put, List.setIfInBounds_toArray, List.set_cons_zero, List.set_cons_succ]
      refine wpE_take 12 65 (v := ?_) rfl rfl (by kernel_rfl) (by kernel_rfl) (by kernel_rfl) (fun _ _ _ h => h) (by first | exact ext_draw _ | assumption) rfl ?_ ?_
      rotate_left
      · intro w' hw'
        refine qat_value ?_
        go_simp
        rfl
      simp only [Act.put, List.setIfInBounds_toArray, List.set_cons_zero, List.set_cons_succ]
      refine wpE_take 13 66 (v := ?_) rfl rfl (by kernel_rfl) (by kernel_rfl) (by kernel_rfl) (fun _ _ _ h => h) (by first | exact ext_draw _ | assumption) rfl ?_ ?_
      rotate_left
      · intro w' hw'
        refine qat_value ?_
        go_simp
        rfl
      simp only [Act.put, List.setIfInBounds_toArray, List.set_cons_zero, List.set_cons_succ]
      refine wpE_take 14 67 (v := ?_) rfl rfl (by kernel_rfl) (by kernel_rfl) (by kernel_rfl) (fun _ _ _ h => h) (by first | exact ext_draw _ | assumption) rfl ?_ ?_
      rotate_left
      · intro w' hw'
        refine qat_value ?_
        go_simp
        rfl
      simp only [Act.put, List.setIfInBounds_toArray, List.set_cons_zero, List.set_cons_succ]
      refine wpE_take 15 68 (v := ?_) rfl rfl (by kernel_rfl) (by kernel_rfl) (by kernel_rfl) (fun _ _ _ h => h) (by first | exact ext_draw _ | assumption) rfl ?_ ?_
      rotate_left
      · intro w' hw'
        refine qat_value ?_
        go_simp
        rfl
      simp only [Act.put, List.setIfInBounds_toArray, List.set_cons_zero, List.set_cons_succ]
      refine wpE_take 16 69 (v := ?_) rfl rfl (by kernel_rfl) (by kernel_rfl) (by kernel_rfl) (fun _ _ _ h => h) (by first | exact ext_draw _ | assumption) rfl ?_ ?_
      rotate_left
      · intro w' hw'
        refine qat_value ?_
        go_simp
        rfl
      simp only [Act.put, List.setIfInBounds_toArray, List.set_cons_zero, List.set_cons_succ]
      refine wpE_take 17 70 (v := ?_) rfl rfl (by kernel_rfl) (by kernel_rfl) (by kernel_rfl) (fun _ _ _ h => h) (by first | exact ext_draw _ | assumption) rfl ?_ ?_
      rotate_left
      · intro w' hw'
        refine qat_value ?_
        go_simp
        rfl
      simp only [Act.put, List.setIfInBounds_toArray, List.set_cons_zero, List.set_cons_succ]
      refine wpE_take 18 71 (v := ?_) rfl rfl (by kernel_rfl) (by kernel_rfl) (by kernel_rfl) (fun _ _ _ h => h) (by first | exact ext_draw _ | assumption) rfl ?_ ?_
      rotate_left
      · intro w' hw'
        obtain ⟨r0, r1, r2, r3, r4, r5, r6, r7, r8, r9, r10, r11⟩ := HS.out w' hw'
        refine qat_value ?_
        go_simp
        rfl
      simp only [Act.put, List.setIfInBounds_toArray, List.set_cons_zero, List.set_cons_succ]
      refine wpE_take 20 73 (v := ?_) rfl rfl (by kernel_rfl) (by kernel_rfl) (by kernel_rfl) (fun _ _ _ h => h) (by first | exact ext_draw _ | assumption) rfl ?_ ?_
      rotate_left
      · intro w' hw'
        refine qat_value ?_
        go_simp
        rfl
      simp only [Act.put, List.setIfInBounds_toArray, List.set_cons_zero, List.set_cons_succ]
      refine wpE_take 21 74 (v := ?_) rfl rfl (by kernel_rfl) (by kernel_rfl) (by kernel_rfl) (fun _ _ _ h => h) (by first | exact ext_draw _ | assumption) rfl ?_ ?_
      rotate_left
      · intro w' hw'
        refine qat_value ?_
        go_simp
        rfl
      simp only [Act.put, List.setIfInBounds_toArray, List.set_cons_zero, List.set_cons_succ]
      refine wpE_take 22 75 (v := ?_) rfl rfl (by kernel_rfl) (by kernel_rfl) (by kernel_rfl) (fun _ _ _ h => h) (by first | exact ext_draw _ | assumption) rfl ?_ ?_
      rotate_left
      · intro w' hw'
        refine qat_value ?_
        go_simp
        rfl
      simp only [Act.put, List.setIfInBounds_toArray, List.set_cons_zero, List.set_cons_succ]
      refine wpE_take 23 76 (v := ?_) rfl rfl (by kernel_rfl) (by kernel_rfl) (by kernel_rfl) (fun _ _ _ h => h) (by first | exact ext_draw _ | assumption) rfl ?_ ?_
      rotate_left
      · intro w' hw'
        refine qat_value ?_
        go_simp
        rfl
      simp only [Act.put, List.setIfInBounds_toArray, List.set_cons_zero, List.set_cons_succ]
      refine wpE_take 24 77 (v := ?_) rfl rfl (by kernel_rfl) (by kernel_rfl) (by kernel_rfl) (fun _ _ _ h => h) (by first | exact ext_draw _ | assumption) rfl ?_ ?_
      rotate_left
      · intro w' hw'
        obtain ⟨r0, r1, r2, r3, r4, r5, r6, r7, r8, r9, r10, r11⟩ := HS.out w' hw'
        refine qat_value ?_
        go_simp
        rfl
      simp only [Act.put, List.setIfInBounds_toArray, List.set_cons_zero, List.set_cons_succ]
      refine wpE_callw 19 72 (f := 27) (args := #[.pointer (some ⟨tb, 0, none⟩), .int .i64 id1]) rfl rfl (by kernel_rfl) rfl (fun w' => by first | (go_simp; done) | (go_simp; exact ⟨rfl, rfl⟩)) fun wb hwb => ?_
      have hzb : Ext u wb := (ext_draw u).ext_trans hwb
      refine (HK.out id1 wb (hyu.ext_trans hzb)).mono ?_
      rintro e wc ⟨va, rfl, hoa, hxa⟩
      obtain ⟨aa, ca, rfl, hra⟩ := Enc.owns_reads (E := inE) hoa
      have hzc := hzb.ext_trans hxa
      refine ⟨_, rfl, hzc, ?_⟩
      simp only [Act.put, List.setIfInBounds_toArray, List.set_cons_zero, List.set_cons_succ]
      refine wpE_callw 25 78 (f := 46) (args := #[.pointer (some ⟨ub, 0, none⟩), .int .i64 id1]) rfl rfl (by kernel_rfl) rfl (fun w' => by first | (go_simp; done) | (go_simp; exact ⟨rfl, rfl⟩)) fun wd hwd => ?_
      have hzd := hzc.ext_trans hwd
      refine (HL.out id1 wd (hyu.ext_trans hzd)).mono ?_
      rintro e we ⟨vb, rfl, hob, hxb⟩
      obtain ⟨ab, cb, rfl, hrb⟩ := Enc.owns_reads (E := inE) hob
      have hze := hzd.ext_trans hxb
      refine ⟨_, rfl, hze, ?_⟩
      simp only [Act.put, List.setIfInBounds_toArray, List.set_cons_zero, List.set_cons_succ]
      refine wpE_callw 26 79 (f := 28) (args := #[.slice aa (idsBy (fun r => r.u == id1) L).length ca, .slice ab (idsBy (fun r => r.u == id1) L).length cb]) rfl rfl (by kernel_rfl) rfl (fun w' => by first | (go_simp; done) | (go_simp; exact ⟨rfl, rfl⟩)) fun wf hwf => ?_
      refine (intsSame _ aa ab ca cb wf (hra.mod ((hwd.ext_trans hxb).ext_trans hwf) (fun _ _ f => f)) (hrb.mod hwf (fun _ _ f => f)) (HlK.out id1)).mono ?_
      rintro e wg ⟨rfl, hxg⟩
      have hzg := (hze.ext_trans hwf).ext_trans hxg
      refine ⟨_, rfl, hzg, ?_⟩
      simp only [Act.put, List.setIfInBounds_toArray, List.set_cons_zero, List.set_cons_succ]
      refine wpE_take 27 80 (v := ?_) rfl rfl (by kernel_rfl) (by kernel_rfl) (by kernel_rfl) (fun _ _ _ h => h) (by first | exact ext_draw _ | assumption) rfl ?_ ?_
      rotate_left
      · intro w' hw'
        refine qat_value ?_
        go_simp
        rfl
      simp only [Act.put, List.setIfInBounds_toArray, List.set_cons_zero, List.set_cons_succ]
      refine wpE_take 28 81 (v := ?_) rfl rfl (by kernel_rfl) (by kernel_rfl) (by kernel_rfl) (fun _ _ _ h => h) (by first | exact ext_draw _ | assumption) rfl ?_ ?_
      rotate_left
      · intro w' hw'
        refine qat_value ?_
        go_simp
        rfl
      simp only [Act.put, List.setIfInBounds_toArray, List.set_cons_zero, List.set_cons_succ]
      refine wpE_done (by kernel_rfl) (fun wh hwh => ?_) _
      have hyh := (hyu.ext_trans hzg).ext_trans hwh
      clear HS hzb hzc hzd hze hzg hwh hwf hwd hwb hxg hxa hxb hra hrb hoa hob hbu hxu hyu hx9 hy
      go_wp2_with fail
      go_roundw
      case rel => exact ⟨k + 1, by omega, by go_num, hyh⟩
      case measure => simp [intOf]; omega
    · have hlt' : ¬ (k : Int) < (N : Int) := by omega
      go_wp2_with fail
      go_ret
      exact ⟨rfl, hx1.ext_trans hy⟩
end Go.Proofs.Ytffplppglicibaa

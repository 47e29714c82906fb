/- sheet.Erased; the document's Typed and Erased. Conditions: a text of at most 65536 bytes, 1 to 19 selections in it. -/
import Derived.Test.YthlmgoagnfkhdaaGreatGimF41
import Derived.Test.YthlmgoagnfkhdaaGreatGimF32
import Derived.Test.YthlmgoagnfkhdaaGreatGimF34
import Derived.Test.YthlmgoagnfkhdaaGreatGimF25
set_option maxHeartbeats 6400000
set_option maxRecDepth 1000000
set_option linter.unusedVariables false
set_option linter.unusedSimpArgs false
namespace Go.Gim
theorem gonesT_step {t : List UInt8} {forth : Bool} {q : List (Int × Int)} {k : Nat} {x : Int × Int} (h : q[k]? = some x) : (q.map (goneS t forth)).take (k + 1) = (q.map (goneS t forth)).take k ++ [goneS t forth x] := by
 obtain ⟨hk, rfl⟩ := List.getElem?_eq_some_iff.1 h
 rw [List.take_succ_eq_append_getElem (by simpa using hk)]
 simp
theorem filterT_step {l : List (Int × Int)} {k : Nat} {x : Int × Int} (h : l[k]? = some x) : ((l.take (k + 1)).filter fullB).map edOf = ((l.take k).filter fullB).map edOf ++ (if fullB x then [edOf x] else []) := by
 obtain ⟨hk, rfl⟩ := List.getElem?_eq_some_iff.1 h
 rw [List.take_succ_eq_append_getElem hk, List.filter_append, List.map_append]
 congr 1
 cases hb : fullB l[k] with
 | true => rw [List.filter_cons_of_pos hb]; rfl
 | false => rw [List.filter_cons_of_neg (by simp [hb])]; rfl
end Go.Gim
namespace Go.Proofs.YthlmgoagnfkhdaaGreat
open Go.RowKit Go.Gim
theorem serased_any (S : Sh) (forth : Bool) (w : World) (h : SheetAt w S) (hq0 : 0 < S.q.length) (hq1 : S.q.length ≤ 19) (hin : InT S.s.size S.q) :
  Calls Tryz.prog 23 #[.pointer (some ⟨S.sb, 0, none⟩), .bool forth] w (edE.Out 59 (erasedL S.s.data.toList forth S.q) w) := by
 have hl1 : maxLen = 9223372036854775807 := rfl
 obtain ⟨b, off, e⟩ := h.rd.some hq0
 have hsl := h.rd
 rw [e] at hsl
 have Hsl := Lib.hid hsl
 have H := Lib.hid h
 have Hin := Lib.hid hin
 have Hgi := Lib.hid (gones_in (t := S.s.data.toList) (forth := forth) (q := S.q) hin)
 have HSt := Lib.hid (fun (a : Nat) (ha : a ≤ S.s.size) (way : Int) (h1 : 1 ≤ way) (h2 : way ≤ 10) w' (h' : Ext w w') => step_yes S.R S.s a way w' (h.rope.ext h') h.text ha h1 h2)
 have d2 := h.blk.cell 2
 simp only [List.getElem?_toArray, List.getElem?_cons_zero, List.getElem?_cons_succ] at d2
 rw [e] at d2
 have hlb := h.blk.lt
 have Hfin := Lib.hid (show erasedL S.s.data.toList forth S.q = ((unionL (S.q.map (goneS S.s.data.toList forth))).filter fullB).map edOf from rfl)
 have HUn := Lib.hid (fun g c w' (h' : Reads w' 2 (some ⟨g, 0, none⟩) S.q.length (prE.cells (S.q.map (goneS S.s.data.toList forth)))) => union_some g 0 c (S.q.map (goneS S.s.data.toList forth)) w' (by rw [List.length_map]; exact h') (by rw [List.length_map]; exact hq0) (by rw [List.length_map]; exact hq1) (fun x hx => (Hgi.out x hx).2.1))
 rw [List.length_map] at HUn
 have hUl := unionL_len (S.q.map (goneS S.s.data.toList forth))
 rw [List.length_map] at hUl
 unfold Enc.Out at HUn ⊢
 rw [Hfin.out]
 generalize unionL (S.q.map (goneS S.s.data.toList forth)) = U at *
 clear Hfin
 obtain ⟨N, hN⟩ : ∃ N, N = S.q.length := ⟨_, rfl⟩
 have HN := Lib.hid hN
 rw [← hN] at hq0 hq1 d2 HUn hUl
 have HUl := Lib.hid hUl
 clear h e hsl hN hin hUl
 go_enter Tryz.func23, Tryz.ntmps23
 go_wp2_with fail
 go_loopw [5, 22] (fun v i wr => ∃ k : Nat, k ≤ N ∧ i = .int .i64 k ∧ Hid (wr.ownsRow w.heap.size 49 2 v k (prE.cells ((S.q.map (goneS S.s.data.toList forth)).take k))) ∧ Ext w wr) (fun _ i _ => N - (intOf i).toNat)
 case atStart => exact ⟨0, by omega, rfl, Lib.hid (World.ownsRow_nil _ _ _ _), Mod.refl _ _⟩
 case round =>
  clear d2
  obtain ⟨k, hk, rfl, HW, hx⟩ := hrel
  have hlb2 : S.sb < wr.heap.size := hx.lt hlb
  by_cases hlt : k < N
  ·have hlt' : (k : Int) < (N : Int) := by omega
   have hk0 : (0 : Int) ≤ (k : Int) := by omega
   have hlk : k < S.q.length := by rw [← HN.out]; exact hlt
   obtain ⟨c0, c1⟩ := reads_pair (Hsl.out.mod hx (fun _ _ f => f)) (List.getElem?_eq_getElem hlk)
   have Hts := Lib.hid (gonesT_step (t := S.s.data.toList) (forth := forth) (List.getElem?_eq_getElem hlk))
   obtain ⟨n1, n2, n3, n4⟩ := Hin.out _ (List.getElem_mem hlk)
   have HSp := Lib.hid (fun w' => span_any S.q[k] w')
   generalize S.q[k] = x at *
   obtain ⟨va, vc, hva, _, _⟩ := ownsRow_shape HW.out
   subst hva
   have hbl := World.block_lt_of_cell? wr _ c0
   clear hlk
   obtain ⟨p, q⟩ := x
   simp only at c0 c1 HSp Hts n1 n2 n3 n4
   by_cases hpq : p = q
   ·have b1 : (p != q) = false := by simpa using hpq
    have hqn : ((q.toNat : Nat) : Int) = q := Int.toNat_of_nonneg n2
    cases forth with
    | true =>
     have HG := Lib.hid (show goneS S.s.data.toList true (p, q) = (q, ((rightN S.s.data.toList q.toNat : Nat) : Int)) by unfold goneS; rw [if_pos hpq]; rfl)
     have HS2 := Lib.hid (fun w' h' => HSt.out q.toNat (by omega) 2 (by omega) (by omega) w' h')
     rw [hqn, show stepN S.s.data.toList q.toNat 2 = rightN S.s.data.toList q.toNat from rfl] at HS2
     rw [HG.out] at Hts
     clear hqn hpq
     generalize rightN S.s.data.toList q.toNat = U at *
     go_upto_region 7 with fail
     obtain ⟨u, hu⟩ : ∃ u, u = wr.alloc (.cells #[.int .i64 p, .int .i64 q] 47) := ⟨_, rfl⟩
     have hxu : Ext wr u := by rw [hu]; exact (Mod.refl _ wr).alloc _
     have hbu : Blk u wr.heap.size 47 #[.int .i64 p, .int .i64 q] := by rw [hu]; exact Blk.new _ _ _
     rw [← hu]
     clear c0 c1 hbl hu
     have c0 : u.cell? ⟨wr.heap.size, 0, none⟩ = some (.int .i64 p) := hbu.cell 0
     have c1 : u.cell? ⟨wr.heap.size, 1, none⟩ = some (.int .i64 q) := hbu.cell 1
     have hlu := hbu.lt
     have d0 := (H.out.ext (hx.ext_trans hxu)).blk.cell 0
     simp only [List.getElem?_toArray, List.getElem?_cons_zero] at d0
     have hlb3 : S.sb < u.heap.size := (hx.ext_trans hxu).lt hlb
     go_upto_region 10 with fail
     refine wp_region_ext_lit (by kernel_rfl) (by kernel_rfl) ?_
     repeat (go_big_quiet_step (exact Calls.ext_of (HS2.out _ ((hx.ext_trans hxu).ext_trans (Mod.of_below (ext_below _ _))))))
     refine wpQuiet_nil ?_
     intro we hxe
     have hxv := hxu.ext_trans hxe
     clear c0 c1 hlu d0 hlb3
     have c1 : we.cell? ⟨wr.heap.size, 1, none⟩ = some (.int .i64 q) := (hbu.mod hxe (fun f => f)).cell 1
     have hlu := (hbu.mod hxe (fun f => f)).lt
     have Hom := Lib.hid (ownsRow_mod HW.out hxv (fun _ _ f => f))
     have hxw := hx.ext_trans hxv
     go_wp2_with (at_builtin; refine wpList_append_reads rfl _ _ 114 rfl w.heap.size 49 _ 2 16 Tryz.info49 Tryz.underlying114 rfl (by decide) _ k _ rfl (Hom.out.alloc _) _ 1 1 [.int .i64 q, .int .i64 ((U : Nat) : Int)] rfl ?hrd (prE.one (q, ((U : Nat) : Int))) (by omega) (by omega) ?hbs ?_)
     case hrd =>
      have := Reads.new we 49 #[.int .i64 q, .int .i64 ((U : Nat) : Int)] 2 1 rfl
      simpa using this
     case hbs => have := hxw.size; simp; omega
     intro v' w4 hown hm4 hbk
     have hx4 := (hxw.alloc (.cells #[.int .i64 q, .int .i64 ((U : Nat) : Int)] 49)).over hm4 (fun i hi => (Hom.out.lt i hi).1)
     have Hown := Lib.hid hown
     clear hm4 hbk hown
     go_wp2_with fail
     go_roundw
     case rel => exact ⟨k + 1, by omega, by go_num, Lib.hid (by rw [Hts.out, prE.cells_append]; exact Hown.out), hx4⟩
     case measure => simp [intOf]; omega
    | false =>
     have HG := Lib.hid (show goneS S.s.data.toList false (p, q) = (((leftN S.s.data.toList q.toNat : Nat) : Int), q) by unfold goneS; rw [if_pos hpq]; rfl)
     have HS2 := Lib.hid (fun w' h' => HSt.out q.toNat (by omega) 1 (by omega) (by omega) w' h')
     rw [hqn, show stepN S.s.data.toList q.toNat 1 = leftN S.s.data.toList q.toNat from rfl] at HS2
     rw [HG.out] at Hts
     clear hqn hpq
     generalize leftN S.s.data.toList q.toNat = U at *
     go_upto_region 7 with fail
     obtain ⟨u, hu⟩ : ∃ u, u = wr.alloc (.cells #[.int .i64 p, .int .i64 q] 47) := ⟨_, rfl⟩
     have hxu : Ext wr u := by rw [hu]; exact (Mod.refl _ wr).alloc _
     have hbu : Blk u wr.heap.size 47 #[.int .i64 p, .int .i64 q] := by rw [hu]; exact Blk.new _ _ _
     rw [← hu]
     clear c0 c1 hbl hu
     have c0 : u.cell? ⟨wr.heap.size, 0, none⟩ = some (.int .i64 p) := hbu.cell 0
     have c1 : u.cell? ⟨wr.heap.size, 1, none⟩ = some (.int .i64 q) := hbu.cell 1
     have hlu := hbu.lt
     have d0 := (H.out.ext (hx.ext_trans hxu)).blk.cell 0
     simp only [List.getElem?_toArray, List.getElem?_cons_zero] at d0
     have hlb3 : S.sb < u.heap.size := (hx.ext_trans hxu).lt hlb
     go_upto_region 12 with fail
     refine wp_region_ext_lit (by kernel_rfl) (by kernel_rfl) ?_
     repeat (go_big_quiet_step (exact Calls.ext_of (HS2.out _ ((hx.ext_trans hxu).ext_trans (Mod.of_below (ext_below _ _))))))
     refine wpQuiet_nil ?_
     intro we hxe
     have hxv := hxu.ext_trans hxe
     clear c0 c1 hlu d0 hlb3
     have c1 : we.cell? ⟨wr.heap.size, 1, none⟩ = some (.int .i64 q) := (hbu.mod hxe (fun f => f)).cell 1
     have hlu := (hbu.mod hxe (fun f => f)).lt
     have Hom := Lib.hid (ownsRow_mod HW.out hxv (fun _ _ f => f))
     have hxw := hx.ext_trans hxv
     go_wp2_with (at_builtin; refine wpList_append_reads rfl _ _ 114 rfl w.heap.size 49 _ 2 16 Tryz.info49 Tryz.underlying114 rfl (by decide) _ k _ rfl (Hom.out.alloc _) _ 1 1 [.int .i64 ((U : Nat) : Int), .int .i64 q] rfl ?hrd (prE.one (((U : Nat) : Int), q)) (by omega) (by omega) ?hbs ?_)
     case hrd =>
      have := Reads.new we 49 #[.int .i64 ((U : Nat) : Int), .int .i64 q] 2 1 rfl
      simpa using this
     case hbs => have := hxw.size; simp; omega
     intro v' w4 hown hm4 hbk
     have hx4 := (hxw.alloc (.cells #[.int .i64 ((U : Nat) : Int), .int .i64 q] 49)).over hm4 (fun i hi => (Hom.out.lt i hi).1)
     have Hown := Lib.hid hown
     clear hm4 hbk hown
     go_wp2_with fail
     go_roundw
     case rel => exact ⟨k + 1, by omega, by go_num, Lib.hid (by rw [Hts.out, prE.cells_append]; exact Hown.out), hx4⟩
     case measure => simp [intOf]; omega
   ·have b1 : (p != q) = true := by simpa using hpq
    have HG := Lib.hid (show goneS S.s.data.toList forth (p, q) = spanI (p, q) by unfold goneS; rw [if_neg hpq])
    rw [HG.out] at Hts
    generalize spanI (p, q) = y at *
    obtain ⟨y1, y2⟩ := y
    go_upto_region 7 with fail
    obtain ⟨u, hu⟩ : ∃ u, u = wr.alloc (.cells #[.int .i64 p, .int .i64 q] 47) := ⟨_, rfl⟩
    have hxu : Ext wr u := by rw [hu]; exact (Mod.refl _ wr).alloc _
    have hbu : Blk u wr.heap.size 47 #[.int .i64 p, .int .i64 q] := by rw [hu]; exact Blk.new _ _ _
    rw [← hu]
    clear c0 c1 hbl hu
    have c0 : u.cell? ⟨wr.heap.size, 0, none⟩ = some (.int .i64 p) := hbu.cell 0
    have c1 : u.cell? ⟨wr.heap.size, 1, none⟩ = some (.int .i64 q) := hbu.cell 1
    have hlu := hbu.lt
    go_wp2_with fail
    refine (HSp.out _).mono ?_
    rintro e we ⟨rfl, hxe⟩
    have hxv := hxu.ext_trans hxe
    have Hom := Lib.hid (ownsRow_mod HW.out hxv (fun _ _ f => f))
    have hxw := hx.ext_trans hxv
    go_wp2_with (at_builtin; refine wpList_append_reads rfl _ _ 114 rfl w.heap.size 49 _ 2 16 Tryz.info49 Tryz.underlying114 rfl (by decide) _ k _ rfl (Hom.out.alloc _) _ 1 1 [.int .i64 y1, .int .i64 y2] rfl ?hrd (prE.one (y1, y2)) (by omega) (by omega) ?hbs ?_)
    case hrd =>
     have := Reads.new we 49 #[.int .i64 y1, .int .i64 y2] 2 1 rfl
     simpa using this
    case hbs => have := hxw.size; simp; omega
    intro v' w4 hown hm4 hbk
    have hx4 := (hxw.alloc (.cells #[.int .i64 y1, .int .i64 y2] 49)).over hm4 (fun i hi => (Hom.out.lt i hi).1)
    have Hown := Lib.hid hown
    clear hm4 hbk hown
    go_wp2_with fail
    go_roundw
    case rel => exact ⟨k + 1, by omega, by go_num, Lib.hid (by rw [Hts.out, prE.cells_append]; exact Hown.out), hx4⟩
    case measure => simp [intOf]; omega
  ·have hlt' : ¬ (k : Int) < (N : Int) := by omega
   obtain rfl : k = N := by omega
   have hO := HW.out
   rw [List.take_of_length_le (by rw [List.length_map, ← HN.out]; exact Nat.le_refl _)] at hO
   obtain ⟨g, c, hv⟩ := Enc.owns_some (E := prE) hO hq0
   subst hv
   have HU2 := Lib.hid (HUn.out g c wr (Reads.own hO))
   clear hO HW HUn
   go_wp2_with fail
   refine HU2.out.mono ?_
   rintro e w2 ⟨v, rfl, hov, hx2⟩
   obtain ⟨a1, c1, rfl, hrd⟩ := Enc.owns_reads (E := prE) hov
   have Hrd := Lib.hid hrd
   have hy2 := hx.ext_trans hx2
   have hz2 := hy2.size
   obtain ⟨M, hM⟩ : ∃ M, M = U.length := ⟨_, rfl⟩
   have HM := Lib.hid hM
   have hM1 : M ≤ 19 := by have := HUl.out; omega
   rw [← hM] at Hrd ⊢
   clear hov hrd HU2 hx hx2 hM
   go_wp2_with fail
   go_loopw [12, 75] (fun v i wr => ∃ (j n : Nat), j ≤ M ∧ i = .int .i64 j ∧ n ≤ j ∧ Hid (wr.ownsRow w2.heap.size 59 3 v n (edE.cells (((U.take j).filter fullB).map edOf))) ∧ Ext w2 wr) (fun _ i _ => M - (intOf i).toNat)
   case atStart => exact ⟨0, 0, by omega, rfl, by omega, Lib.hid (World.ownsRow_nil _ _ _ _), Mod.refl _ _⟩
   case round =>
    obtain ⟨j, n, hj, rfl, hn, HW, hy⟩ := hrel
    by_cases hlt : j < M
    ·have hlt' : (j : Int) < (M : Int) := by omega
     have hk0 : (0 : Int) ≤ (j : Int) := by omega
     have hlj : j < U.length := by rw [← HM.out]; exact hlt
     obtain ⟨b2, off2, rfl⟩ := Hrd.out.some (by omega)
     obtain ⟨c0, c1'⟩ := rdSp_at (Hrd.out.mod hy (fun _ _ f => f)) (List.getElem?_eq_getElem hlj)
     have Hts := Lib.hid (filterT_step (List.getElem?_eq_getElem hlj))
     generalize U[j] = x at *
     obtain ⟨va, vc, hva, _, _⟩ := ownsRow_shape HW.out
     subst hva
     have hbl := World.block_lt_of_cell? wr _ c0
     clear hlj
     by_cases hf : x.1 < x.2
     ·have b1 : decide (x.1 < x.2) = true := decide_eq_true hf
      have Hst := Lib.hid (show ((U.take (j + 1)).filter fullB).map edOf = ((U.take j).filter fullB).map edOf ++ [edOf x] by rw [Hts.out, if_pos (show fullB x = true from b1)])
      have Hom := Lib.hid (ownsRow_mod HW.out (show Ext wr (wr.alloc (.cells #[.int .i64 x.1, .int .i64 x.2] 49)) from (Mod.refl _ wr).alloc _) (fun _ _ f => f))
      go_wp2_with (at_builtin; refine wpList_append_reads rfl _ _ 35 rfl w2.heap.size 59 _ 3 32 Tryz.info59 Tryz.underlying35 rfl (by decide) _ n _ rfl (Hom.out.alloc _) _ 1 1 [.int .i64 x.1, .int .i64 x.2, .string ⟨#[]⟩] rfl ?hrd (edE.one (edOf x)) (by omega) (by omega) ?hbs ?_)
      case hrd =>
       have := Reads.new (wr.alloc (.cells #[.int .i64 x.1, .int .i64 x.2] 49)) 59 #[.int .i64 x.1, .int .i64 x.2, .string ⟨#[]⟩] 3 1 rfl
       simpa using this
      case hbs => have := hy.size; simp at this ⊢; omega
      intro v' w4 hown hm4 hbk
      have hx4 := ((hy.alloc (.cells #[.int .i64 x.1, .int .i64 x.2] 49)).alloc (.cells #[.int .i64 x.1, .int .i64 x.2, .string ⟨#[]⟩] 59)).over hm4 (fun i hi => (Hom.out.lt i hi).1)
      have Hown := Lib.hid hown
      clear hm4 hbk hown c0 c1' hbl
      go_wp2_with fail
      go_roundw
      case rel => exact ⟨j + 1, n + 1, by omega, by go_num, by omega, Lib.hid (by rw [Hst.out, edE.cells_append]; exact Hown.out), hx4⟩
      case measure => simp [intOf]; omega
     ·have b1 : decide (x.1 < x.2) = false := decide_eq_false hf
      have Hst := Lib.hid (show ((U.take (j + 1)).filter fullB).map edOf = ((U.take j).filter fullB).map edOf by rw [Hts.out, if_neg (show ¬ fullB x = true by rw [show fullB x = false from b1]; exact Bool.false_ne_true), List.append_nil])
      have Hom := Lib.hid (ownsRow_mod HW.out (show Ext wr (wr.alloc (.cells #[.int .i64 x.1, .int .i64 x.2] 49)) from (Mod.refl _ wr).alloc _) (fun _ _ f => f))
      go_wp2_with fail
      go_roundw
      case rel => exact ⟨j + 1, n, by omega, by go_num, by omega, Lib.hid (by rw [Hst.out]; exact Hom.out), hy.alloc _⟩
      case measure => simp [intOf]; omega
    ·have hlt' : ¬ (j : Int) < (M : Int) := by omega
     obtain rfl : j = M := by omega
     have hO := HW.out
     rw [List.take_of_length_le (by rw [← HM.out]; exact Nat.le_refl _)] at hO
     obtain ⟨va, vc, hva, _, _⟩ := ownsRow_shape hO
     subst hva
     have HO := Lib.hid hO
     clear hO HW
     go_wp2_with fail
     go_ret
     have hO2 := ownsRow_base HO.out hz2
     obtain rfl : n = (U.filter fullB).length := by
      have := Enc.owns_len (E := edE) hO2
      rw [List.length_map] at this
      exact this.symm
     exact ⟨_, rfl, hO2, hy2.ext_trans hy⟩
end Go.Proofs.YthlmgoagnfkhdaaGreat

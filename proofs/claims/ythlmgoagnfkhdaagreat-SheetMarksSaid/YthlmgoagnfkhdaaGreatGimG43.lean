/- The document's Typed and Erased. Conditions: a text of at most 65536 bytes, at most 64 selections in it. -/
import Derived.Test.YthlmgoagnfkhdaaGreatGimG42
import Derived.Test.YthlmgoagnfkhdaaGreatGimG25
import Derived.Test.YthlmgoagnfkhdaaGreatGimG23
import Derived.Test.YthlmgoagnfkhdaaGreatGimG36
import Derived.Test.YthlmgoagnfkhdaaGreatGimG05
import Derived.Test.YthlmgoagnfkhdaaGreatGimG28
set_option maxHeartbeats 6400000
set_option maxRecDepth 1000000
set_option linter.unusedVariables false
set_option linter.unusedSimpArgs false
namespace Go.Gim
theorem filterP_step {T T' : List (Int × Int)} {x : Int × Int} (h : T' = T ++ [x]) : T'.filter fullB = T.filter fullB ++ (if fullB x then [x] else []) := by
 rw [h, List.filter_append]
 congr 1
 cases hb : fullB x with
 | true => rw [List.filter_cons_of_pos hb]; rfl
 | false => rw [List.filter_cons_of_neg (by simp [hb])]; rfl
end Go.Gim
namespace Go.Proofs.YthlmgoagnfkhdaaGreat
open Go.RowKit Go.Gim
theorem rfTyped_any (t : ByteArray) (ao : Option Addr) (cap : Nat) (q : List (Int × Int)) (w : World) (hr : Reads w 2 ao q.length (prCells q)) (hn : q.length ≤ 64) :
  Calls Tryz.prog 62 #[.slice ao q.length cap, .string t] w (edE.Out 59 (typedL t q) w) := by
 have hl1 : maxLen = 9223372036854775807 := rfl
 have Hr := Lib.hid hr
 have hTl : (typedL t q).length = q.length := List.length_map _
 unfold Enc.Out
 rw [hTl]
 obtain ⟨N, hN⟩ : ∃ N, N = q.length := ⟨_, rfl⟩
 have HN := Lib.hid hN
 rw [← hN] at hn ⊢
 clear hr hN hTl
 go_enter Tryz.func62, Tryz.ntmps62
 go_wp2_with fail
 go_loopw [5, 6] (fun v i wr => ∃ k : Nat, k ≤ N ∧ i = .int .i64 k ∧ Hid (wr.ownsRow w.heap.size 59 3 v k (edE.cells (typedL t (q.take k)))) ∧ Ext w wr) (fun _ i _ => N - (intOf i).toNat)
 case atStart => exact ⟨0, by omega, rfl, Lib.hid (World.ownsRow_nil _ _ _ _), Mod.refl _ _⟩
 case round =>
  obtain ⟨k, hk, rfl, HW, hx⟩ := hrel
  by_cases hlt : k < N
  ·have hlt' : (k : Int) < (N : Int) := by omega
   have hk0 : (0 : Int) ≤ (k : Int) := by omega
   obtain ⟨b, off, rfl⟩ := Hr.out.some (by rw [← HN.out]; omega)
   have hlk : k < q.length := by rw [← HN.out]; exact hlt
   obtain ⟨c0, c1⟩ := reads_pair (Hr.out.mod hx (fun _ _ f => f)) (List.getElem?_eq_getElem hlk)
   have Hts := Lib.hid (show typedL t (q.take (k + 1)) = typedL t (q.take k) ++ [⟨(spanI q[k]).1, (spanI q[k]).2, t⟩] by unfold typedL; rw [List.take_succ_eq_append_getElem hlk, List.map_append]; rfl)
   have HSp := Lib.hid (fun w' => refSpan_any q[k] w')
   generalize q[k] = x at *
   generalize spanI x = y at *
   obtain ⟨x1, x2⟩ := x
   obtain ⟨y1, y2⟩ := y
   simp only at c0 c1 HSp Hts
   obtain ⟨va, vc, hva, _, _⟩ := ownsRow_shape HW.out
   subst hva
   have hbl := World.block_lt_of_cell? wr _ c0
   clear hlk
   go_wp2_with fail
   refine (HSp.out _).mono ?_
   rintro e we ⟨rfl, hxe⟩
   have hye := hx.ext_trans hxe
   have HWe := Lib.hid (ownsRow_mod HW.out hxe (fun _ _ f => f))
   clear c0 c1 hbl hxe HW HSp
   go_wp2_with (at_builtin; refine wpList_append_reads rfl _ _ 35 rfl w.heap.size 59 _ 3 32 Tryz.info59 Tryz.underlying35 rfl (by decide) _ k _ rfl (HWe.out.alloc _) _ 1 1 [.int .i64 y1, .int .i64 y2, .string t] rfl ?hrd (edE.one ⟨y1, y2, t⟩) (by omega) (by omega) ?hbs ?_)
   case hrd =>
    have := Reads.new we 59 #[.int .i64 y1, .int .i64 y2, .string t] 3 1 rfl
    simpa using this
   case hbs => have := hye.size; simp; omega
   intro v' w4 hown hm4 hbk
   have hx4 := (hye.alloc _).over hm4 (fun i hi => (HWe.out.lt i hi).1)
   have Hown := Lib.hid hown
   clear hm4 hbk hown
   go_wp2_with fail
   go_roundw
   case rel => exact ⟨k + 1, by omega, by go_num, Lib.hid (by rw [Hts.out, edE.cells_append]; exact Hown.out), hx4⟩
   case measure => simp [intOf]; omega
  ·have hlt' : ¬ (k : Int) < (N : Int) := by omega
   obtain rfl : k = N := by omega
   have hS := HW.out
   rw [List.take_of_length_le (by rw [← HN.out]; exact Nat.le_refl _)] at hS
   obtain ⟨va, vc, hva, _, _⟩ := ownsRow_shape hS
   subst hva
   have HS := Lib.hid hS
   clear hS HW
   go_wp2_with fail
   go_ret
   exact ⟨_, rfl, HS.out, hx⟩
theorem rfErased_any (s : ByteArray) (forth : Bool) (ao : Option Addr) (cap : Nat) (q : List (Int × Int)) (w : World) (hs : s.size ≤ 65536) (hr : Reads w 2 ao q.length (prCells q)) (hn : q.length ≤ 64) (hin : InT s.size q) :
  Calls Tryz.prog 63 #[.string s, .slice ao q.length cap, .bool forth] w (edE.Out 59 (erasedL s.data.toList forth q) w) := by
 have hl1 : maxLen = 9223372036854775807 := rfl
 have Hr := Lib.hid hr
 have Hin := Lib.hid hin
 have HSt := Lib.hid (fun (a : Nat) (ha : a ≤ s.size) (way : Int) (h1 : 1 ≤ way) (h2 : way ≤ 10) w' => refStep_yes s a way w' hs ha h1 h2)
 have Hgi := Lib.hid (gones_in (t := s.data.toList) (forth := forth) (q := q) hin)
 have Hfin := Lib.hid (show erasedL s.data.toList forth q = (unionL ((q.map (goneS s.data.toList forth)).filter fullB)).map edOf by rw [gonesL_first hin]; rfl)
 have hfl := List.length_filter_le fullB (q.map (goneS s.data.toList forth))
 rw [List.length_map] at hfl
 have HUn := Lib.hid (fun a c w' (h' : Reads w' 2 a ((q.map (goneS s.data.toList forth)).filter fullB).length (prE.cells ((q.map (goneS s.data.toList forth)).filter fullB))) => rfUnion_any a c _ w' h' (by omega) (fun x hx => (Hgi.out x (List.mem_filter.1 hx).1).2.1))
 have hUl := unionL_len ((q.map (goneS s.data.toList forth)).filter fullB)
 unfold Enc.Out at HUn ⊢
 rw [Hfin.out]
 generalize hU : unionL ((q.map (goneS s.data.toList forth)).filter fullB) = U at *
 obtain ⟨N, hN⟩ : ∃ N, N = q.length := ⟨_, rfl⟩
 have HN := Lib.hid hN
 rw [← hN] at hn hfl ⊢
 have HUl := Lib.hid (show U.length ≤ 64 by omega)
 clear hr hin hN hfl hUl Hfin hU Hgi
 go_enter Tryz.func63, Tryz.ntmps63
 go_wp2_with fail
 go_loopw [7, 8] (fun v i wr => ∃ k n : Nat, k ≤ N ∧ i = .int .i64 k ∧ n ≤ k ∧ Hid (wr.ownsRow w.heap.size 49 2 v n (prE.cells (((q.map (goneS s.data.toList forth)).take k).filter fullB))) ∧ Ext w wr) (fun _ i _ => N - (intOf i).toNat)
 case atStart => exact ⟨0, 0, by omega, rfl, by omega, Lib.hid (World.ownsRow_nil _ _ _ _), Mod.refl _ _⟩
 case round =>
  obtain ⟨k, n, hk, rfl, hnk, HW, hx⟩ := hrel
  by_cases hlt : k < N
  ·have hlt' : (k : Int) < (N : Int) := by omega
   have hk0 : (0 : Int) ≤ (k : Int) := by omega
   obtain ⟨b, off, rfl⟩ := Hr.out.some (by rw [← HN.out]; omega)
   have hlk : k < q.length := by rw [← HN.out]; exact hlt
   obtain ⟨c0, c1⟩ := reads_pair (Hr.out.mod hx (fun _ _ f => f)) (List.getElem?_eq_getElem hlk)
   have Hts := Lib.hid (gonesT_step (t := s.data.toList) (forth := forth) (List.getElem?_eq_getElem hlk))
   obtain ⟨n1, n2, n3, n4⟩ := Hin.out _ (List.getElem_mem hlk)
   have HSp := Lib.hid (fun w' => refSpan_any q[k] w')
   generalize q[k] = x at *
   obtain ⟨va, vc, hva, _, _⟩ := ownsRow_shape HW.out
   subst hva
   have hbl := World.block_lt_of_cell? wr _ c0
   clear hlk
   obtain ⟨x1, x2⟩ := x
   simp only at c0 c1 HSp Hts n1 n2 n3 n4
   by_cases hpq : x1 = x2
   ·subst hpq
    have hsp : spanI (x1, x1) = (x1, x1) := by unfold spanI; simp
    rw [hsp] at HSp
    have hqn : ((x1.toNat : Nat) : Int) = x1 := Int.toNat_of_nonneg n2
    have HL := Lib.hid (fun w' => HSt.out x1.toNat (by omega) 1 (by omega) (by omega) w')
    have HR := Lib.hid (fun w' => HSt.out x1.toNat (by omega) 2 (by omega) (by omega) w')
    rw [hqn, show stepN s.data.toList x1.toNat 1 = leftN s.data.toList x1.toNat from rfl] at HL
    rw [hqn, show stepN s.data.toList x1.toNat 2 = rightN s.data.toList x1.toNat from rfl] at HR
    have HG1 := Lib.hid (show forth = true → goneS s.data.toList forth (x1, x1) = (x1, ((rightN s.data.toList x1.toNat : Nat) : Int)) from fun h => by rw [h]; unfold goneS; rw [if_pos rfl]; rfl)
    have HG2 := Lib.hid (show forth = false → goneS s.data.toList forth (x1, x1) = (((leftN s.data.toList x1.toNat : Nat) : Int), x1) from fun h => by rw [h]; unfold goneS; rw [if_pos rfl]; rfl)
    clear hsp hqn
    generalize rightN s.data.toList x1.toNat = V at *
    generalize leftN s.data.toList x1.toNat = Y at *
    unfold RStep at HL HR
    go_wp2_with fail
    refine (HSp.out _).mono ?_
    rintro e w1 ⟨rfl, hx1⟩
    clear c0 c1 hbl
    go_upto_region 6 with fail
    obtain ⟨u, hu⟩ : ∃ u, u = w1.alloc (.cells #[.int .i64 x1, .int .i64 x1] 49) := ⟨_, rfl⟩
    have hxu : Ext w1 u := by rw [hu]; exact (Mod.refl _ w1).alloc _
    have hbu : Blk u w1.heap.size 49 #[.int .i64 x1, .int .i64 x1] := by rw [hu]; exact Blk.new _ _ _
    rw [← hu]
    clear hu
    have c0 : u.cell? ⟨w1.heap.size, 0, none⟩ = some (.int .i64 x1) := hbu.cell 0
    have hlu := hbu.lt
    go_wp2_with fail
    refine (HL.out _).mono ?_
    rintro e w3 ⟨rfl, hx3⟩
    have hb3 := hbu.mod hx3 (fun f => f)
    clear c0 hlu
    have c0 : w3.cell? ⟨w1.heap.size, 0, none⟩ = some (.int .i64 x1) := hb3.cell 0
    have hlu := hb3.lt
    go_wp2_with fail
    refine (HR.out _).mono ?_
    rintro e w4 ⟨rfl, hx4⟩
    have hb4 := hb3.mod hx4 (fun f => f)
    have hy4 : Ext wr w4 := ((hx1.ext_trans hxu).ext_trans hx3).ext_trans hx4
    clear c0 hlu hb3 hbu HL HR hx3 hx4 hxu HSp
    have c0 : w4.cell? ⟨w1.heap.size, 0, none⟩ = some (.int .i64 x1) := hb4.cell 0
    have c1 : w4.cell? ⟨w1.heap.size, 1, none⟩ = some (.int .i64 x1) := hb4.cell 1
    have f0 := hb4.free 0
    have f1 := hb4.free 1
    have hlu := hb4.lt
    cases forth with
    | true =>
     have HG := Lib.hid (HG1.out rfl)
     rw [HG.out] at Hts
     go_upto_region 12 with fail
     have hb5 : Blk (w4.setCell ⟨w1.heap.size, 1, none⟩ (.int .i64 V)) w1.heap.size 49 #[.int .i64 x1, .int .i64 V] := hb4.set 1 _
     have hx5 : Ext wr (w4.setCell ⟨w1.heap.size, 1, none⟩ (.int .i64 V)) := hy4.setCell (p := ⟨w1.heap.size, 1, none⟩) (fun h => absurd h (Nat.not_lt.2 hx1.size)) _
     clear c0 c1 f0 f1 hlu hb4 hy4
     generalize w4.setCell ⟨w1.heap.size, 1, none⟩ (.int .i64 V) = w5 at *
     have c0 : World.cell? w5 ⟨w1.heap.size, 0, none⟩ = some (.int .i64 x1) := Blk.cell hb5 0
     have c1 : World.cell? w5 ⟨w1.heap.size, 1, none⟩ = some (.int .i64 ((V : Nat) : Int)) := Blk.cell hb5 1
     have hlu := Blk.lt hb5
     have hxw := hx.ext_trans hx5
     have Hom := Lib.hid (ownsRow_mod HW.out hx5 (fun _ _ f => f))
     have Hfs := Lib.hid (filterP_step Hts.out)
     by_cases hf : x1 < ((V : Nat) : Int)
     ·have b1 : decide (x1 < ((V : Nat) : Int)) = true := decide_eq_true hf
      have Hst := Lib.hid (Hfs.out.trans (by rw [if_pos (show fullB (x1, ((V : Nat) : Int)) = true from b1)]))
      go_wp2_with (at_builtin; refine wpList_append_reads rfl _ _ 114 rfl w.heap.size 49 _ 2 16 Tryz.info49 Tryz.underlying114 rfl (by decide) _ n _ rfl (Hom.out.alloc _) _ 1 1 [.int .i64 x1, .int .i64 ((V : Nat) : Int)] rfl ?hrd (prE.one (x1, ((V : Nat) : Int))) (by omega) (by omega) ?hbs ?_)
      case hrd =>
       have := Reads.new w5 49 #[.int .i64 x1, .int .i64 ((V : Nat) : Int)] 2 1 rfl
       simpa using this
      case hbs => have := hxw.size; simp; omega
      intro v' w7 hown hm4 hbk
      have hx7 := (hxw.alloc (.cells #[.int .i64 x1, .int .i64 ((V : Nat) : Int)] 49)).over hm4 (fun i hi => (Hom.out.lt i hi).1)
      have Hown := Lib.hid hown
      clear hm4 hbk hown c0 c1 hlu
      go_wp2_with fail
      go_roundw
      case rel => exact ⟨k + 1, n + 1, by omega, by go_num, by omega, Lib.hid (by rw [Hst.out, prE.cells_append]; exact Hown.out), hx7⟩
      case measure => simp [intOf]; omega
     ·have b1 : decide (x1 < ((V : Nat) : Int)) = false := decide_eq_false hf
      have Hst := Lib.hid (Hfs.out.trans (by rw [if_neg (show ¬ fullB (x1, ((V : Nat) : Int)) = true by rw [show fullB (x1, ((V : Nat) : Int)) = false from b1]; exact Bool.false_ne_true), List.append_nil]))
      go_wp2_with fail
      go_roundw
      case rel => exact ⟨k + 1, n, by omega, by go_num, by omega, Lib.hid (by rw [Hst.out]; exact Hom.out), hxw⟩
      case measure => simp [intOf]; omega
    | false =>
     have HG := Lib.hid (HG2.out rfl)
     rw [HG.out] at Hts
     go_upto_region 12 with fail
     have hb5 : Blk (w4.setCell ⟨w1.heap.size, 0, none⟩ (.int .i64 Y)) w1.heap.size 49 #[.int .i64 Y, .int .i64 x1] := hb4.set 0 _
     have hx5 : Ext wr (w4.setCell ⟨w1.heap.size, 0, none⟩ (.int .i64 Y)) := hy4.setCell (p := ⟨w1.heap.size, 0, none⟩) (fun h => absurd h (Nat.not_lt.2 hx1.size)) _
     clear c0 c1 f0 f1 hlu hb4 hy4
     generalize w4.setCell ⟨w1.heap.size, 0, none⟩ (.int .i64 Y) = w5 at *
     have c0 : World.cell? w5 ⟨w1.heap.size, 0, none⟩ = some (.int .i64 ((Y : Nat) : Int)) := Blk.cell hb5 0
     have c1 : World.cell? w5 ⟨w1.heap.size, 1, none⟩ = some (.int .i64 x1) := Blk.cell hb5 1
     have hlu := Blk.lt hb5
     have hxw := hx.ext_trans hx5
     have Hom := Lib.hid (ownsRow_mod HW.out hx5 (fun _ _ f => f))
     have Hfs := Lib.hid (filterP_step Hts.out)
     by_cases hf : ((Y : Nat) : Int) < x1
     ·have b1 : decide (((Y : Nat) : Int) < x1) = true := decide_eq_true hf
      have Hst := Lib.hid (Hfs.out.trans (by rw [if_pos (show fullB (((Y : Nat) : Int), x1) = true from b1)]))
      go_wp2_with (at_builtin; refine wpList_append_reads rfl _ _ 114 rfl w.heap.size 49 _ 2 16 Tryz.info49 Tryz.underlying114 rfl (by decide) _ n _ rfl (Hom.out.alloc _) _ 1 1 [.int .i64 ((Y : Nat) : Int), .int .i64 x1] rfl ?hrd (prE.one (((Y : Nat) : Int), x1)) (by omega) (by omega) ?hbs ?_)
      case hrd =>
       have := Reads.new w5 49 #[.int .i64 ((Y : Nat) : Int), .int .i64 x1] 2 1 rfl
       simpa using this
      case hbs => have := hxw.size; simp; omega
      intro v' w7 hown hm4 hbk
      have hx7 := (hxw.alloc (.cells #[.int .i64 ((Y : Nat) : Int), .int .i64 x1] 49)).over hm4 (fun i hi => (Hom.out.lt i hi).1)
      have Hown := Lib.hid hown
      clear hm4 hbk hown c0 c1 hlu
      go_wp2_with fail
      go_roundw
      case rel => exact ⟨k + 1, n + 1, by omega, by go_num, by omega, Lib.hid (by rw [Hst.out, prE.cells_append]; exact Hown.out), hx7⟩
      case measure => simp [intOf]; omega
     ·have b1 : decide (((Y : Nat) : Int) < x1) = false := decide_eq_false hf
      have Hst := Lib.hid (Hfs.out.trans (by rw [if_neg (show ¬ fullB (((Y : Nat) : Int), x1) = true by rw [show fullB (((Y : Nat) : Int), x1) = false from b1]; exact Bool.false_ne_true), List.append_nil]))
      go_wp2_with fail
      go_roundw
      case rel => exact ⟨k + 1, n, by omega, by go_num, by omega, Lib.hid (by rw [Hst.out]; exact Hom.out), hxw⟩
      case measure => simp [intOf]; omega
   ·have HG := Lib.hid (show goneS s.data.toList forth (x1, x2) = spanI (x1, x2) by unfold goneS; rw [if_neg hpq])
    rw [HG.out] at Hts
    have hsp1 : (spanI (x1, x2)).1 < (spanI (x1, x2)).2 := by unfold spanI; simp only; omega
    have hsp2 : 0 ≤ (spanI (x1, x2)).1 ∧ (spanI (x1, x2)).1 ≤ s.size := by unfold spanI; simp only; omega
    clear hpq
    generalize spanI (x1, x2) = y at *
    obtain ⟨y1, y2⟩ := y
    simp only at hsp1 hsp2
    have hqn : ((y1.toNat : Nat) : Int) = y1 := Int.toNat_of_nonneg hsp2.1
    have HL := Lib.hid (fun w' => HSt.out y1.toNat (by omega) 1 (by omega) (by omega) w')
    have HR := Lib.hid (fun w' => HSt.out y1.toNat (by omega) 2 (by omega) (by omega) w')
    rw [hqn] at HL HR
    generalize stepN s.data.toList y1.toNat 1 = Y at *
    generalize stepN s.data.toList y1.toNat 2 = V at *
    unfold RStep at HL HR
    have b2 : (y1 == y2) = false := by simp; omega
    clear hqn hsp2
    go_wp2_with fail
    refine (HSp.out _).mono ?_
    rintro e w1 ⟨rfl, hx1⟩
    clear c0 c1 hbl
    go_upto_region 6 with fail
    obtain ⟨u, hu⟩ : ∃ u, u = w1.alloc (.cells #[.int .i64 y1, .int .i64 y2] 49) := ⟨_, rfl⟩
    have hxu : Ext w1 u := by rw [hu]; exact (Mod.refl _ w1).alloc _
    have hbu : Blk u w1.heap.size 49 #[.int .i64 y1, .int .i64 y2] := by rw [hu]; exact Blk.new _ _ _
    rw [← hu]
    clear hu
    have c0 : u.cell? ⟨w1.heap.size, 0, none⟩ = some (.int .i64 y1) := hbu.cell 0
    have hlu := hbu.lt
    go_wp2_with fail
    refine (HL.out _).mono ?_
    rintro e w3 ⟨rfl, hx3⟩
    have hb3 := hbu.mod hx3 (fun f => f)
    clear c0 hlu
    have c0 : w3.cell? ⟨w1.heap.size, 0, none⟩ = some (.int .i64 y1) := hb3.cell 0
    have hlu := hb3.lt
    go_wp2_with fail
    refine (HR.out _).mono ?_
    rintro e w4 ⟨rfl, hx4⟩
    have hb4 := hb3.mod hx4 (fun f => f)
    have hy4 : Ext wr w4 := ((hx1.ext_trans hxu).ext_trans hx3).ext_trans hx4
    clear c0 hlu hb3 hbu HL HR hx3 hx4 hxu HSp
    have c0 : w4.cell? ⟨w1.heap.size, 0, none⟩ = some (.int .i64 y1) := hb4.cell 0
    have c1 : w4.cell? ⟨w1.heap.size, 1, none⟩ = some (.int .i64 y2) := hb4.cell 1
    have f0 := hb4.free 0
    have f1 := hb4.free 1
    have hlu := hb4.lt
    go_upto_region 12 with fail
    clear c0 c1 f0 f1 hlu
    have c0 : World.cell? w4 ⟨w1.heap.size, 0, none⟩ = some (.int .i64 y1) := Blk.cell hb4 0
    have c1 : World.cell? w4 ⟨w1.heap.size, 1, none⟩ = some (.int .i64 y2) := Blk.cell hb4 1
    have hlu := Blk.lt hb4
    have hxw := hx.ext_trans hy4
    have Hom := Lib.hid (ownsRow_mod HW.out hy4 (fun _ _ f => f))
    have Hfs := Lib.hid (filterP_step Hts.out)
    have hf := hsp1
    have b1 : decide (y1 < y2) = true := decide_eq_true hf
    have Hst := Lib.hid (Hfs.out.trans (by rw [if_pos (show fullB (y1, y2) = true from b1)]))
    go_wp2_with (at_builtin; refine wpList_append_reads rfl _ _ 114 rfl w.heap.size 49 _ 2 16 Tryz.info49 Tryz.underlying114 rfl (by decide) _ n _ rfl (Hom.out.alloc _) _ 1 1 [.int .i64 y1, .int .i64 y2] rfl ?hrd (prE.one (y1, y2)) (by omega) (by omega) ?hbs ?_)
    case hrd =>
     have := Reads.new w4 49 #[.int .i64 y1, .int .i64 y2] 2 1 rfl
     simpa using this
    case hbs => have := hxw.size; simp; omega
    intro v' w7 hown hm4 hbk
    have hx7 := (hxw.alloc (.cells #[.int .i64 y1, .int .i64 y2] 49)).over hm4 (fun i hi => (Hom.out.lt i hi).1)
    have Hown := Lib.hid hown
    clear hm4 hbk hown c0 c1 hlu
    go_wp2_with fail
    go_roundw
    case rel => exact ⟨k + 1, n + 1, by omega, by go_num, by omega, Lib.hid (by rw [Hst.out, prE.cells_append]; exact Hown.out), hx7⟩
    case measure => simp [intOf]; omega
  ·have hlt' : ¬ (k : Int) < (N : Int) := by omega
   obtain rfl : k = N := by omega
   have hO := HW.out
   rw [List.take_of_length_le (by rw [List.length_map, ← HN.out]; exact Nat.le_refl _)] at hO
   obtain ⟨a0, c0, rfl, hrd⟩ := Enc.owns_reads (E := prE) hO
   obtain rfl : n = ((q.map (goneS s.data.toList forth)).filter fullB).length := (Enc.owns_len (E := prE) hO).symm
   have HU2 := Lib.hid (HUn.out a0 c0 wr hrd)
   generalize ((q.map (goneS s.data.toList forth)).filter fullB).length = n at *
   clear hO HW HUn hrd
   go_wp2_with fail
   refine HU2.out.mono ?_
   rintro e w2 ⟨v, rfl, hov, hx2⟩
   obtain ⟨a1, c1, rfl, hrd⟩ := Enc.owns_reads (E := prE) hov
   have Hrd := Lib.hid hrd
   have hy2 := hx.ext_trans hx2
   have hz2 := hy2.size
   obtain ⟨M, hM⟩ : ∃ M, M = U.length := ⟨_, rfl⟩
   have HM := Lib.hid hM
   have hM1 : M ≤ 64 := by have := HUl.out; omega
   have Hln := Lib.hid (show (U.map edOf).length = M by rw [List.length_map]; exact hM.symm)
   rw [← hM] at Hrd ⊢
   clear hov hrd HU2 hx hx2 hM
   go_wp2_with fail
   go_loopw [15, 16] (fun v i wr => ∃ j : Nat, j ≤ M ∧ i = .int .i64 j ∧ Hid (wr.ownsRow w2.heap.size 59 3 v j (edE.cells ((U.map edOf).take j))) ∧ Ext w2 wr) (fun _ i _ => M - (intOf i).toNat)
   case atStart => exact ⟨0, by omega, rfl, Lib.hid (World.ownsRow_nil _ _ _ _), Mod.refl _ _⟩
   case round =>
    obtain ⟨j, hj, rfl, HW, hy⟩ := hrel
    by_cases hlt : j < M
    ·have hlt' : (j : Int) < (M : Int) := by omega
     have hk0 : (0 : Int) ≤ (j : Int) := by omega
     have hlj : j < U.length := by rw [← HM.out]; exact hlt
     obtain ⟨b2, off2, rfl⟩ := Hrd.out.some (by omega)
     obtain ⟨c0, c1'⟩ := rdSp_at (Hrd.out.mod hy (fun _ _ f => f)) (List.getElem?_eq_getElem hlj)
     have Hst := Lib.hid (show (U.map edOf).take (j + 1) = (U.map edOf).take j ++ [edOf U[j]] by rw [List.take_succ_eq_append_getElem (by simpa using hlj)]; simp)
     generalize U[j] = x at *
     obtain ⟨va, vc, hva, _, _⟩ := ownsRow_shape HW.out
     subst hva
     have hbl := World.block_lt_of_cell? wr _ c0
     clear hlj
     go_wp2_with (at_builtin; refine wpList_append_reads rfl _ _ 35 rfl w2.heap.size 59 _ 3 32 Tryz.info59 Tryz.underlying35 rfl (by decide) _ j _ rfl (HW.out.alloc _) _ 1 1 [.int .i64 x.1, .int .i64 x.2, .string ⟨#[]⟩] rfl ?hrd (edE.one (edOf x)) (by omega) (by omega) ?hbs ?_)
     case hrd =>
      have := Reads.new wr 59 #[.int .i64 x.1, .int .i64 x.2, .string ⟨#[]⟩] 3 1 rfl
      simpa using this
     case hbs => have := hy.size; simp; omega
     intro v' w4 hown hm4 hbk
     have hx4 := (hy.alloc (.cells #[.int .i64 x.1, .int .i64 x.2, .string ⟨#[]⟩] 59)).over hm4 (fun i hi => (HW.out.lt i hi).1)
     have Hown := Lib.hid hown
     clear hm4 hbk hown c0 c1' hbl
     go_wp2_with fail
     go_roundw
     case rel => exact ⟨j + 1, by omega, by go_num, Lib.hid (by rw [Hst.out, edE.cells_append]; exact Hown.out), hx4⟩
     case measure => simp [intOf]; omega
    ·have hlt' : ¬ (j : Int) < (M : Int) := by omega
     obtain rfl : j = M := by omega
     have hO := HW.out
     rw [List.take_of_length_le (by rw [Hln.out]; exact Nat.le_refl _)] at hO
     obtain ⟨va, vc, hva, _, _⟩ := ownsRow_shape hO
     subst hva
     have HO := Lib.hid hO
     have HMj := HM.out
     clear hO HW
     subst HMj
     go_wp2_with fail
     go_ret
     have hO2 := ownsRow_base HO.out hz2
     exact ⟨_, rfl, by first | exact hO2 | simpa using hO2, hy2.ext_trans hy⟩
end Go.Proofs.YthlmgoagnfkhdaaGreat
namespace Go.Gim
open Go Go.RowKit
structure Ds where
 k : Int
 a : Int
 b : Int
 p : Bool
 t : ByteArray
 ao : Option Addr
 cap : Nat
 es : List Ed
 so : Option Addr
 scap : Nat
 sl : List (Int × Int)
def dsE : Enc Ds := ⟨7, by decide, fun x => [.int .i64 x.k, .int .i64 x.a, .int .i64 x.b, .bool x.p, .string x.t, .slice x.ao x.es.length x.cap, .slice x.so x.sl.length x.scap], fun _ => rfl, fun x u hu => by simp at hu; rcases hu with rfl | rfl | rfl | rfl | rfl | rfl | rfl <;> rfl⟩
structure DsOk (w : World) (x : Ds) : Prop where
 rd : Reads w 3 x.ao x.es.length (edE.cells x.es)
 len : x.es.length ≤ maxLen
 ed : ∀ e ∈ x.es, e.t.size ≤ maxLen ∧ (Lit.int .i64 e.a).wf = true ∧ (Lit.int .i64 e.b).wf = true
 wa : (Lit.int .i64 x.a).wf = true
 wb : (Lit.int .i64 x.b).wf = true
 sd : Reads w 2 x.so x.sl.length (prCells x.sl)
 slen : x.sl.length ≤ maxLen
 tl : x.t.size ≤ maxLen
theorem DsOk.ext {w w' : World} {x : Ds} (h : DsOk w x) (hm : Ext w w') : DsOk w' x := ⟨h.rd.mod hm (fun _ _ f => f), h.len, h.ed, h.wa, h.wb, h.sd.mod hm (fun _ _ f => f), h.slen, h.tl⟩
theorem reads_ds {w : World} {b off n : Nat} {L : List Ds} (h : Reads w 7 (some ⟨b, off, none⟩) n (dsE.cells L)) {i : Nat} {x : Ds} (hx : L[i]? = some x) :
  (w.cell? ⟨b, off + i * 7, none⟩ = some (.int .i64 x.k) ∧ w.cell? ⟨b, off + i * 7 + 1, none⟩ = some (.int .i64 x.a) ∧ w.cell? ⟨b, off + i * 7 + 2, none⟩ = some (.int .i64 x.b) ∧ w.cell? ⟨b, off + i * 7 + 3, none⟩ = some (.bool x.p)) ∧ w.cell? ⟨b, off + i * 7 + 4, none⟩ = some (.string x.t) ∧ w.cell? ⟨b, off + i * 7 + 5, none⟩ = some (.slice x.ao x.es.length x.cap) ∧ w.cell? ⟨b, off + i * 7 + 6, none⟩ = some (.slice x.so x.sl.length x.scap) :=
 ⟨⟨Enc.reads_at (E := dsE) (j := 0) h hx rfl, Enc.reads_at (E := dsE) (j := 1) h hx rfl, Enc.reads_at (E := dsE) (j := 2) h hx rfl, Enc.reads_at (E := dsE) (j := 3) h hx rfl⟩, Enc.reads_at (E := dsE) (j := 4) h hx rfl, Enc.reads_at (E := dsE) (j := 5) h hx rfl, Enc.reads_at (E := dsE) (j := 6) h hx rfl⟩
def bigS (x : Ds) : Bool := MuchB 6 40 x.es || decide (40 < x.t.size) || decide (6 < x.sl.length)
def muchS (L : List Ds) : Bool := L.any bigS
theorem muchB_in {m n : Int} {es : List Ed} (h : MuchB m n es = false) : (es.length : Int) ≤ m ∧ ∀ e ∈ es, (e.t.size : Int) ≤ n := by
 unfold MuchB at h
 split at h
 ·cases h
 ·exact ⟨by omega, muchE_no es n h⟩
theorem bigS_no {x : Ds} (h : bigS x = false) : x.es.length ≤ 6 ∧ (∀ e ∈ x.es, e.t.size ≤ 40) ∧ x.t.size ≤ 40 ∧ x.sl.length ≤ 6 := by
 unfold bigS at h
 rw [Bool.or_eq_false_iff, Bool.or_eq_false_iff, decide_eq_false_iff_not, decide_eq_false_iff_not] at h
 obtain ⟨⟨h1, h2⟩, h3⟩ := h
 obtain ⟨h4, h5⟩ := muchB_in h1
 exact ⟨by omega, fun e he => by have := h5 e he; omega, by omega, by omega⟩
theorem muchS_no {L : List Ds} (h : muchS L = false) : ∀ x ∈ L, x.es.length ≤ 6 ∧ (∀ e ∈ x.es, e.t.size ≤ 40) ∧ x.t.size ≤ 40 ∧ x.sl.length ≤ 6 := by
 intro x hx
 refine bigS_no ?_
 unfold muchS at h
 cases hb : bigS x with
 | false => rfl
 | true => rw [List.any_eq_true.2 ⟨x, hx, hb⟩] at h; cases h
end Go.Gim
namespace Go.Proofs.YthlmgoagnfkhdaaGreat
open Go.ChangeShapes Go.WideShapes Go.ChangeAt Go.RowKit Go.Gim
def edN (n : Nat) (e : Ed) : Ed := ⟨(lowN e.a (n + 2) : Nat), ((lowN e.a (n + 2) : Nat) : Int) + (lowN e.b 4 : Nat), e.t⟩
def editsN (n : Nat) (es : List Ed) : List Ed := es.map (edN n)
theorem editsN_len (n : Nat) (es : List Ed) : (editsN n es).length = es.length := List.length_map _
theorem editsN_snoc (n : Nat) {es : List Ed} {k : Nat} {x : Ed} (hx : es[k]? = some x) : editsN n (es.take (k + 1)) = editsN n (es.take k) ++ [edN n x] := by
 obtain ⟨hk, rfl⟩ := List.getElem?_eq_some_iff.1 hx
 unfold editsN
 rw [List.take_succ_eq_append_getElem hk, List.map_append]; rfl
theorem editsN_t {n c : Nat} {es : List Ed} (h : ∀ e ∈ es, e.t.size ≤ c) : ∀ e ∈ editsN n es, e.t.size ≤ c := by
 intro e he
 obtain ⟨x, hx, rfl⟩ := List.mem_map.1 he
 exact h x hx
def pkN (n : Nat) (x : Int × Int) : Int × Int := ((lowN x.1 (n + 1) : Nat), (lowN x.2 (n + 1) : Nat))
def picksN (n : Nat) (l : List (Int × Int)) : List (Int × Int) := l.map (pkN n)
theorem picksN_len (n : Nat) (l : List (Int × Int)) : (picksN n l).length = l.length := List.length_map _
theorem picksN_snoc (n : Nat) {l : List (Int × Int)} {k : Nat} {x : Int × Int} (hx : l[k]? = some x) : picksN n (l.take (k + 1)) = picksN n (l.take k) ++ [pkN n x] := by
 obtain ⟨hk, rfl⟩ := List.getElem?_eq_some_iff.1 hx
 unfold picksN
 rw [List.take_succ_eq_append_getElem hk, List.map_append]; rfl
theorem open_twos_in {H : Type} {enc : TypeId × Value → H} {P : Program} {W : World} {t e i : TypeId} {cs : List Value} {fuel : Nat} {y : DataW H × List MemPlace} (ht : P.underlying t = some (.slice e)) (he : P.underlying e = some (.array 2 i)) (hc : P.cellsOf e = 2)
  (hi : P.underlying i = some (.int .i64)) (hci : P.cellsOf i = 1)
  (hf : DataW.trod enc P W 0 (fun _ => true) true fuel t cs = some y) :
  ∃ (ao : Option Addr) (cap : Nat) (L : List (Int × Int)), cs = [.slice ao L.length cap] ∧ Reads W 2 ao L.length (prCells L) ∧ L.length ≤ maxLen := by
 obtain ⟨ao, cap, els, rfl, hr, hm, hel⟩ := open_slice_in (enc := enc) 2 ht hc (by omega) hf
 obtain ⟨L, rfl, hq⟩ := list_choose prCells1 (fun _ => True) els (fun el h => by
  obtain ⟨hl, n, x, hx⟩ := hel el h
  obtain ⟨xs, m, _, _, _, hxl, g⟩ := DataW.trod_array he hx
  obtain ⟨c0, c1, hcs⟩ := Go.Joins.array2 (cs := el.toArray) (by simpa using hl)
  have hcs : el = [c0, c1] := by simpa using congrArg Array.toList hcs
  subst hcs
  match xs, hxl with
  | [y0, y1], _ =>
   have g0 := g 0 (by omega)
   have g1 := g 1 (by omega)
   rw [hci] at g0 g1
   simp at g0 g1
   obtain ⟨a0, e0, _, l0⟩ := DataW.trod_int hi g0
   obtain ⟨a1, e1, _, l1⟩ := DataW.trod_int hi g1
   simp at e0 e1
   subst e0 e1
   exact ⟨⟨a0, a1⟩, rfl, trivial⟩)
 rw [show (L.map prCells1).flatten = prCells L from rfl, List.length_map] at hr
 rw [List.length_map] at hm ⊢
 exact ⟨ao, cap, L, rfl, hr, hm⟩
theorem open_deedsS {H : Type} {enc : TypeId × Value → H} {P : Program} {W : World} {b0 : Nat} {t e et ee sp st se si : TypeId} {f0 f1 f2 f3 f4 f5 f6 q0 q1 g0 g1 : Field} {v : Value} {d : DataW H} {ps : List MemPlace} (ht : P.underlying t = some (.slice e)) (he : P.underlying e = some (.struct #[f0, f1, f2, f3, f4, f5, f6])) (hone : Go.Deep.oneCellFields P #[f0, f1, f2, f3, f4, f5, f6] = true) (hc : P.cellsOf e = 7)
  (u0 : P.underlying f0.type = some (.int .i64)) (u1 : P.underlying f1.type = some (.int .i64)) (u2 : P.underlying f2.type = some (.int .i64)) (u3 : P.underlying f3.type = some .bool) (u4 : P.underlying f4.type = some .string) (u5 : f5.type = et) (u6 : f6.type = st)
  (het : P.underlying et = some (.slice ee)) (hee : P.underlying ee = some (.struct #[q0, q1])) (hce : P.cellsOf ee = 3)
  (hs : P.underlying sp = some (.struct #[g0, g1])) (t0 : q0.type = sp ∧ q0.offset = 0 ∧ P.cellsOf sp = 2) (o1 : q1.offset = 2 ∧ P.cellsOf q1.type = 1) (p0 : g0.offset = 0 ∧ P.cellsOf g0.type = 1) (p1 : g1.offset = 1 ∧ P.cellsOf g1.type = 1)
  (v0 : P.underlying g0.type = some (.int .i64)) (v1 : P.underlying g1.type = some (.int .i64)) (v2 : P.underlying q1.type = some .string)
  (hst : P.underlying st = some (.slice se)) (hse : P.underlying se = some (.array 2 si)) (hcs : P.cellsOf se = 2) (hsi : P.underlying si = some (.int .i64)) (hcsi : P.cellsOf si = 1)
  (hval : Value.okWide P W .any b0 t v) (hd : DataW.Trod enc P W 0 (fun _ => true) true t v d ps) :
  ∃ (ao : Option Addr) (cap : Nat) (L : List Ds), v = .slice ao L.length cap ∧ Reads W 7 ao L.length (dsE.cells L) ∧ L.length ≤ maxLen ∧ ∀ x ∈ L, DsOk W x := by
 obtain ⟨ao, cap, els, rfl, hr, hm, hel⟩ := open_slice_reads (enc := enc) 7 ht hc (by omega) hval hd
 obtain ⟨L, rfl, hq⟩ := list_choose dsE.f (DsOk W) els (fun el h => by
  obtain ⟨hl, n, x, hx⟩ := hel el h
  obtain ⟨xs, m, _, _, _, hlen, hfs⟩ := DataW.trod_struct he hx
  obtain ⟨c0, c1, c2, c3, c4, c5, c6, hcs7⟩ := array7 (cs := el.toArray) (by simpa using hl)
  have hcs7 : el = [c0, c1, c2, c3, c4, c5, c6] := by simpa using congrArg Array.toList hcs7
  subst hcs7
  match xs, hlen with
  | [y0, y1, y2, y3, y4, y5, y6], _ =>
   obtain ⟨o0, k0⟩ := Go.Deep.hone_of hone 0 f0 rfl
   obtain ⟨o1', k1⟩ := Go.Deep.hone_of hone 1 f1 rfl
   obtain ⟨o2, k2⟩ := Go.Deep.hone_of hone 2 f2 rfl
   obtain ⟨o3, k3⟩ := Go.Deep.hone_of hone 3 f3 rfl
   obtain ⟨o4, k4⟩ := Go.Deep.hone_of hone 4 f4 rfl
   obtain ⟨o5, k5⟩ := Go.Deep.hone_of hone 5 f5 rfl
   obtain ⟨o6, k6⟩ := Go.Deep.hone_of hone 6 f6 rfl
   have g0' := hfs 0 f0 rfl
   have g1' := hfs 1 f1 rfl
   have g2' := hfs 2 f2 rfl
   have g3' := hfs 3 f3 rfl
   have g4' := hfs 4 f4 rfl
   have g5' := hfs 5 f5 rfl
   have g6' := hfs 6 f6 rfl
   rw [o0, k0] at g0'
   rw [o1', k1] at g1'
   rw [o2, k2] at g2'
   rw [o3, k3] at g3'
   rw [o4, k4] at g4'
   rw [o5, k5, u5] at g5'
   rw [o6, k6, u6] at g6'
   obtain ⟨a0, e0, _, l0⟩ := DataW.trod_int u0 g0'
   obtain ⟨a1, e1, _, l1⟩ := DataW.trod_int u1 g1'
   obtain ⟨a2, e2, _, l2⟩ := DataW.trod_int u2 g2'
   obtain ⟨a3, e3, _⟩ := DataW.trod_bool u3 g3'
   obtain ⟨a4, e4, _, l4⟩ := DataW.trod_string u4 g4'
   obtain ⟨ao5, cap5, es, e5, r5, m5, q5⟩ := open_edits_in het hee hce hs t0 o1 p0 p1 v0 v1 v2 g5'
   obtain ⟨ao6, cap6, sl, e6, r6, m6⟩ := open_twos_in hst hse hcs hsi hcsi g6'
   simp at e0 e1 e2 e3 e4 e5 e6
   subst e0 e1 e2 e3 e4 e5 e6
   exact ⟨⟨a0, a1, a2, a3, a4, ao5, cap5, es, ao6, cap6, sl⟩, rfl, ⟨r5, m5, q5, l1, l2, r6, m6, l4⟩⟩)
 rw [show (L.map dsE.f).flatten = dsE.cells L from rfl, List.length_map] at hr
 rw [List.length_map] at hm ⊢
 exact ⟨ao, cap, L, rfl, hr, hm, hq⟩
theorem muchS_any (many : Nat) (ao : Option Addr) (cap : Nat) (L : List Ds) (w : World) (hr : Reads w 7 ao L.length (dsE.cells L)) (hok : ∀ x ∈ L, DsOk w x) (hn : L.length ≤ maxLen) (hy : many ≤ 100) :
  Calls Tryz.prog 33 #[.int .i64 many, .slice ao L.length cap] w fun e w' => e = .returned (.bool (if many < L.length then true else muchS L)) ∧ w' = w := by
 unfold maxLen at hn
 by_cases hmm : many < L.length
 ·rw [if_pos hmm]
  have hm1 : (many : Int) < (L.length : Int) := by omega
  clear hr hok
  go_enter Tryz.func33, Tryz.ntmps33
  go_wp2_with fail
  go_ret
  exact ⟨rfl, rfl⟩
 ·rw [if_neg hmm]
  have hm1 : ¬ (many : Int) < (L.length : Int) := by omega
  have HX := Lib.hid (show muchS (L.drop 0) = muchS L from rfl)
  generalize muchS L = X at *
  have Hr := Lib.hid hr
  have Hok := Lib.hid hok
  clear hr hok
  go_enter Tryz.func33, Tryz.ntmps33
  go_wp2_with fail
  go_loop [5] (fun s2 => ∃ (k : Nat), k ≤ L.length ∧ s2 = .int .i64 k ∧ Hid (muchS (L.drop k) = X)) (fun s2 => L.length - (intOf s2).toNat)
  case atStart => exact ⟨0, by omega, rfl, HX⟩
  case round =>
   obtain ⟨k, hk, rfl, HM⟩ := hrel
   by_cases hlt : k < L.length
   ·have hlt' : (k : Int) < (L.length : Int) := by omega
    have hk0 : (0 : Int) ≤ (k : Int) := by omega
    obtain ⟨b, off, rfl⟩ := Hr.out.some (by omega)
    obtain ⟨_, hc4, hc5, hc6⟩ := reads_ds Hr.out (List.getElem?_eq_getElem hlt)
    have hd := List.drop_eq_getElem_cons hlt
    have hM := HM.out
    rw [hd] at hM
    have ho := Hok.out _ (List.getElem_mem hlt)
    generalize L[k] = y at *
    have HC := Lib.hid (MuchE_any 6 40 y.ao y.cap y.es w ho.rd ho.len (by omega) (by omega) (by omega))
    have htl := ho.tl
    have hsl := ho.slen
    unfold maxLen at htl hsl
    unfold muchS at hM
    rw [List.any_cons] at hM
    unfold bigS at hM
    generalize y.es.length = n at *
    generalize y.sl.length = m at *
    obtain ⟨z, hzz⟩ : ∃ z, y.t.size = z := ⟨_, rfl⟩
    rw [hzz] at hM htl
    cases hB : MuchB 6 40 y.es with
    | true =>
     rw [hB] at HC hM
     have hM2 := Lib.hid (show true = X by simpa using hM)
     clear hM hd ho hB
     go_wp2_with fail
     refine HC.out.mono ?_
     rintro e w1 ⟨rfl, rfl⟩
     go_wp2_with fail
     go_ret
     exact ⟨ret_bool hM2.out, rfl⟩
    | false =>
     rw [hB] at HC hM
     by_cases hz : 40 < z
     ·have hM2 := Lib.hid (show true = X by rw [← hM, decide_eq_true hz]; rfl)
      have hz1 : (40 : Int) < (y.t.size : Int) := by omega
      have hz3 : decide ((40 : Int) < (y.t.size : Int)) = true := decide_eq_true hz1
      clear hM hd ho hB hz hzz
      go_wp2_with fail
      refine HC.out.mono ?_
      rintro e w1 ⟨rfl, rfl⟩
      go_wp2_with fail
      go_ret
      exact ⟨ret_bool hM2.out, rfl⟩
     ·have hz1 : ¬ (40 : Int) < (y.t.size : Int) := by omega
      have hz3 : decide ((40 : Int) < (y.t.size : Int)) = false := decide_eq_false hz1
      rw [decide_eq_false hz] at hM
      by_cases hy2 : 6 < m
      ·have hM2 := Lib.hid (show true = X by rw [← hM, decide_eq_true hy2]; rfl)
       have hy1 : (6 : Int) < (m : Int) := by omega
       have hy3 : decide ((6 : Int) < (m : Int)) = true := decide_eq_true hy1
       clear hM hd ho hB hz hy2 hzz
       go_wp2_with fail
       refine HC.out.mono ?_
       rintro e w1 ⟨rfl, rfl⟩
       go_wp2_with fail
       go_ret
       exact ⟨ret_bool hM2.out, rfl⟩
      ·have hy1 : ¬ (6 : Int) < (m : Int) := by omega
       have hy3 : decide ((6 : Int) < (m : Int)) = false := decide_eq_false hy1
       rw [decide_eq_false hy2] at hM
       have hM2 := Lib.hid (show muchS (L.drop (k + 1)) = X from hM)
       clear hM hd ho hB hz hy2 hzz
       go_wp2_with fail
       refine HC.out.mono ?_
       rintro e w1 ⟨rfl, rfl⟩
       go_wp2_with fail
       go_round
       case rel => exact ⟨k + 1, by omega, by go_num, hM2⟩
       case measure => simp [intOf]; omega
   ·have hlt' : ¬ (k : Int) < (L.length : Int) := by omega
    have hM := HM.out
    rw [List.drop_of_length_le (by omega)] at hM
    have HM2 := Lib.hid hM
    clear hM
    go_wp2_with fail
    go_ret
    exact ⟨ret_bool HM2.out, rfl⟩
theorem editsN_any (n : Nat) (ao : Option Addr) (cap : Nat) (es : List Ed) (w : World) (hr : Reads w 3 ao es.length (edE.cells es)) (hn : es.length ≤ 1000) (hn2 : n ≤ 900000) :
  Calls Tryz.prog 34 #[.int .i64 n, .slice ao es.length cap] w (edE.Out 59 (editsN n es) w) := by
 have hl1 : maxLen = 9223372036854775807 := rfl
 obtain ⟨N, hN⟩ : ∃ N, N = es.length := ⟨_, rfl⟩
 have HN := Lib.hid hN
 have Hr := Lib.hid hr
 unfold Enc.Out
 rw [editsN_len, ← hN]
 rw [← hN] at hn
 clear hr hN
 go_enter Tryz.func34, Tryz.ntmps34
 go_wp2_with fail
 go_loopw [5, 6] (fun v i wr => ∃ k : Nat, k ≤ N ∧ i = .int .i64 k ∧ Hid (wr.ownsRow w.heap.size 59 3 v k (edE.cells (editsN n (es.take k)))) ∧ Ext w wr) (fun _ i _ => N - (intOf i).toNat)
 case atStart => exact ⟨0, by omega, rfl, Lib.hid (World.ownsRow_nil _ _ _ _), Mod.refl _ _⟩
 case round =>
  obtain ⟨k, hk, rfl, HO, hx⟩ := hrel
  by_cases hlt : k < N
  ·have hlt' : (k : Int) < (N : Int) := by omega
   have hk0 : (0 : Int) ≤ (k : Int) := by omega
   have hlk : k < es.length := by rw [← HN.out]; exact hlt
   obtain ⟨b, off, rfl⟩ := Hr.out.some (by rw [← HN.out]; omega)
   obtain ⟨q0, q1, q2⟩ := reads_ed (Hr.out.mod hx (fun _ _ f => f)) (List.getElem?_eq_getElem hlk)
   have Hst := Lib.hid (editsN_snoc n (List.getElem?_eq_getElem hlk))
   generalize es[k] = x at *
   obtain ⟨p, q, t⟩ := x
   unfold edN at Hst
   simp only at q0 q1 q2 Hst
   have BA := lowN_lt p (n + 2) (by omega)
   have BB := lowN_lt q 4 (by omega)
   have L1 := fun v => lowC p (n + 2) ((n : Int) + 2) (by omega) (by omega) (by omega) v
   have L2 := Lib.hid (fun v => lowC q 4 4 rfl (by omega) (by omega) v)
   generalize lowN p (n + 2) = A at *
   generalize lowN q 4 = B at *
   obtain ⟨va, vc, hva, _, _⟩ := ownsRow_shape HO.out
   subst hva
   have hbl := World.block_lt_of_cell? wr _ q0
   go_wp2_with fail
   refine (L1 _).mono ?_
   rintro e wz ⟨rfl, rfl⟩
   go_upto_region 6 with fail
   refine wp_region_ext_tail1 18 (.slice va k vc) _ rfl rfl rfl (by kernel_rfl) (by kernel_rfl) (fun _ _ _ _ h => h) ?_
   simp only [List.take_succ_cons, List.take_zero, List.drop_succ_cons, List.drop_zero, Act.put, List.setIfInBounds_toArray, List.set_cons_zero, List.set_cons_succ, Nat.reduceSub]
   repeat (go_big_quiet_step (exact Calls.ext_of_same (L2.out _)))
   refine wpQuiet_nil ?_
   intro we hxe
   have hxm := hx.ext_trans hxe
   have Hom := Lib.hid (ownsRow_mod HO.out hxe (fun _ _ f => f))
   clear q0 q1 q2 L1 L2 hbl
   go_wp2_with (at_builtin; refine wpList_append_reads rfl _ _ 35 rfl w.heap.size 59 _ 3 32 Tryz.info59 Tryz.underlying35 rfl (by decide) _ k _ rfl (Hom.out.alloc _) _ 1 1 [.int .i64 (A : Nat), .int .i64 ((A : Int) + B), .string t] rfl ?hrd (edE.one ⟨(A : Nat), (A : Int) + B, t⟩) (by omega) (by omega) ?hbs ?_)
   case hrd =>
    have := Reads.new we 59 #[.int .i64 (A : Nat), .int .i64 ((A : Int) + B), .string t] 3 1 rfl
    simpa using this
   case hbs => have := hxm.size; simp at this ⊢; omega
   intro v' w7 hown hm7 hbk
   have hx7 := (hxm.alloc (.cells #[.int .i64 (A : Nat), .int .i64 ((A : Int) + B), .string t] 59)).trans hm7 (fun i hi e => by have h1 := (Hom.out.lt i e).1; omega)
   have Hown := Lib.hid hown
   clear hm7 hbk hown hxm
   go_wp2_with fail
   go_roundw
   case rel => exact ⟨k + 1, by omega, by go_num, Lib.hid (by rw [Hst.out, edE.cells_append]; exact Hown.out), hx7⟩
   case measure => simp [intOf]; omega
  ·have hlt' : ¬ (k : Int) < (N : Int) := by omega
   obtain rfl : k = N := by omega
   have hO := HO.out
   rw [List.take_of_length_le (by rw [← HN.out]; exact Nat.le_refl _)] at hO
   have HO2 := Lib.hid hO
   clear hO HO
   go_wp2_with fail
   go_ret
   exact ⟨_, rfl, HO2.out, hx⟩
theorem picksN_any (n : Nat) (ao : Option Addr) (cap : Nat) (l : List (Int × Int)) (w : World) (hr : Reads w 2 ao l.length (prCells l)) (hn : l.length ≤ 1000) (hn2 : n ≤ 900000) :
  Calls Tryz.prog 15 #[.int .i64 n, .slice ao l.length cap] w fun e w' => ∃ v, e = .returned v ∧ w'.ownsRow w.heap.size 47 2 v l.length (prCells (picksN n l)) ∧ Ext w w' := by
 have hl1 : maxLen = 9223372036854775807 := rfl
 obtain ⟨N, hN⟩ : ∃ N, N = l.length := ⟨_, rfl⟩
 have HN := Lib.hid hN
 have Hr := Lib.hid hr
 rw [← hN]
 rw [← hN] at hn
 clear hr hN
 go_enter Tryz.func15, Tryz.ntmps15
 go_wp2_with fail
 go_loopw [5, 6] (fun v i wr => ∃ k : Nat, k ≤ N ∧ i = .int .i64 k ∧ Hid (wr.ownsRow w.heap.size 47 2 v k (prCells (picksN n (l.take k)))) ∧ Ext w wr) (fun _ i _ => N - (intOf i).toNat)
 case atStart => exact ⟨0, by omega, rfl, Lib.hid (World.ownsRow_nil _ _ _ _), Mod.refl _ _⟩
 case round =>
  obtain ⟨k, hk, rfl, HO, hx⟩ := hrel
  by_cases hlt : k < N
  ·have hlt' : (k : Int) < (N : Int) := by omega
   have hk0 : (0 : Int) ≤ (k : Int) := by omega
   have hlk : k < l.length := by rw [← HN.out]; exact hlt
   obtain ⟨b, off, rfl⟩ := Hr.out.some (by rw [← HN.out]; omega)
   obtain ⟨q0, q1⟩ := reads_pair (Hr.out.mod hx (fun _ _ f => f)) (List.getElem?_eq_getElem hlk)
   have Hst := Lib.hid (picksN_snoc n (List.getElem?_eq_getElem hlk))
   generalize l[k] = x at *
   obtain ⟨p, q⟩ := x
   unfold pkN at Hst
   simp only at q0 q1 Hst
   have BA := lowN_lt p (n + 1) (by omega)
   have BB := lowN_lt q (n + 1) (by omega)
   have L1 := Lib.hid (fun v => lowC p (n + 1) ((n : Int) + 1) (by omega) (by omega) (by omega) v)
   have L2 := Lib.hid (fun v => lowC q (n + 1) ((n : Int) + 1) (by omega) (by omega) (by omega) v)
   have s1 : IntKind.i64.wrap ((n : Int) + 1) = (n : Int) + 1 := IntWalk.i64_in _ (by omega)
   generalize lowN p (n + 1) = A at *
   generalize lowN q (n + 1) = B at *
   obtain ⟨va, vc, hva, _, _⟩ := ownsRow_shape HO.out
   subst hva
   have hbl := World.block_lt_of_cell? wr _ q0
   go_upto_region 5 with fail
   refine wp_region_ext_tail1 18 (.slice va k vc) _ rfl rfl rfl (by kernel_rfl) (by kernel_rfl) (fun _ _ _ _ h => h) ?_
   simp only [List.take_succ_cons, List.take_zero, List.drop_succ_cons, List.drop_zero, Act.put, List.setIfInBounds_toArray, List.set_cons_zero, List.set_cons_succ, Nat.reduceSub]
   repeat (go_big_quiet_step (first | (with_reducible exact Calls.ext_of_same (L1.out _)) | (with_reducible exact Calls.ext_of_same (L2.out _))))
   refine wpQuiet_nil ?_
   intro we hxe
   have hxm := hx.ext_trans hxe
   have Hom := Lib.hid (ownsRow_mod HO.out hxe (fun _ _ f => f))
   clear q0 q1 L1 L2 hbl s1
   go_wp2_with (at_builtin; refine wpList_append_reads rfl _ _ 32 rfl w.heap.size 47 _ 2 16 Tryz.info47 Tryz.underlying32 rfl (by decide) _ k _ rfl (Hom.out.alloc _) _ 1 1 [.int .i64 (A : Nat), .int .i64 (B : Nat)] rfl ?hrd (prCells_one [((A : Int), (B : Int))]) (by omega) (by omega) ?hbs ?_)
   case hrd =>
    have := Reads.new we 47 #[.int .i64 (A : Nat), .int .i64 (B : Nat)] 2 1 rfl
    simpa using this
   case hbs => have := hxm.size; simp at this ⊢; omega
   intro v' w7 hown hm7 hbk
   have hx7 := (hxm.alloc (.cells #[.int .i64 (A : Nat), .int .i64 (B : Nat)] 47)).trans hm7 (fun i hi e => by have h1 := (Hom.out.lt i e).1; omega)
   have Hown := Lib.hid hown
   clear hm7 hbk hown hxm
   go_wp2_with fail
   go_roundw
   case rel => exact ⟨k + 1, by omega, by go_num, Lib.hid (by rw [Hst.out, prCells_append]; exact Hown.out), hx7⟩
   case measure => simp [intOf]; omega
  ·have hlt' : ¬ (k : Int) < (N : Int) := by omega
   obtain rfl : k = N := by omega
   have hO := HO.out
   rw [List.take_of_length_le (by rw [← HN.out]; exact Nat.le_refl _)] at hO
   have HO2 := Lib.hid hO
   clear hO HO
   go_wp2_with fail
   go_ret
   exact ⟨_, rfl, HO2.out, hx⟩
end Go.Proofs.YthlmgoagnfkhdaaGreat

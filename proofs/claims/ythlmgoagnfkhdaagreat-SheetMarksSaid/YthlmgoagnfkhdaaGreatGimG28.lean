/- Small functions that order selections: Span, Compare, Or, the comparison that package sels sorts by. Conditions: none. -/
import Derived.Test.YthlmgoagnfkhdaaGreatGimG21
import Derived.Test.YthlmgoagnfkhdaaGreatGimG23
import Derived.Test.YthlmgoagnfkhdaaGreatGimG01
import Derived.Test.YthlmgoagnfkhdaaGreatGimG08
import Derived.Test.YthlmgoagnfkhdaaGreatGimG03
import Derived.Test.YthlmgoagnfkhdaaGreatGimG11
import Derived.Deep.DeepCutAuto
set_option maxHeartbeats 6400000
set_option maxRecDepth 1000000
set_option linter.unusedVariables false
set_option linter.unusedSimpArgs false
namespace Go.Proofs.YthlmgoagnfkhdaaGreat
open Go.RowKit Go.Gim
theorem span_any (x : Int × Int) (w : World) : Calls Tryz.prog 20 #[.agg #[.int .i64 x.1, .int .i64 x.2]] w fun e w' => e = .returned (.agg #[.int .i64 (spanI x).1, .int .i64 (spanI x).2]) ∧ Ext w w' := by
 obtain ⟨p, q⟩ := x
 simp only [spanI]
 by_cases h : p < q
 ·rw [show min p q = p by omega, show max p q = q by omega]; exact span_rise p q w h
 ·by_cases h0 : p = q
  ·subst h0
   rw [show min p p = p by omega, show max p p = p by omega]
   have h1 : p ≤ p := Int.le_refl _
   have h2 : ¬ p < p := by omega
   go_enter Tryz.func20, Tryz.ntmps20
   go_wp2_with fail
   go_returns
   exact ⟨rfl, ((Mod.refl _ w).alloc _).alloc _⟩
  ·have h1 : q < p := by omega
   have h2 : ¬ p ≤ q := by omega
   have h3 : q ≤ p := by omega
   rw [show min p q = q by omega, show max p q = p by omega]
   clear h h0
   go_enter Tryz.func20, Tryz.ntmps20
   go_wp2_with fail
   go_returns
   exact ⟨rfl, ((Mod.refl _ w).alloc _).alloc _⟩
theorem box2_span : Box2 Tryz.prog 49 (.int .i64 0) (.int .i64 0) := by
 constructor
 ·intro ρ o w h
  simp [execOp, h, go_sem]
 ·intro ρ o w d s p y0 y1 x0 x1 h hd hs o0 o1 hb
  have c0 : w.cell? ⟨p, 0, none⟩ = some y0 := hb.cell 0
  have c1 : w.cell? ⟨p, 1, none⟩ = some y1 := hb.cell 1
  have f0 := hb.free 0
  have f1 := hb.free 1
  simp [execOp, h, hd, hs, go_sem, run_store _ _ _ _ _ o0, run_store _ _ _ _ _ o1, c0, c1, f0, f1]
theorem selCmp_any (x y : Int × Int) (w : World) : Calls Tryz.prog 87 #[.agg #[.int .i64 x.1, .int .i64 x.2], .agg #[.int .i64 y.1, .int .i64 y.2]] w fun e w' => e = .returned (.int .i64 (cmpB (spanI x) (spanI y))) ∧ Ext w w' := by
 go_enter Tryz.func87, Tryz.ntmps87
 go_wp2_with fail
 obtain ⟨wa, hwa⟩ : ∃ wa, wa = (w.alloc (.cells #[.int .i64 x.1, .int .i64 x.2] 47)).alloc (.cells #[.int .i64 y.1, .int .i64 y.2] 47) := ⟨_, rfl⟩
 have hxa : Ext w wa := by rw [hwa]; exact ((Mod.refl _ w).alloc _).alloc _
 have hb2 : Blk wa w.heap.size 47 #[.int .i64 x.1, .int .i64 x.2] := by rw [hwa]; exact (Blk.new _ _ _).alloc _
 have hb3 : Blk wa (w.heap.size + 1) 47 #[.int .i64 y.1, .int .i64 y.2] := by
  rw [hwa]; have := Blk.new (w.alloc (.cells #[.int .i64 x.1, .int .i64 x.2] 47)) 47 #[.int .i64 y.1, .int .i64 y.2]; simpa using this
 rw [← hwa]
 clear hwa
 have c0 : wa.cell? ⟨w.heap.size, 0, none⟩ = some (.int .i64 x.1) := hb2.cell 0
 have c1 : wa.cell? ⟨w.heap.size, 1, none⟩ = some (.int .i64 x.2) := hb2.cell 1
 have c2 : wa.cell? ⟨w.heap.size + 1, 0, none⟩ = some (.int .i64 y.1) := hb3.cell 0
 have c3 : wa.cell? ⟨w.heap.size + 1, 1, none⟩ = some (.int .i64 y.2) := hb3.cell 1
 have l2 := hb2.lt
 have l3 := hb3.lt
 have hS : ∀ w', Ext wa w' → w'.cell? ⟨w.heap.size, 0, none⟩ = some (.int .i64 x.1) ∧ w'.cell? ⟨w.heap.size, 1, none⟩ = some (.int .i64 x.2) ∧ w'.cell? ⟨w.heap.size + 1, 0, none⟩ = some (.int .i64 y.1) ∧ w'.cell? ⟨w.heap.size + 1, 1, none⟩ = some (.int .i64 y.2) := fun w' h =>
  ⟨(h.cell l2 (fun f => f)).trans c0, (h.cell l2 (fun f => f)).trans c1, (h.cell l3 (fun f => f)).trans c2, (h.cell l3 (fun f => f)).trans c3⟩
 have HS := Lib.hid hS
 clear hS
 generalize w.heap.size = B at *
 go_cut [5, 6] (fun v5 v6 wc => ∃ (wn : World) (p q : Nat), wn = wc ∧ v5 = .pointer (some ⟨p, 0, none⟩) ∧ v6 = .pointer (some ⟨q, 0, none⟩) ∧ Hid (TwoBoxes wa wn p q 49 (.int .i64 (spanI x).1, .int .i64 (spanI x).2) (.int .i64 (spanI y).1, .int .i64 (spanI y).2)))
 case rest =>
  obtain ⟨wn, p, q, rfl, rfl, rfl, H⟩ := hcut
  obtain ⟨hx, _, _, _, bp, bq⟩ := H.out
  have d0 : wn.cell? ⟨p, 0, none⟩ = some (.int .i64 (spanI x).1) := bp.cell 0
  have d1 : wn.cell? ⟨p, 1, none⟩ = some (.int .i64 (spanI x).2) := bp.cell 1
  have d2 : wn.cell? ⟨q, 0, none⟩ = some (.int .i64 (spanI y).1) := bq.cell 0
  have d3 : wn.cell? ⟨q, 1, none⟩ = some (.int .i64 (spanI y).2) := bq.cell 1
  have m2 := bp.lt
  have m3 := bq.lt
  clear c0 c1 c2 c3 HS H hb2 hb3
  go_wp2_with fail
  refine wp_region_ext_tail 10 (by kernel_rfl) (by kernel_rfl) ?_
  simp only [List.take_succ_cons, List.take_zero, List.drop_succ_cons, List.drop_zero]
  repeat (go_big_quiet_step (exact Calls.ext_of_same (compare_any _ _ _)))
  refine wpQuiet_nil ?_
  intro we hxe
  go_wp2_with fail
  have hb := Blk.new we 3 #[.int .i64 (cmpI (spanI x).1 (spanI y).1), .int .i64 (cmpI (spanI x).2 (spanI y).2)]
  refine (or_two _ _ we.heap.size _ (hb.cell 0) (hb.cell 1)).mono ?_
  rintro e w' ⟨rfl, rfl⟩
  clear hb
  go_wp2_with fail
  go_ret
  exact ⟨rfl, ((hxa.ext_trans hx).ext_trans hxe).alloc _⟩
 case first =>
  refine wp_region_E (by kernel_rfl) ?_
  refine wpE_t 0 7 (v := ?_) (fun w' hw' => ?_) ?_
  rotate_left
  ·obtain ⟨r0, r1, r2, r3⟩ := HS.out w' hw'
   refine qat_value ?_
   go_simp
   rfl
  simp only [fr1, fr2, fr3, fr4]
  refine wpE_t 1 8 (v := ?_) (fun w' hw' => ?_) ?_
  rotate_left
  ·refine qat_enter (by go_simp; exact ⟨rfl, rfl⟩) ?_
   exact span_any x _
  simp only [fr1, fr2, fr3, fr4]
  refine wpE_t 2 9 (v := ?_) (fun w' hw' => ?_) ?_
  rotate_left
  ·obtain ⟨r0, r1, r2, r3⟩ := HS.out w' hw'
   refine qat_value ?_
   go_simp
   rfl
  simp only [fr1, fr2, fr3, fr4]
  refine wpE_t 3 10 (v := ?_) (fun w' hw' => ?_) ?_
  rotate_left
  ·refine qat_enter (by go_simp; exact ⟨rfl, rfl⟩) ?_
   exact span_any y _
  simp only [fr1, fr2, fr3, fr4]
  refine wpE_boxes2 (T := 49) (x := (.int .i64 (spanI x).1, .int .i64 (spanI x).2)) (y := (.int .i64 (spanI y).1, .int .i64 (spanI y).2)) box2_span 4 5 6 7 5 6 8 10 rfl rfl rfl rfl ⟨rfl, rfl, rfl, rfl⟩ ⟨rfl, rfl⟩ ⟨rfl, rfl⟩ ⟨rfl, rfl⟩ ⟨rfl, rfl⟩ (by kernel_rfl) (by kernel_rfl) (by kernel_rfl) (by kernel_rfl) (by kernel_rfl) (by kernel_rfl) (by omega) (by refine ⟨?_, ?_, ?_, ?_, ?_, ?_, ?_⟩ <;> simp) rfl rfl ⟨rfl, rfl, rfl, rfl⟩ (ext_draw _) ?_
  intro w' p q htb
  simp only [fr1, fr2, fr3, fr4]
  go_wp2_with fail
  go_meet
  case rel => exact ⟨w', p, q, rfl, rfl, rfl, Lib.hid htb⟩
end Go.Proofs.YthlmgoagnfkhdaaGreat
namespace Go.Gim
open Go Go.RowKit
def Row2 (w : World) (g : Nat) (T : TypeId) (l : List (Int × Int)) : Prop :=
 ∃ cs : Array Value, Blk w g T cs ∧ ∀ k x, l[k]? = some x → cs[k * 2]? = some (.int .i64 x.1) ∧ cs[k * 2 + 1]? = some (.int .i64 x.2)
theorem Row2.cell {w : World} {g : Nat} {T : TypeId} {l : List (Int × Int)} (h : Row2 w g T l) {k : Nat} {x : Int × Int} (hx : l[k]? = some x) :
  w.cell? ⟨g, k * 2, none⟩ = some (.int .i64 x.1) ∧ w.cell? ⟨g, k * 2 + 1, none⟩ = some (.int .i64 x.2) := by
 obtain ⟨cs, hb, hc⟩ := h
 exact ⟨(hb.cell _).trans (hc k x hx).1, (hb.cell _).trans (hc k x hx).2⟩
theorem Row2.free {w : World} {g : Nat} {T : TypeId} {l : List (Int × Int)} (h : Row2 w g T l) (k : Nat) : w.frozen? ⟨g, k, none⟩ = false := by
 obtain ⟨cs, hb, _⟩ := h; exact hb.free k
theorem Row2.lt {w : World} {g : Nat} {T : TypeId} {l : List (Int × Int)} (h : Row2 w g T l) : g < w.heap.size := by
 obtain ⟨cs, hb, _⟩ := h; exact hb.lt
theorem Row2.mod {S : Nat → Prop} {w w' : World} {g : Nat} {T : TypeId} {l : List (Int × Int)} (h : Row2 w g T l) (hm : Mod S w w') (hS : ¬ S g) : Row2 w' g T l := by
 obtain ⟨cs, hb, hc⟩ := h; exact ⟨cs, hb.mod hm hS, hc⟩
theorem Row2.set {w : World} {g : Nat} {T : TypeId} {l : List (Int × Int)} (h : Row2 w g T l) (k : Nat) (hk : k < l.length) (x : Int × Int) :
  Row2 ((w.setCell ⟨g, k * 2, none⟩ (.int .i64 x.1)).setCell ⟨g, k * 2 + 1, none⟩ (.int .i64 x.2)) g T (l.set k x) := by
 obtain ⟨cs, hb, hc⟩ := h
 refine ⟨_, (hb.set (k * 2) _).set (k * 2 + 1) _, fun j y hy => ?_⟩
 obtain ⟨c0, c1⟩ := hc k _ (List.getElem?_eq_getElem hk)
 have l0 := (Array.getElem?_eq_some_iff.1 c0).1
 have l1 := (Array.getElem?_eq_some_iff.1 c1).1
 by_cases hjk : j = k
 ·subst hjk
  rw [List.getElem?_set_self hk] at hy
  cases hy
  exact ⟨by rw [Array.getElem?_setIfInBounds_ne (by omega), Array.getElem?_setIfInBounds_self_of_lt l0], by rw [Array.getElem?_setIfInBounds_self_of_lt (by simpa using l1)]⟩
 ·rw [List.getElem?_set_ne (by omega)] at hy
  obtain ⟨c2, c3⟩ := hc j y hy
  exact ⟨by rw [Array.getElem?_setIfInBounds_ne (by omega), Array.getElem?_setIfInBounds_ne (by omega)]; exact c2, by rw [Array.getElem?_setIfInBounds_ne (by omega), Array.getElem?_setIfInBounds_ne (by omega)]; exact c3⟩
end Go.Gim
namespace Go.Proofs.YthlmgoagnfkhdaaGreat
open Go.RowKit Go.Gim
theorem selLess (x y : Int × Int) : decide (cmpB (spanI x) (spanI y) < 0) = lessS x y := cmpB_less _ _
theorem insertSel_any (g cap : Nat) (l : List (Int × Int)) (w : World) (hr : Row2 w g 47 l) (h0 : 0 < l.length) (hn : l.length ≤ 1000) :
  Calls Tryz.prog 156 #[.slice (some ⟨g, 0, none⟩) l.length cap, .int .i64 0, .int .i64 l.length, .func (.func 87) #[] #[]] w
   fun e w' => e = .returned (.tuple #[]) ∧ Row2 w' g 47 (isort lessS l l.length) ∧ Mod (· = g) w w' := by
 have H1 := Lib.hid (show Row2 w g 47 (isort lessS l 1) from hr)
 obtain ⟨N, hN⟩ : ∃ N, N = l.length := ⟨_, rfl⟩
 rw [← hN] at h0 hn ⊢
 have HN := Lib.hid hN
 clear hr hN
 go_enter Tryz.func156, Tryz.ntmps156
 go_wp2_with fail
 go_loopw [8] (fun s8 wr => ∃ k : Nat, 1 ≤ k ∧ k ≤ N ∧ s8 = .int .i64 k ∧ Hid (Row2 wr g 47 (isort lessS l k)) ∧ Mod (· = g) w wr) (fun s8 _ => N - (intOf s8).toNat)
 case atStart => exact ⟨1, by omega, by omega, rfl, H1, Mod.refl _ _⟩
 case round =>
  obtain ⟨k, hk1, hk, rfl, HR, hm⟩ := hrel
  by_cases hlt : k < N
  ·have hlt' : (k : Int) < (N : Int) := by omega
   obtain ⟨T, hT⟩ : ∃ T, isort lessS l (k + 1) = T := ⟨_, rfl⟩
   have HT := Lib.hid (show sink lessS (isort lessS l k) k = T from hT)
   have HL := Lib.hid (show (isort lessS l k).length = N by rw [isort_length]; exact HN.out.symm)
   go_wp2_with fail
   go_loopg [9] k (fun c s9 wi => ∃ (j : Nat) (cur : List (Int × Int)), j = c ∧ j ≤ k ∧ s9 = .int .i64 j ∧ Hid (Row2 wi g 47 cur ∧ cur.length = N ∧ sink lessS cur j = T) ∧ Mod (· = g) w wi)
   case atStart => exact ⟨k, _, rfl, Nat.le_refl _, rfl, Lib.hid ⟨HR.out, HL.out, HT.out⟩, hm⟩
   case round =>
    obtain ⟨j, cur, hjc, hj, rfl, HC, hmi⟩ := hrel
    have Hjc := Lib.hid hjc
    clear hjc
    clear HR HT HL hm
    cases j with
    | zero =>
     have e1 : decide ((0 : Int) < 0) = false := rfl
     go_wp2_with fail
     go_quiet (fail)
     go_wp2_with fail
     go_roundw
     case rel => exact ⟨k + 1, by omega, by omega, by go_num, Lib.hid (by rw [hT, ← HC.out.2.2]; exact HC.out.1.mod ((Mod.refl (fun _ => False) _).drewN _) (fun f => f)), hmi.drewN _⟩
     case measure => simp [intOf]; omega
    | succ j =>
     have hj1 : (0 : Int) ≤ (j : Int) := by omega
     have e1 : decide ((0 : Int) < (j : Int) + 1) = true := decide_eq_true (by omega)
     have e2 : IntKind.i64.wrap ((j : Int) + 1 - 1) = (j : Int) := by rw [show (j : Int) + 1 - 1 = j from by omega]; exact IntWalk.i64_in _ (by omega)
     obtain ⟨hrow, hlen, hsk⟩ := HC.out
     have b1 : j + 1 < cur.length := by omega
     have b2 : j < cur.length := by omega
     obtain ⟨c0, c1⟩ := hrow.cell (List.getElem?_eq_getElem b1)
     obtain ⟨c2, c3⟩ := hrow.cell (List.getElem?_eq_getElem b2)
     have hgl := hrow.lt
     have hsk2 := hsk
     generalize hX : cur[j + 1] = X at *
     generalize hY : cur[j] = Y at *
     have b3 : (j : Int) + 1 < (N : Int) := by omega
     have b4 : (j : Int) < (N : Int) := by omega
     clear hsk2
     have hB := selLess X Y
     cases hL : lessS X Y with
     | false =>
      rw [hL] at hB
      go_wp2_with fail
      refine wp_region_ext_lit (by kernel_rfl) (by kernel_rfl) ?_
      repeat (go_big_quiet_step (exact Calls.ext_of (selCmp_any _ _ _)))
      refine wpQuiet_nil ?_
      intro we hxe
      go_wp2_with fail
      go_roundw
      case rel => exact ⟨k + 1, by omega, by omega, by go_num, Lib.hid (by rw [hT, ← hsk, sink_no lessS (hX ▸ List.getElem?_eq_getElem b1) (hY ▸ List.getElem?_eq_getElem b2) hL]; exact hrow.mod hxe (fun f => f)), hmi.trans hxe (fun _ _ f => f.elim)⟩
      case measure => simp [intOf]; omega
     | true =>
      rw [hL] at hB
      go_wp2_with fail
      refine wp_region_ext_lit (by kernel_rfl) (by kernel_rfl) ?_
      repeat (go_big_quiet_step (exact Calls.ext_of (selCmp_any _ _ _)))
      refine wpQuiet_nil ?_
      intro we hxe
      have hrow2 := hrow.mod hxe (fun f => f)
      have Hl := Lib.hid hL
      have Hs := Lib.hid hsk
      clear c0 c1 c2 c3 hB hL hsk hgl hrow
      obtain ⟨c0, c1⟩ := hrow2.cell (show cur[j + 1]? = some X by rw [← hX]; exact List.getElem?_eq_getElem b1)
      obtain ⟨c2, c3⟩ := hrow2.cell (show cur[j]? = some Y by rw [← hY]; exact List.getElem?_eq_getElem b2)
      have f0 := hrow2.free ((j + 1) * 2)
      have f1 := hrow2.free ((j + 1) * 2 + 1)
      have f2 := hrow2.free (j * 2)
      have f3 := hrow2.free (j * 2 + 1)
      have hgl := hrow2.lt
      go_wp2_with fail
      go_region
      have k1 : cur[j + 1]? = some X := by rw [← hX]; exact List.getElem?_eq_getElem b1
      have k2 : cur[j]? = some Y := by rw [← hY]; exact List.getElem?_eq_getElem b2
      have hrow3 := (hrow2.set (j + 1) b1 Y).set j (by rw [List.length_set]; exact b2) X
      have Hrow3 := Lib.hid hrow3
      clear c0 c1 c2 c3 f0 f1 f2 f3 hrow3 hrow2
      go_wp2_with fail
      go_roundg (j)
      case rel =>
       refine ⟨j, _, rfl, by omega, by go_num, Lib.hid ⟨Hrow3.out.mod ((Mod.refl (fun _ => False) _).drew) (fun f => f), by simp [hlen], ?_⟩, ?_⟩
       ·rw [← Hs.out, sink_yes lessS k1 k2 Hl.out]
       ·exact (((((hmi.trans hxe (fun _ _ f => f.elim)).setCell (p := ⟨g, (j + 1) * 2, none⟩) (fun _ => rfl) _).setCell (p := ⟨g, (j + 1) * 2 + 1, none⟩) (fun _ => rfl) _).setCell (p := ⟨g, j * 2, none⟩) (fun _ => rfl) _).setCell (p := ⟨g, j * 2 + 1, none⟩) (fun _ => rfl) _).drew
      case measure => have := Hjc.out; omega
  ·have hlt' : ¬ (k : Int) < (N : Int) := by omega
   obtain rfl : k = N := by omega
   go_wp2_with fail
   go_end0
   exact ⟨rfl, HR.out, hm⟩
end Go.Proofs.YthlmgoagnfkhdaaGreat
namespace Go.Gim
open Go Go.RowKit
theorem row2_owns {w : World} {B g c n : Nat} {T : TypeId} {l : List (Int × Int)} (h : w.ownsRow B T 2 (.slice (some ⟨g, 0, none⟩) n c) n (prCells l)) : Row2 w g T l := by
 obtain ⟨cur, hb, _, _, _, _, h4⟩ := owns_at h
 refine ⟨cur, hb, fun k x hx => ?_⟩
 obtain ⟨h1, h2⟩ := owns_cell h hx
 exact ⟨by rw [← hb.cell]; exact h1, by rw [← hb.cell]; exact h2⟩
end Go.Gim
namespace Go.Proofs.YthlmgoagnfkhdaaGreat
open Go.RowKit Go.Gim
theorem stableSel_any (g cap : Nat) (l : List (Int × Int)) (w : World) (hr : Row2 w g 47 l) (h0 : 0 < l.length) (hn : l.length ≤ 19) :
  Calls Tryz.prog 121 #[.slice (some ⟨g, 0, none⟩) l.length cap, .int .i64 l.length, .func (.func 87) #[] #[]] w
   fun e w' => e = .returned (.tuple #[]) ∧ Row2 w' g 47 (sorted lessS l) ∧ Mod (· = g) w w' := by
 have hi := insertSel_any g cap l w hr h0 (by omega)
 rw [isort_all] at hi
 have Hi := Lib.hid hi
 have j1 : ¬ (20 : Int) ≤ (l.length : Int) := by omega
 have j2 : ¬ (20 : Int) < (l.length : Int) := by omega
 have j3 : ¬ 20 ≤ l.length := by omega
 have j4 : ¬ 20 < l.length := by omega
 clear hi hr h0 hn
 go_enter Tryz.func121, Tryz.ntmps121
 go_wp2_with fail
 refine wp_loop_rounds 1 ?_
 rw [rounds_succ]
 go_wp2_with fail
 refine Hi.out.mono ?_
 rintro e w1 ⟨rfl, hr, hm⟩
 go_wp2_with fail
 refine wp_loop_rounds 1 ?_
 rw [rounds_succ]
 go_wp2_with fail
 go_end0
 exact ⟨rfl, hr, hm⟩
theorem sortSel_any (g cap : Nat) (l : List (Int × Int)) (w : World) (hr : Row2 w g 47 l) (h0 : 0 < l.length) (hn : l.length ≤ 19) :
  Calls Tryz.prog 86 #[.slice (some ⟨g, 0, none⟩) l.length cap, .func (.func 87) #[] #[]] w
   fun e w' => e = .returned (.tuple #[]) ∧ Row2 w' g 47 (sorted lessS l) ∧ Mod (· = g) w w' := by
 have Hi := Lib.hid (stableSel_any g cap l w hr h0 hn)
 clear hr h0 hn
 go_enter Tryz.func86, Tryz.ntmps86
 go_wp2_with fail
 refine Hi.out.mono ?_
 rintro e w1 ⟨rfl, hr, hm⟩
 go_wp2_with fail
 go_end0
 exact ⟨rfl, hr, hm⟩
def NewRow (T : TypeId) (l : List (Int × Int)) (w : World) (e : Ending) (w' : World) : Prop :=
 ∃ g cap, e = .returned (.slice (some ⟨g, 0, none⟩) l.length cap) ∧ w'.ownsRow w.heap.size T 2 (.slice (some ⟨g, 0, none⟩) l.length cap) l.length (prCells l) ∧ Ext w w'
theorem cloneSel_any (b off cap : Nat) (l : List (Int × Int)) (w : World) (hr : Reads w 2 (some ⟨b, off, none⟩) l.length (prCells l)) (h0 : 0 < l.length) (hn : l.length ≤ 1000000) :
  Calls Tryz.prog 46 #[.slice (some ⟨b, off, none⟩) l.length cap] w (NewRow 47 l w) := by
 have hnil := fun w' => Lib.run_eql_slice_nil (P := Tryz.prog) w' 32 47 (some ⟨b, off, none⟩) l.length cap 0 0 Tryz.underlying32
 have ha : Ext w (w.alloc (.cells #[] 47)) := (Mod.refl _ w).alloc _
 have hr2 := hr.mod ha (fun _ _ f => f)
 obtain ⟨N, hN⟩ : ∃ N, N = l.length := ⟨_, rfl⟩
 unfold NewRow
 rw [← hN] at h0 hn hr2 hnil ⊢
 clear hN hr
 go_enter Tryz.func46, Tryz.ntmps46
 go_wp2_with (at_builtin; refine wpList_append_reads rfl _ _ 32 rfl w.heap.size 47 _ 2 16 Tryz.info47 Tryz.underlying32 rfl (by decide) _ 0 [] rfl (World.ownsRow_lit w #[] 0 (Nat.le_refl _) (by unfold maxLen; omega) rfl) _ N cap (prCells l) rfl hr2 (prCells_one l) (by unfold maxLen; omega) (by omega) (by simp) ?_)
 intro v' w4 hown hm4 hbk
 obtain ⟨g, cx', rfl⟩ := owns_some hown h0
 have hx4 : Ext w w4 := ha.trans hm4 (fun i hi e => by cases e; exact absurd hi (Nat.lt_irrefl _))
 have HO := Lib.hid hown
 clear hm4 hbk hown
 go_wp2_with fail
 go_ret
 exact ⟨g, cx', rfl, HO.out, hx4⟩
theorem touch_any (x y : Int × Int) (w : World) : Calls Tryz.prog 84 #[.agg #[.int .i64 x.1, .int .i64 x.2], .agg #[.int .i64 y.1, .int .i64 y.2]] w fun e w' => e = .returned (.bool (touchB x y)) ∧ Ext w w' := by
 obtain ⟨a, b⟩ := x
 obtain ⟨c, d⟩ := y
 simp only [touchB]
 go_enter Tryz.func84, Tryz.ntmps84
 go_wp2_with fail
 all_goals
  go_ret
  exact ⟨ret_bool (by rw [decide_eq_decide]; omega), ((Mod.refl _ w).alloc _).alloc _⟩
end Go.Proofs.YthlmgoagnfkhdaaGreat
namespace Go.Gim
theorem mergeS_no {out : List (Int × Int)} {a s : Int × Int} (ha : out.getLast? = some a) (h : touchB (spanI a) (spanI s) = false) : mergeS out s = out ++ [s] := by
 unfold mergeS; rw [ha]; simp only [h]; rfl
theorem mergeS_yes {out : List (Int × Int)} {a s : Int × Int} (ha : out.getLast? = some a) (h : touchB (spanI a) (spanI s) = true) : mergeS out s = out.set (out.length - 1) (fuse a s) := by
 unfold mergeS; rw [ha]; simp only [h, if_true]
 obtain ⟨l, rfl⟩ := List.getLast?_eq_some_iff.1 ha
 rw [List.dropLast_concat, List.length_append, List.length_singleton, Nat.add_sub_cancel, List.set_append_right _ _ (Nat.le_refl _), Nat.sub_self]; rfl
theorem mergeS_pos (out : List (Int × Int)) (s : Int × Int) : 0 < (mergeS out s).length := by
 unfold mergeS
 split
 ·split <;> simp
 ·simp
theorem merged_snoc (l : List (Int × Int)) (k : Nat) (s : Int × Int) (h : l[k]? = some s) : merged (l.take (k + 1)) = mergeS (merged (l.take k)) s := by
 obtain ⟨hk, rfl⟩ := List.getElem?_eq_some_iff.1 h
 unfold merged
 rw [List.take_succ_eq_append_getElem hk, List.foldl_append]; rfl
theorem mergeS_len (out : List (Int × Int)) (s : Int × Int) : (mergeS out s).length ≤ out.length + 1 := by
 unfold mergeS
 split
 ·split
  ·simp
  ·simp
 ·simp
theorem merged_len (l : List (Int × Int)) : (merged l).length ≤ l.length := by
 have : ∀ (l out : List (Int × Int)), (l.foldl mergeS out).length ≤ out.length + l.length := by
  intro l
  induction l with
  | nil => intro out; simp
  | cons x r ih => intro out; rw [List.foldl_cons]; have := ih (mergeS out x); have := mergeS_len out x; simp only [List.length_cons]; omega
 have := this l []
 simpa [merged] using this
theorem orderN_len (l : List (Int × Int)) : (orderN l).length ≤ l.length := by
 have := merged_len (sorted lessS l); rw [sorted_length] at this; exact this
end Go.Gim
namespace Go.Proofs.YthlmgoagnfkhdaaGreat
open Go.RowKit Go.Gim
theorem fld0 (p q : Int) (v : World) : (Instr.field 49 (.agg #[.int .i64 p, .int .i64 q]) 0).run Tryz.prog v = .ok (.int .i64 p) v := by kernel_rfl
theorem fld1 (p q : Int) (v : World) : (Instr.field 49 (.agg #[.int .i64 p, .int .i64 q]) 1).run Tryz.prog v = .ok (.int .i64 q) v := by kernel_rfl
theorem orderSel_any (b off cap : Nat) (l : List (Int × Int)) (w : World) (hr : Reads w 2 (some ⟨b, off, none⟩) l.length (prCells l)) (h0 : 0 < l.length) (hn : l.length ≤ 19) :
  Calls Tryz.prog 59 #[.slice (some ⟨b, off, none⟩) l.length cap] w (NewRow 47 (orderN l) w) := by
 have Hc := Lib.hid (cloneSel_any b off cap l w hr h0 (by omega))
 have Hs := Lib.hid (fun g c v hv => sortSel_any g c l v hv h0 hn)
 have Hsl := Lib.hid (sorted_length lessS l)
 unfold orderN
 generalize sorted lessS l = S at *
 obtain ⟨N, hN⟩ : ∃ N, N = l.length := ⟨_, rfl⟩
 unfold NewRow at Hc
 rw [← hN] at h0 hn Hc Hs Hsl ⊢
 clear hr hN
 go_enter Tryz.func59, Tryz.ntmps59
 go_wp2_with fail
 refine Hc.out.mono ?_
 rintro e w1 ⟨g, c1, rfl, ho, hx⟩
 have hrow := row2_owns (n := N) ho
 have Hg := Lib.hid (owns_block (n := N) ho)
 clear ho
 go_wp2_with fail
 refine (Hs.out g c1 w1 hrow).mono ?_
 rintro e w2 ⟨rfl, hrow2, hm2⟩
 have hx2 : Ext w w2 := hx.trans hm2 (fun i hi e => by have := Hg.out; omega)
 have Hr2 := Lib.hid hrow2
 have Hg2 := Lib.hid hrow2.lt
 clear hrow hrow2 hm2 Hs Hc
 go_wp2_with fail
 go_loopw [4, 16] (fun v i wr => ∃ (k : Nat) (out : List (Int × Int)), k ≤ N ∧ i = .int .i64 k ∧ out.length ≤ k ∧ Hid (wr.ownsRow w2.heap.size 47 2 v out.length (prCells out) ∧ out = merged (S.take k)) ∧ Ext w2 wr) (fun _ i _ => N - (intOf i).toNat)
 case atStart => exact ⟨0, [], by omega, rfl, by simp, Lib.hid ⟨World.ownsRow_nil _ _ _ _, rfl⟩, Mod.refl _ _⟩
 case round =>
  obtain ⟨k, out, hk, rfl, hok, HO, hxr⟩ := hrel
  by_cases hlt : k < N
  ·have hlt' : (k : Int) < (N : Int) := by omega
   have hk0 : (0 : Int) ≤ (k : Int) := by omega
   have hSk : S[k]? = some (S[k]'(by rw [Hsl.out]; exact hlt)) := List.getElem?_eq_getElem _
   have HM := Lib.hid (merged_snoc S k _ hSk)
   obtain ⟨c0, c1'⟩ := (Hr2.out.mod hxr (fun f => f)).cell hSk
   generalize S[k]'(by rw [Hsl.out]; exact hlt) = x at *
   have hgl := hxr.lt Hg2.out
   clear hSk
   have hl1 : maxLen = 9223372036854775807 := rfl
   have hxa : Ext w2 (wr.alloc (.cells #[.int .i64 x.1, .int .i64 x.2] 47)) := hxr.alloc _
   cases hout : out.length with
   | zero =>
    have hon := HO.out.1
    rw [hout] at hon
    obtain ⟨va, vc, rfl⟩ := owns_nil hon
    have Hon := Lib.hid hon
    have Hme := Lib.hid (show merged (S.take (k + 1)) = out ++ [x] by rw [HM.out, ← HO.out.2, List.eq_nil_of_length_eq_zero hout]; rfl)
    have Hout := Lib.hid hout
    clear hon hout hok
    go_wp2_with fail
    go_quiet (fail)
    have hxm : Ext wr ((wr.alloc (.cells #[.int .i64 x.1, .int .i64 x.2] 47)).drewN nq) := ((Mod.refl _ wr).alloc _).drewN nq
    have hxf : Ext w2 ((wr.alloc (.cells #[.int .i64 x.1, .int .i64 x.2] 47)).drewN nq) := hxa.drewN nq
    have Hom := Lib.hid (ownsRow_mod Hon.out hxm (fun _ _ f => f))
    clear hxm
    go_wp2_with (at_builtin; refine wpList_append_reads rfl _ _ 32 rfl w2.heap.size 47 _ 2 16 Tryz.info47 Tryz.underlying32 rfl (by decide) _ (0) (prCells out) rfl (Hom.out.alloc _) _ 1 1 [.int .i64 x.1, .int .i64 x.2] rfl ?hrd (two_cells x.1 x.2) (by omega) (by omega) ?hbs ?_)
    case hrd =>
     have := Reads.new ((wr.alloc (.cells #[.int .i64 x.1, .int .i64 x.2] 47)).drewN nq) 47 #[.int .i64 x.1, .int .i64 x.2] 2 1 rfl
     simpa using this
    case hbs => have := hxf.size; simp at this ⊢; omega
    intro v' w4 hown hm4 hbk
    have hx4 := (hxf.alloc _).over hm4 (fun i hi => (Hom.out.lt i hi).1)
    have Hown := Lib.hid hown
    clear hm4 hbk hown hxf
    go_wp2_with fail
    go_roundw
    case rel => exact ⟨k + 1, out ++ [x], by omega, by go_num, by have := Hout.out; simp; omega, Lib.hid ⟨by rw [prCells_append, List.length_append, Hout.out]; exact Hown.out, Hme.out.symm⟩, hx4⟩
    case measure => simp [intOf]; omega
   | succ m =>
    have hon := HO.out.1
    rw [hout] at hon
    obtain ⟨go, co, rfl⟩ := owns_some hon (by omega)
    have hma : m < out.length := by omega
    have Hla := Lib.hid (show out.getLast? = some out[m] by rw [List.getLast?_eq_getElem?, hout, Nat.add_sub_cancel]; exact List.getElem?_eq_getElem hma)
    obtain ⟨d0, d1⟩ := owns_cell hon (List.getElem?_eq_getElem hma)
    obtain ⟨hgo1, hgo2⟩ := owns_block hon
    generalize out[m] = a at *
    have Hon := Lib.hid hon
    have Hout := Lib.hid hout
    have e1 : decide ((m : Int) < 0) = false := decide_eq_false (by omega)
    have e2 : (m : Int) ≤ 19 := by omega
    have e3 : (0 : Int) ≤ (m : Int) := by omega
    have e4 : (m : Int) < (m : Int) + 1 := by omega
    clear hon hma
    cases hT : touchB (spanI a) (spanI x) with
    | false =>
     have Hme := Lib.hid (show merged (S.take (k + 1)) = out ++ [x] by rw [HM.out, ← HO.out.2, mergeS_no Hla.out hT])
     clear hout
     go_wp2_with fail
     refine wp_region_ext_lit (by kernel_rfl) (by kernel_rfl) ?_
     repeat (go_big_quiet_step (first | (with_reducible exact Calls.ext_of (span_any _ _)) | (with_reducible exact Calls.ext_of (touch_any _ _ _))))
     refine wpQuiet_nil ?_
     intro we hxe
     have hbx := (Blk.new wr 47 #[.int .i64 x.1, .int .i64 x.2]).mod hxe (fun f => f)
     have q0 : we.cell? ⟨wr.heap.size, 0, none⟩ = some (.int .i64 x.1) := hbx.cell 0
     have q1 : we.cell? ⟨wr.heap.size, 1, none⟩ = some (.int .i64 x.2) := hbx.cell 1
     clear hbx d0 d1 hT e1
     have hxm : Ext wr we := ((Mod.refl _ wr).alloc _).ext_trans hxe
     have hxf : Ext w2 we := hxa.ext_trans hxe
     have Hom := Lib.hid (ownsRow_mod Hon.out hxm (fun _ _ f => f))
     clear hxm
     go_wp2_with (at_builtin; refine wpList_append_reads rfl _ _ 32 rfl w2.heap.size 47 _ 2 16 Tryz.info47 Tryz.underlying32 rfl (by decide) _ ((m + 1)) (prCells out) rfl (Hom.out.alloc _) _ 1 1 [.int .i64 x.1, .int .i64 x.2] rfl ?hrd (two_cells x.1 x.2) (by omega) (by omega) ?hbs ?_)
     case hrd =>
      have := Reads.new we 47 #[.int .i64 x.1, .int .i64 x.2] 2 1 rfl
      simpa using this
     case hbs => have := hxf.size; simp at this ⊢; omega
     intro v' w4 hown hm4 hbk
     have hx4 := (hxf.alloc _).over hm4 (fun i hi => (Hom.out.lt i hi).1)
     have Hown := Lib.hid hown
     clear hm4 hbk hown hxf
     go_wp2_with fail
     go_roundw
     case rel => exact ⟨k + 1, out ++ [x], by omega, by go_num, by have := Hout.out; simp; omega, Lib.hid ⟨by rw [prCells_append, List.length_append, Hout.out]; exact Hown.out, Hme.out.symm⟩, hx4⟩
     case measure => simp [intOf]; omega
    | true =>
     have Hme := Lib.hid (show merged (S.take (k + 1)) = out.set m (fuse a x) by rw [HM.out, ← HO.out.2, mergeS_yes Hla.out hT, Hout.out, Nat.add_sub_cancel])
     clear hout
     unfold fuse at Hme
     by_cases hmx : (spanI x).2 ≤ (spanI a).2
     ·rw [show max (spanI a).2 (spanI x).2 = (spanI a).2 from by omega] at Hme
      have hmx2 : ¬ (spanI a).2 < (spanI x).2 := by omega
      by_cases had : a.2 < a.1
      ·rw [if_pos had] at Hme
       have had2 : decide (a.2 < a.1) = true := decide_eq_true had
       go_wp2_with fail
       refine wp_region_ext_lit (by kernel_rfl) (by kernel_rfl) ?_
       repeat (go_big_quiet_step (first | (with_reducible exact Calls.ext_of (span_any _ _)) | (with_reducible exact Calls.ext_of (touch_any _ _ _))))
       refine wpQuiet_nil ?_
       intro we hxe
       have hbx := (Blk.new wr 47 #[.int .i64 x.1, .int .i64 x.2]).mod hxe (fun f => f)
       have q0 : we.cell? ⟨wr.heap.size, 0, none⟩ = some (.int .i64 x.1) := hbx.cell 0
       have q1 : we.cell? ⟨wr.heap.size, 1, none⟩ = some (.int .i64 x.2) := hbx.cell 1
       have qlt := hbx.lt
       clear hbx d0 d1 hT e1
       have Hon2 := Lib.hid (ownsRow_mod (ownsRow_mod Hon.out (show Ext wr (wr.alloc (.cells #[.int .i64 x.1, .int .i64 x.2] 47)) from (Mod.refl _ wr).alloc _) (fun _ _ f => f)) hxe (fun _ _ f => f))
       obtain ⟨d0, d1⟩ := owns_cell Hon2.out (k := m) (x := a) (by rw [List.getLast?_eq_getElem?, Hout.out, Nat.add_sub_cancel] at Hla; exact Hla.out)
       have hgo3 := (owns_block Hon2.out).2
       go_wp2_with fail
       have f1 := fun v => fld0 (spanI a).1 (spanI a).2 v
       have f2 := fun v => fld1 (spanI a).1 (spanI a).2 v
       have f3 := fun v => fld1 (spanI x).1 (spanI x).2 v
       refine wp_region_ext_lit (by kernel_rfl) (by kernel_rfl) ?_
       repeat (go_big_quiet_step (exact Calls.ext_of (span_any _ _)))
       refine wpQuiet_nil ?_
       intro wf hxg
       have Hon3 := Lib.hid (ownsRow_mod Hon2.out hxg (fun _ _ f => f))
       have hlx := hxg.lt hgo3
       clear q0 q1 qlt f1 f2 f3 d0 d1 Hon2 hgo3
       obtain ⟨d0, d1⟩ := owns_cell Hon3.out (k := m) (x := a) (by rw [List.getLast?_eq_getElem?, Hout.out, Nat.add_sub_cancel] at Hla; exact Hla.out)
       have g0 := owns_free Hon3.out (m * 2)
       have g1 := owns_free Hon3.out (m * 2 + 1)
       have hgo3 := (owns_block Hon3.out).2
       go_wp2_with fail
       go_quiet (fail)
       go_wp2_with fail
       go_roundw
       case rel =>
        have hs := owns_set (ownsRow_mod Hon3.out ((Mod.refl (fun _ => False) wf).drewN nq) (fun _ _ f => f)) m (by omega) ((spanI a).2, (spanI a).1)
        exact ⟨k + 1, out.set m ((spanI a).2, (spanI a).1), by omega, by go_num, by rw [List.length_set]; omega, Lib.hid ⟨by rw [List.length_set, Hout.out]; exact hs, Hme.out.symm⟩, ((((hxa.ext_trans hxe).ext_trans hxg).drewN nq).setCell (p := ⟨go, m * 2, none⟩) (fun h => absurd h (Nat.not_lt.2 hgo1)) _).setCell (p := ⟨go, m * 2 + 1, none⟩) (fun h => absurd h (Nat.not_lt.2 hgo1)) _⟩
       case measure => simp [intOf]; omega
      ·rw [if_neg had] at Hme
       have had2 : decide (a.2 < a.1) = false := decide_eq_false had
       go_wp2_with fail
       refine wp_region_ext_lit (by kernel_rfl) (by kernel_rfl) ?_
       repeat (go_big_quiet_step (first | (with_reducible exact Calls.ext_of (span_any _ _)) | (with_reducible exact Calls.ext_of (touch_any _ _ _))))
       refine wpQuiet_nil ?_
       intro we hxe
       have hbx := (Blk.new wr 47 #[.int .i64 x.1, .int .i64 x.2]).mod hxe (fun f => f)
       have q0 : we.cell? ⟨wr.heap.size, 0, none⟩ = some (.int .i64 x.1) := hbx.cell 0
       have q1 : we.cell? ⟨wr.heap.size, 1, none⟩ = some (.int .i64 x.2) := hbx.cell 1
       have qlt := hbx.lt
       clear hbx d0 d1 hT e1
       have Hon2 := Lib.hid (ownsRow_mod (ownsRow_mod Hon.out (show Ext wr (wr.alloc (.cells #[.int .i64 x.1, .int .i64 x.2] 47)) from (Mod.refl _ wr).alloc _) (fun _ _ f => f)) hxe (fun _ _ f => f))
       obtain ⟨d0, d1⟩ := owns_cell Hon2.out (k := m) (x := a) (by rw [List.getLast?_eq_getElem?, Hout.out, Nat.add_sub_cancel] at Hla; exact Hla.out)
       have hgo3 := (owns_block Hon2.out).2
       go_wp2_with fail
       have f1 := fun v => fld0 (spanI a).1 (spanI a).2 v
       have f2 := fun v => fld1 (spanI a).1 (spanI a).2 v
       have f3 := fun v => fld1 (spanI x).1 (spanI x).2 v
       refine wp_region_ext_lit (by kernel_rfl) (by kernel_rfl) ?_
       repeat (go_big_quiet_step (exact Calls.ext_of (span_any _ _)))
       refine wpQuiet_nil ?_
       intro wf hxg
       have Hon3 := Lib.hid (ownsRow_mod Hon2.out hxg (fun _ _ f => f))
       have hlx := hxg.lt hgo3
       clear q0 q1 qlt f1 f2 f3 d0 d1 Hon2 hgo3
       obtain ⟨d0, d1⟩ := owns_cell Hon3.out (k := m) (x := a) (by rw [List.getLast?_eq_getElem?, Hout.out, Nat.add_sub_cancel] at Hla; exact Hla.out)
       have g0 := owns_free Hon3.out (m * 2)
       have g1 := owns_free Hon3.out (m * 2 + 1)
       have hgo3 := (owns_block Hon3.out).2
       go_wp2_with fail
       go_quiet (fail)
       go_wp2_with fail
       go_roundw
       case rel =>
        have hs := owns_set (ownsRow_mod Hon3.out ((Mod.refl (fun _ => False) wf).drewN nq) (fun _ _ f => f)) m (by omega) ((spanI a).1, (spanI a).2)
        exact ⟨k + 1, out.set m ((spanI a).1, (spanI a).2), by omega, by go_num, by rw [List.length_set]; omega, Lib.hid ⟨by rw [List.length_set, Hout.out]; exact hs, Hme.out.symm⟩, ((((hxa.ext_trans hxe).ext_trans hxg).drewN nq).setCell (p := ⟨go, m * 2, none⟩) (fun h => absurd h (Nat.not_lt.2 hgo1)) _).setCell (p := ⟨go, m * 2 + 1, none⟩) (fun h => absurd h (Nat.not_lt.2 hgo1)) _⟩
       case measure => simp [intOf]; omega
     ·rw [show max (spanI a).2 (spanI x).2 = (spanI x).2 from by omega] at Hme
      have hmx2 : (spanI a).2 < (spanI x).2 := by omega
      by_cases had : a.2 < a.1
      ·rw [if_pos had] at Hme
       have had2 : decide (a.2 < a.1) = true := decide_eq_true had
       go_wp2_with fail
       refine wp_region_ext_lit (by kernel_rfl) (by kernel_rfl) ?_
       repeat (go_big_quiet_step (first | (with_reducible exact Calls.ext_of (span_any _ _)) | (with_reducible exact Calls.ext_of (touch_any _ _ _))))
       refine wpQuiet_nil ?_
       intro we hxe
       have hbx := (Blk.new wr 47 #[.int .i64 x.1, .int .i64 x.2]).mod hxe (fun f => f)
       have q0 : we.cell? ⟨wr.heap.size, 0, none⟩ = some (.int .i64 x.1) := hbx.cell 0
       have q1 : we.cell? ⟨wr.heap.size, 1, none⟩ = some (.int .i64 x.2) := hbx.cell 1
       have qlt := hbx.lt
       clear hbx d0 d1 hT e1
       have Hon2 := Lib.hid (ownsRow_mod (ownsRow_mod Hon.out (show Ext wr (wr.alloc (.cells #[.int .i64 x.1, .int .i64 x.2] 47)) from (Mod.refl _ wr).alloc _) (fun _ _ f => f)) hxe (fun _ _ f => f))
       obtain ⟨d0, d1⟩ := owns_cell Hon2.out (k := m) (x := a) (by rw [List.getLast?_eq_getElem?, Hout.out, Nat.add_sub_cancel] at Hla; exact Hla.out)
       have hgo3 := (owns_block Hon2.out).2
       go_wp2_with fail
       have f1 := fun v => fld0 (spanI a).1 (spanI a).2 v
       have f2 := fun v => fld1 (spanI a).1 (spanI a).2 v
       have f3 := fun v => fld1 (spanI x).1 (spanI x).2 v
       refine wp_region_ext_lit (by kernel_rfl) (by kernel_rfl) ?_
       repeat (go_big_quiet_step (exact Calls.ext_of (span_any _ _)))
       refine wpQuiet_nil ?_
       intro wf hxg
       have Hon3 := Lib.hid (ownsRow_mod Hon2.out hxg (fun _ _ f => f))
       have hlx := hxg.lt hgo3
       clear q0 q1 qlt f1 f2 f3 d0 d1 Hon2 hgo3
       obtain ⟨d0, d1⟩ := owns_cell Hon3.out (k := m) (x := a) (by rw [List.getLast?_eq_getElem?, Hout.out, Nat.add_sub_cancel] at Hla; exact Hla.out)
       have g0 := owns_free Hon3.out (m * 2)
       have g1 := owns_free Hon3.out (m * 2 + 1)
       have hgo3 := (owns_block Hon3.out).2
       go_wp2_with fail
       go_quiet (fail)
       go_wp2_with fail
       go_roundw
       case rel =>
        have hs := owns_set (ownsRow_mod Hon3.out ((Mod.refl (fun _ => False) wf).drewN nq) (fun _ _ f => f)) m (by omega) ((spanI x).2, (spanI a).1)
        exact ⟨k + 1, out.set m ((spanI x).2, (spanI a).1), by omega, by go_num, by rw [List.length_set]; omega, Lib.hid ⟨by rw [List.length_set, Hout.out]; exact hs, Hme.out.symm⟩, ((((hxa.ext_trans hxe).ext_trans hxg).drewN nq).setCell (p := ⟨go, m * 2, none⟩) (fun h => absurd h (Nat.not_lt.2 hgo1)) _).setCell (p := ⟨go, m * 2 + 1, none⟩) (fun h => absurd h (Nat.not_lt.2 hgo1)) _⟩
       case measure => simp [intOf]; omega
      ·rw [if_neg had] at Hme
       have had2 : decide (a.2 < a.1) = false := decide_eq_false had
       go_wp2_with fail
       refine wp_region_ext_lit (by kernel_rfl) (by kernel_rfl) ?_
       repeat (go_big_quiet_step (first | (with_reducible exact Calls.ext_of (span_any _ _)) | (with_reducible exact Calls.ext_of (touch_any _ _ _))))
       refine wpQuiet_nil ?_
       intro we hxe
       have hbx := (Blk.new wr 47 #[.int .i64 x.1, .int .i64 x.2]).mod hxe (fun f => f)
       have q0 : we.cell? ⟨wr.heap.size, 0, none⟩ = some (.int .i64 x.1) := hbx.cell 0
       have q1 : we.cell? ⟨wr.heap.size, 1, none⟩ = some (.int .i64 x.2) := hbx.cell 1
       have qlt := hbx.lt
       clear hbx d0 d1 hT e1
       have Hon2 := Lib.hid (ownsRow_mod (ownsRow_mod Hon.out (show Ext wr (wr.alloc (.cells #[.int .i64 x.1, .int .i64 x.2] 47)) from (Mod.refl _ wr).alloc _) (fun _ _ f => f)) hxe (fun _ _ f => f))
       obtain ⟨d0, d1⟩ := owns_cell Hon2.out (k := m) (x := a) (by rw [List.getLast?_eq_getElem?, Hout.out, Nat.add_sub_cancel] at Hla; exact Hla.out)
       have hgo3 := (owns_block Hon2.out).2
       go_wp2_with fail
       have f1 := fun v => fld0 (spanI a).1 (spanI a).2 v
       have f2 := fun v => fld1 (spanI a).1 (spanI a).2 v
       have f3 := fun v => fld1 (spanI x).1 (spanI x).2 v
       refine wp_region_ext_lit (by kernel_rfl) (by kernel_rfl) ?_
       repeat (go_big_quiet_step (exact Calls.ext_of (span_any _ _)))
       refine wpQuiet_nil ?_
       intro wf hxg
       have Hon3 := Lib.hid (ownsRow_mod Hon2.out hxg (fun _ _ f => f))
       have hlx := hxg.lt hgo3
       clear q0 q1 qlt f1 f2 f3 d0 d1 Hon2 hgo3
       obtain ⟨d0, d1⟩ := owns_cell Hon3.out (k := m) (x := a) (by rw [List.getLast?_eq_getElem?, Hout.out, Nat.add_sub_cancel] at Hla; exact Hla.out)
       have g0 := owns_free Hon3.out (m * 2)
       have g1 := owns_free Hon3.out (m * 2 + 1)
       have hgo3 := (owns_block Hon3.out).2
       go_wp2_with fail
       go_quiet (fail)
       go_wp2_with fail
       go_roundw
       case rel =>
        have hs := owns_set (ownsRow_mod Hon3.out ((Mod.refl (fun _ => False) wf).drewN nq) (fun _ _ f => f)) m (by omega) ((spanI a).1, (spanI x).2)
        exact ⟨k + 1, out.set m ((spanI a).1, (spanI x).2), by omega, by go_num, by rw [List.length_set]; omega, Lib.hid ⟨by rw [List.length_set, Hout.out]; exact hs, Hme.out.symm⟩, ((((hxa.ext_trans hxe).ext_trans hxg).drewN nq).setCell (p := ⟨go, m * 2, none⟩) (fun h => absurd h (Nat.not_lt.2 hgo1)) _).setCell (p := ⟨go, m * 2 + 1, none⟩) (fun h => absurd h (Nat.not_lt.2 hgo1)) _⟩
       case measure => simp [intOf]; omega
  ·have hlt' : ¬ (k : Int) < (N : Int) := by omega
   obtain rfl : k = N := by omega
   have HO2 := HO.out
   rw [List.take_of_length_le (by rw [Hsl.out]; exact Nat.le_refl _)] at HO2
   obtain ⟨ho1, rfl⟩ := HO2
   have hpos : 0 < (merged S).length := by
    have hlast : S[k - 1]? = some (S[k - 1]'(by rw [Hsl.out]; omega)) := List.getElem?_eq_getElem _
    have := merged_snoc S (k - 1) _ hlast
    rw [List.take_of_length_le (by rw [Hsl.out]; omega)] at this
    rw [this]; exact mergeS_pos _ _
   obtain ⟨go, co, rfl⟩ := owns_some ho1 hpos
   have HO3 := Lib.hid (ownsRow_base ho1 hx2.size)
   clear ho1 HO
   go_wp2_with fail
   go_ret
   exact ⟨go, co, rfl, HO3.out, hx2.ext_trans hxr⟩
end Go.Proofs.YthlmgoagnfkhdaaGreat
namespace Go.Gim
def moveS (es : List Ed) (x : Int × Int) : Int × Int := (moveE true es x.1, moveE true es x.2)
def selsM (es : List Ed) (l : List (Int × Int)) : List (Int × Int) := orderN (l.map (moveS es))
end Go.Gim
namespace Go.Proofs.YthlmgoagnfkhdaaGreat
open Go.RowKit Go.Gim
theorem smove_any (ao : Option Addr) (cap : Nat) (l : List (Int × Int)) (a2 : Option Addr) (c2 : Nat) (es : List Ed) (w : World) (hr : Reads w 2 ao l.length (prCells l)) (h0 : 0 < l.length) (hn : l.length ≤ 19)
  (he : Reads w 3 a2 es.length (edE.cells es)) (hes : es.length ≤ 19) (hok : ∀ e ∈ es, EdOk e) (hin : ∀ x ∈ l, 0 ≤ x.1 ∧ x.1 ≤ 900000000 ∧ 0 ≤ x.2 ∧ x.2 ≤ 900000000) :
  Calls Tryz.prog 39 #[.slice ao l.length cap, .slice a2 es.length c2] w (NewRow 47 (selsM es l) w) := by
 have hl1 : maxLen = 9223372036854775807 := rfl
 have Hr := Lib.hid hr
 have Hin := Lib.hid hin
 have HM := Lib.hid (fun o w' (h' : Ext w w') (h0 : 0 ≤ o) (h1 : o ≤ 1000000000) => moveC_all true o a2 c2 es w' (he.mod h' (fun _ _ f => f)) hes hok h0 h1)
 have HO := Lib.hid (fun b off cp w' (h' : Reads w' 2 (some ⟨b, off, none⟩) (l.map (moveS es)).length (prCells (l.map (moveS es)))) => orderSel_any b off cp (l.map (moveS es)) w' h' (by rw [List.length_map]; exact h0) (by rw [List.length_map]; exact hn))
 rw [List.length_map] at HO
 unfold NewRow at HO ⊢
 rw [show orderN (l.map (moveS es)) = selsM es l from rfl] at HO
 obtain ⟨N, hN⟩ : ∃ N, N = l.length := ⟨_, rfl⟩
 have HN := Lib.hid hN
 rw [← hN] at hn h0 HO ⊢
 generalize hM : selsM es l = M at *
 clear hr hN hin he hok hes hM
 go_enter Tryz.func39, Tryz.ntmps39
 go_wp2_with fail
 go_loopw [5, 10] (fun v i wr => ∃ k : Nat, k ≤ N ∧ i = .int .i64 k ∧ Hid (wr.ownsRow w.heap.size 47 2 v k (prCells ((l.map (moveS es)).take k))) ∧ Ext w wr) (fun _ i _ => N - (intOf i).toNat)
 case atStart => exact ⟨0, by omega, rfl, Lib.hid (World.ownsRow_nil _ _ _ _), Mod.refl _ _⟩
 case round =>
  obtain ⟨k, hk, rfl, HW, hx⟩ := hrel
  by_cases hlt : k < N
  ·have hlt' : (k : Int) < (N : Int) := by omega
   have hk0 : (0 : Int) ≤ (k : Int) := by omega
   obtain ⟨b, off, rfl⟩ := Hr.out.some (by rw [← HN.out]; omega)
   have hlk : k < l.length := by rw [← HN.out]; exact hlt
   obtain ⟨c0, c1⟩ := reads_pair (Hr.out.mod hx (fun _ _ f => f)) (List.getElem?_eq_getElem hlk)
   have Hts := Lib.hid (show (l.map (moveS es)).take (k + 1) = (l.map (moveS es)).take k ++ [moveS es l[k]] by rw [List.take_succ_eq_append_getElem (by simpa using hlk)]; simp)
   obtain ⟨n0, n1, n2, n3⟩ := Hin.out _ (List.getElem_mem hlk)
   generalize l[k] = x at *
   obtain ⟨p, q⟩ := x
   simp only at c0 c1 n0 n1 n2 n3
   obtain ⟨va, vc, hva, _, _⟩ := ownsRow_shape HW.out
   subst hva
   have hbl := World.block_lt_of_cell? wr _ c0
   clear hlk
   go_upto_region 5 with fail
   obtain ⟨u, hu⟩ : ∃ u, u = wr.alloc (.cells #[.int .i64 p, .int .i64 q] 47) := ⟨_, rfl⟩
   have hxu : Ext wr u := by rw [hu]; exact (Mod.refl _ wr).alloc _
   have hbu : Blk u wr.heap.size 47 #[.int .i64 p, .int .i64 q] := by rw [hu]; exact Blk.new _ _ _
   rw [← hu]
   clear c0 c1 hbl hu
   have c0 : u.cell? ⟨wr.heap.size, 0, none⟩ = some (.int .i64 p) := hbu.cell 0
   have c1 : u.cell? ⟨wr.heap.size, 1, none⟩ = some (.int .i64 q) := hbu.cell 1
   have hlu := hbu.lt
   have hy := hx.ext_trans hxu
   have HMa := Lib.hid (fun w' (h' : Ext u w') => HM.out p w' (hy.ext_trans h') n0 (by omega))
   have HMb := Lib.hid (fun w' (h' : Ext u w') => HM.out q w' (hy.ext_trans h') n2 (by omega))
   have HE := Lib.hid (show moveS es (p, q) = (moveE true es p, moveE true es q) from rfl)
   generalize moveE true es p = P at *
   generalize moveE true es q = Q at *
   refine wp_region_ext_tail1 10 (.slice va k vc) _ rfl rfl rfl (by kernel_rfl) (by kernel_rfl) (fun _ _ _ _ h => h) ?_
   simp only [List.take_succ_cons, List.take_zero, List.drop_succ_cons, List.drop_zero, Act.put, List.setIfInBounds_toArray, List.set_cons_zero, List.set_cons_succ, Nat.reduceSub]
   repeat (go_big_quiet_step (first | (with_reducible exact Calls.ext_of (HMa.out _ (Mod.of_below (ext_below _ _)))) | (with_reducible exact Calls.ext_of (HMb.out _ (Mod.of_below (ext_below _ _))))))
   refine wpQuiet_nil ?_
   intro we hxe
   have hye := hy.ext_trans hxe
   have HWe := Lib.hid (ownsRow_mod HW.out (hxu.ext_trans hxe) (fun _ _ f => f))
   clear c0 c1 hlu HMa HMb hbu hxu hxe hy HW
   go_wp2_with (at_builtin; refine wpList_append_reads rfl _ _ 32 rfl w.heap.size 47 _ 2 16 Tryz.info47 Tryz.underlying32 rfl (by decide) _ k _ rfl (HWe.out.alloc _) _ 1 1 [.int .i64 P, .int .i64 Q] rfl ?hrd (prCells_one [(P, Q)]) (by omega) (by omega) ?hbs ?_)
   case hrd =>
    have := Reads.new we 47 #[.int .i64 P, .int .i64 Q] 2 1 rfl
    simpa using this
   case hbs => have := hye.size; simp; omega
   intro v' w4 hown hm4 hbk
   have hx4 := (hye.alloc _).over hm4 (fun i hi => (HWe.out.lt i hi).1)
   have Hown := Lib.hid hown
   clear hm4 hbk hown
   go_wp2_with fail
   go_roundw
   case rel => exact ⟨k + 1, by omega, by go_num, Lib.hid (by rw [Hts.out, HE.out, prCells_append]; exact Hown.out), hx4⟩
   case measure => simp [intOf]; omega
  ·have hlt' : ¬ (k : Int) < (N : Int) := by omega
   obtain rfl : k = N := by omega
   have hS := HW.out
   rw [List.take_of_length_le (by rw [List.length_map, ← HN.out]; exact Nat.le_refl _)] at hS
   obtain ⟨g, c, hv⟩ := owns_some hS h0
   subst hv
   have HO2 := Lib.hid (HO.out g 0 c wr (Reads.own hS))
   clear hS HW
   go_wp2_with fail
   refine HO2.out.mono ?_
   rintro e w9 ⟨g9, c9, rfl, hown9, hx9⟩
   have Hown9 := Lib.hid hown9
   clear hown9
   go_wp2_with fail
   go_ret
   exact ⟨g9, c9, rfl, ownsRow_base Hown9.out hx.size, hx.ext_trans hx9⟩
end Go.Proofs.YthlmgoagnfkhdaaGreat
namespace Go.Gim
def mayB (x : Int × Int) (n : Int) : Bool := decide (0 ≤ x.1 ∧ x.1 ≤ x.2 ∧ x.2 ≤ n)
def normE (n : Int) (l : List (Int × Int)) : Int := if l.length = 0 then 2 else if 64 < l.length then 7 else if l.all (fun x => mayB (spanI x) n) then 0 else 3
def normL (n : Int) (l : List (Int × Int)) : List (Int × Int) := if normE n l = 0 then orderN l else []
theorem normE_in {n : Int} {l : List (Int × Int)} (h0 : 0 < l.length) (h1 : l.length ≤ 64) : normE n l = if l.all (fun x => mayB (spanI x) n) then 0 else 3 := by
 unfold normE; rw [if_neg (by omega), if_neg (by omega)]
theorem normL_len (n : Int) (l : List (Int × Int)) : (normL n l).length ≤ l.length := by
 unfold normL; split
 ·exact orderN_len l
 ·simp
end Go.Gim
namespace Go.Proofs.YthlmgoagnfkhdaaGreat
open Go.RowKit Go.Gim
theorem spanMay_any (x : Int × Int) (n : Int) (w : World) : Calls Tryz.prog 55 #[.agg #[.int .i64 x.1, .int .i64 x.2], .int .i64 n] w fun e w' => e = .returned (.bool (mayB x n)) ∧ Ext w w' := by
 obtain ⟨p, q⟩ := x
 simp only [mayB]
 go_enter Tryz.func55, Tryz.ntmps55
 go_wp2_with fail
 all_goals
  go_ret
  exact ⟨ret_bool (by rw [Bool.eq_iff_iff]; simp; try omega), (Mod.refl _ w).alloc _⟩
def NormPost (T : TypeId) (n : Int) (l : List (Int × Int)) (w : World) (e : Ending) (w' : World) : Prop :=
 ∃ v, e = .returned (.tuple #[v, .int .i64 (normE n l)]) ∧ w'.ownsRow w.heap.size T 2 v (normL n l).length (prCells (normL n l)) ∧ Ext w w'
theorem norm_nil (n : Int) (ao : Option Addr) (cap : Nat) (w : World) :
  Calls Tryz.prog 30 #[.int .i64 n, .slice ao 0 cap] w (NormPost 47 n [] w) := by
 go_enter Tryz.func30, Tryz.ntmps30
 go_wp2_with fail
 go_ret2
 exact ⟨_, rfl, World.ownsRow_nil _ _ _ _, Mod.refl _ _⟩
theorem norm_in (n : Int) (b off cap : Nat) (l : List (Int × Int)) (w : World) (hr : Reads w 2 (some ⟨b, off, none⟩) l.length (prCells l)) (h0 : 0 < l.length) (hn : l.length ≤ 19) :
  Calls Tryz.prog 30 #[.int .i64 n, .slice (some ⟨b, off, none⟩) l.length cap] w (NormPost 47 n l w) := by
 have He := Lib.hid (normE_in (n := n) h0 (by omega))
 have Hr := Lib.hid hr
 have Ho := Lib.hid (fun v hv => orderSel_any b off cap l v hv h0 hn)
 have Hll := Lib.hid (show (0 : Nat) < l.length from h0)
 obtain ⟨N, hN⟩ : ∃ N, N = l.length := ⟨_, rfl⟩
 have HN := Lib.hid hN
 rw [← hN] at h0 hn ⊢
 have j1 : ¬ (N : Int) = 0 := by omega
 have j2 : ¬ 64 < (N : Int) := by omega
 have j3 : ¬ 64 < N := by omega
 have j4 : ¬ N = 0 := by omega
 clear hr hN
 go_enter Tryz.func30, Tryz.ntmps30
 go_wp2_with fail
 go_loopw [16] (fun i wr => ∃ k : Nat, k ≤ N ∧ i = .int .i64 k ∧ Hid (∀ x ∈ l.take k, mayB (spanI x) n = true) ∧ Ext w wr) (fun i _ => N - (intOf i).toNat)
 case atStart => exact ⟨0, by omega, rfl, Lib.hid (by simp), Mod.refl _ _⟩
 case round =>
  obtain ⟨k, hk, rfl, HA, hx⟩ := hrel
  by_cases hlt : k < N
  ·have hlt' : (k : Int) < (N : Int) := by omega
   have hk0 : (0 : Int) ≤ (k : Int) := by omega
   have hlk : k < l.length := by rw [← HN.out]; exact hlt
   obtain ⟨c0, c1⟩ := reads_pair (Hr.out.mod hx (fun _ _ f => f)) (List.getElem?_eq_getElem hlk)
   have hts := List.take_succ_eq_append_getElem hlk
   have Hmem := Lib.hid (List.getElem_mem hlk)
   generalize l[k] = x at *
   have Hts := Lib.hid hts
   have hbl := World.block_lt_of_cell? _ _ c0
   clear hts hlk
   go_wp2_with fail
   refine (span_any x _).mono ?_
   rintro e w1 ⟨rfl, y1⟩
   go_wp2_with fail
   refine (spanMay_any (spanI x) n _).mono ?_
   rintro e w2 ⟨rfl, y2⟩
   have hx2 := ((hx.alloc (.cells #[.int .i64 x.1, .int .i64 x.2] 47)).ext_trans y1).ext_trans y2
   cases hm : mayB (spanI x) n with
   | true =>
    have Hm := Lib.hid hm
    clear y1 y2 c0 c1 hm
    go_wp2_with fail
    go_roundw
    case rel => exact ⟨k + 1, by omega, by go_num, Lib.hid (by rw [Hts.out]; intro y hy; rcases List.mem_append.1 hy with h | h; exact HA.out y h; rw [List.mem_singleton.1 h]; exact Hm.out), hx2⟩
    case measure => simp [intOf]; omega
   | false =>
    have Hm := Lib.hid hm
    have HE := Lib.hid (show normE n l = 3 by
     rw [He.out, if_neg]
     intro hall
     have := List.all_eq_true.1 hall x Hmem.out
     rw [Hm.out] at this; cases this)
    clear y1 y2 c0 c1 hm
    go_wp2_with fail
    go_ret2
    exact ⟨_, by rw [HE.out]; rfl, by rw [show normL n l = [] by unfold normL; rw [HE.out]; rfl]; exact World.ownsRow_nil _ _ _ _, hx2⟩
  ·have hlt' : ¬ (k : Int) < (N : Int) := by omega
   obtain rfl : k = N := by omega
   have HE := Lib.hid (show normE n l = 0 by
    have h1 := HA.out
    rw [HN.out, List.take_of_length_le (Nat.le_refl _)] at h1
    rw [He.out, if_pos (List.all_eq_true.2 h1)])
   have ho := Ho.out _ (Hr.out.mod hx (fun _ _ f => f))
   rw [← HN.out] at ho
   have Ho2 := Lib.hid ho
   clear ho Ho
   go_wp2_with fail
   refine Ho2.out.mono ?_
   rintro e w3 ⟨g, c, rfl, hown, y3⟩
   have HO := Lib.hid (ownsRow_base hown hx.size)
   clear hown
   go_wp2_with fail
   go_ret2
   exact ⟨_, by rw [HE.out]; rfl, by rw [show normL n l = orderN l by unfold normL; rw [HE.out]; rfl]; exact HO.out, hx.ext_trans y3⟩
theorem norm_any (n : Int) (ao : Option Addr) (cap : Nat) (l : List (Int × Int)) (w : World) (hr : Reads w 2 ao l.length (prCells l)) (hn : l.length ≤ 19) :
  Calls Tryz.prog 30 #[.int .i64 n, .slice ao l.length cap] w (NormPost 47 n l w) := by
 by_cases h0 : 0 < l.length
 ·obtain ⟨b, off, rfl⟩ := hr.some h0
  exact norm_in n b off cap l w hr h0 hn
 ·obtain rfl : l = [] := List.length_eq_zero_iff.1 (by omega)
  exact norm_nil n ao cap w
end Go.Proofs.YthlmgoagnfkhdaaGreat

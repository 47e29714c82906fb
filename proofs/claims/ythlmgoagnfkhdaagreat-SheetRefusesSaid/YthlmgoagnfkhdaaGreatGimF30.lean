/- Small functions that order selections: Span, Compare, Or, the comparison that package sels sorts by. Conditions: none. -/
import Derived.Test.YthlmgoagnfkhdaaGreatGimF25
import Derived.Test.YthlmgoagnfkhdaaGreatGimF26
import Derived.Test.YthlmgoagnfkhdaaGreatGimF01
import Derived.Test.YthlmgoagnfkhdaaGreatGimF10
import Derived.Test.YthlmgoagnfkhdaaGreatGimF05
import Derived.Deep.DeepCutAuto
set_option maxHeartbeats 6400000
set_option maxRecDepth 1000000
set_option linter.unusedVariables false
set_option linter.unusedSimpArgs false
namespace Go.Proofs.YthlmgoagnfkhdaaGreat
open Go.RowKit Go.Gim
theorem span_any (x : Int × Int) (w : World) : Calls Tryz.prog 20 #[.agg #[.int .i64 x.1, .int .i64 x.2]] w fun e w' => e = .returned (.agg #[.int .i64 (spanI x).1, .int .i64 (spanI x).2]) ∧ Ext w w' := by
 obtain ⟨p, q⟩ := x
 simp only [spanI]
 by_cases h : p < q
 ·rw [show min p q = p by omega, show max p q = q by omega]; exact span_rise p q w h
 ·by_cases h0 : p = q
  ·subst h0
   rw [show min p p = p by omega, show max p p = p by omega]
   have h1 : p ≤ p := Int.le_refl _
   have h2 : ¬ p < p := by omega
   go_enter Tryz.func20, Tryz.ntmps20
   go_wp2_with fail
   go_returns
   exact ⟨rfl, ((Mod.refl _ w).alloc _).alloc _⟩
  ·have h1 : q < p := by omega
   have h2 : ¬ p ≤ q := by omega
   have h3 : q ≤ p := by omega
   rw [show min p q = q by omega, show max p q = p by omega]
   clear h h0
   go_enter Tryz.func20, Tryz.ntmps20
   go_wp2_with fail
   go_returns
   exact ⟨rfl, ((Mod.refl _ w).alloc _).alloc _⟩
theorem box2_span : Box2 Tryz.prog 49 (.int .i64 0) (.int .i64 0) := by
 constructor
 ·intro ρ o w h
  simp [execOp, h, go_sem]
 ·intro ρ o w d s p y0 y1 x0 x1 h hd hs o0 o1 hb
  have c0 : w.cell? ⟨p, 0, none⟩ = some y0 := hb.cell 0
  have c1 : w.cell? ⟨p, 1, none⟩ = some y1 := hb.cell 1
  have f0 := hb.free 0
  have f1 := hb.free 1
  simp [execOp, h, hd, hs, go_sem, run_store _ _ _ _ _ o0, run_store _ _ _ _ _ o1, c0, c1, f0, f1]
theorem selCmp_any (x y : Int × Int) (w : World) : Calls Tryz.prog 87 #[.agg #[.int .i64 x.1, .int .i64 x.2], .agg #[.int .i64 y.1, .int .i64 y.2]] w fun e w' => e = .returned (.int .i64 (cmpB (spanI x) (spanI y))) ∧ Ext w w' := by
 go_enter Tryz.func87, Tryz.ntmps87
 go_wp2_with fail
 obtain ⟨wa, hwa⟩ : ∃ wa, wa = (w.alloc (.cells #[.int .i64 x.1, .int .i64 x.2] 47)).alloc (.cells #[.int .i64 y.1, .int .i64 y.2] 47) := ⟨_, rfl⟩
 have hxa : Ext w wa := by rw [hwa]; exact ((Mod.refl _ w).alloc _).alloc _
 have hb2 : Blk wa w.heap.size 47 #[.int .i64 x.1, .int .i64 x.2] := by rw [hwa]; exact (Blk.new _ _ _).alloc _
 have hb3 : Blk wa (w.heap.size + 1) 47 #[.int .i64 y.1, .int .i64 y.2] := by
  rw [hwa]; have := Blk.new (w.alloc (.cells #[.int .i64 x.1, .int .i64 x.2] 47)) 47 #[.int .i64 y.1, .int .i64 y.2]; simpa using this
 rw [← hwa]
 clear hwa
 have c0 : wa.cell? ⟨w.heap.size, 0, none⟩ = some (.int .i64 x.1) := hb2.cell 0
 have c1 : wa.cell? ⟨w.heap.size, 1, none⟩ = some (.int .i64 x.2) := hb2.cell 1
 have c2 : wa.cell? ⟨w.heap.size + 1, 0, none⟩ = some (.int .i64 y.1) := hb3.cell 0
 have c3 : wa.cell? ⟨w.heap.size + 1, 1, none⟩ = some (.int .i64 y.2) := hb3.cell 1
 have l2 := hb2.lt
 have l3 := hb3.lt
 have hS : ∀ w', Ext wa w' → w'.cell? ⟨w.heap.size, 0, none⟩ = some (.int .i64 x.1) ∧ w'.cell? ⟨w.heap.size, 1, none⟩ = some (.int .i64 x.2) ∧ w'.cell? ⟨w.heap.size + 1, 0, none⟩ = some (.int .i64 y.1) ∧ w'.cell? ⟨w.heap.size + 1, 1, none⟩ = some (.int .i64 y.2) := fun w' h =>
  ⟨(h.cell l2 (fun f => f)).trans c0, (h.cell l2 (fun f => f)).trans c1, (h.cell l3 (fun f => f)).trans c2, (h.cell l3 (fun f => f)).trans c3⟩
 have HS := Lib.hid hS
 clear hS
 generalize w.heap.size = B at *
 go_cut [5, 6] (fun v5 v6 wc => ∃ (wn : World) (p q : Nat), wn = wc ∧ v5 = .pointer (some ⟨p, 0, none⟩) ∧ v6 = .pointer (some ⟨q, 0, none⟩) ∧ Hid (TwoBoxes wa wn p q 49 (.int .i64 (spanI x).1, .int .i64 (spanI x).2) (.int .i64 (spanI y).1, .int .i64 (spanI y).2)))
 case rest =>
  obtain ⟨wn, p, q, rfl, rfl, rfl, H⟩ := hcut
  obtain ⟨hx, _, _, _, bp, bq⟩ := H.out
  have d0 : wn.cell? ⟨p, 0, none⟩ = some (.int .i64 (spanI x).1) := bp.cell 0
  have d1 : wn.cell? ⟨p, 1, none⟩ = some (.int .i64 (spanI x).2) := bp.cell 1
  have d2 : wn.cell? ⟨q, 0, none⟩ = some (.int .i64 (spanI y).1) := bq.cell 0
  have d3 : wn.cell? ⟨q, 1, none⟩ = some (.int .i64 (spanI y).2) := bq.cell 1
  have m2 := bp.lt
  have m3 := bq.lt
  clear c0 c1 c2 c3 HS H hb2 hb3
  go_wp2_with fail
  refine wp_region_ext_tail 10 (by kernel_rfl) (by kernel_rfl) ?_
  simp only [List.take_succ_cons, List.take_zero, List.drop_succ_cons, List.drop_zero]
  repeat (go_big_quiet_step (exact Calls.ext_of_same (compare_any _ _ _)))
  refine wpQuiet_nil ?_
  intro we hxe
  go_wp2_with fail
  have hb := Blk.new we 3 #[.int .i64 (cmpI (spanI x).1 (spanI y).1), .int .i64 (cmpI (spanI x).2 (spanI y).2)]
  refine (or_two _ _ we.heap.size _ (hb.cell 0) (hb.cell 1)).mono ?_
  rintro e w' ⟨rfl, rfl⟩
  clear hb
  go_wp2_with fail
  go_ret
  exact ⟨rfl, ((hxa.ext_trans hx).ext_trans hxe).alloc _⟩
 case first =>
  refine wp_region_E (by kernel_rfl) ?_
  refine wpE_t 0 7 (v := ?_) (fun w' hw' => ?_) ?_
  rotate_left
  ·obtain ⟨r0, r1, r2, r3⟩ := HS.out w' hw'
   refine qat_value ?_
   go_simp
   rfl
  simp only [fr1, fr2, fr3, fr4]
  refine wpE_t 1 8 (v := ?_) (fun w' hw' => ?_) ?_
  rotate_left
  ·refine qat_enter (by go_simp; exact ⟨rfl, rfl⟩) ?_
   exact span_any x _
  simp only [fr1, fr2, fr3, fr4]
  refine wpE_t 2 9 (v := ?_) (fun w' hw' => ?_) ?_
  rotate_left
  ·obtain ⟨r0, r1, r2, r3⟩ := HS.out w' hw'
   refine qat_value ?_
   go_simp
   rfl
  simp only [fr1, fr2, fr3, fr4]
  refine wpE_t 3 10 (v := ?_) (fun w' hw' => ?_) ?_
  rotate_left
  ·refine qat_enter (by go_simp; exact ⟨rfl, rfl⟩) ?_
   exact span_any y _
  simp only [fr1, fr2, fr3, fr4]
  refine wpE_boxes2 (T := 49) (x := (.int .i64 (spanI x).1, .int .i64 (spanI x).2)) (y := (.int .i64 (spanI y).1, .int .i64 (spanI y).2)) box2_span 4 5 6 7 5 6 8 10 rfl rfl rfl rfl ⟨rfl, rfl, rfl, rfl⟩ ⟨rfl, rfl⟩ ⟨rfl, rfl⟩ ⟨rfl, rfl⟩ ⟨rfl, rfl⟩ (by kernel_rfl) (by kernel_rfl) (by kernel_rfl) (by kernel_rfl) (by kernel_rfl) (by kernel_rfl) (by omega) (by refine ⟨?_, ?_, ?_, ?_, ?_, ?_, ?_⟩ <;> simp) rfl rfl ⟨rfl, rfl, rfl, rfl⟩ (ext_draw _) ?_
  intro w' p q htb
  simp only [fr1, fr2, fr3, fr4]
  go_wp2_with fail
  go_meet
  case rel => exact ⟨w', p, q, rfl, rfl, rfl, Lib.hid htb⟩
end Go.Proofs.YthlmgoagnfkhdaaGreat
namespace Go.Gim
open Go Go.RowKit
def Row2 (w : World) (g : Nat) (T : TypeId) (l : List (Int × Int)) : Prop :=
 ∃ cs : Array Value, Blk w g T cs ∧ ∀ k x, l[k]? = some x → cs[k * 2]? = some (.int .i64 x.1) ∧ cs[k * 2 + 1]? = some (.int .i64 x.2)
theorem Row2.cell {w : World} {g : Nat} {T : TypeId} {l : List (Int × Int)} (h : Row2 w g T l) {k : Nat} {x : Int × Int} (hx : l[k]? = some x) :
  w.cell? ⟨g, k * 2, none⟩ = some (.int .i64 x.1) ∧ w.cell? ⟨g, k * 2 + 1, none⟩ = some (.int .i64 x.2) := by
 obtain ⟨cs, hb, hc⟩ := h
 exact ⟨(hb.cell _).trans (hc k x hx).1, (hb.cell _).trans (hc k x hx).2⟩
theorem Row2.free {w : World} {g : Nat} {T : TypeId} {l : List (Int × Int)} (h : Row2 w g T l) (k : Nat) : w.frozen? ⟨g, k, none⟩ = false := by
 obtain ⟨cs, hb, _⟩ := h; exact hb.free k
theorem Row2.lt {w : World} {g : Nat} {T : TypeId} {l : List (Int × Int)} (h : Row2 w g T l) : g < w.heap.size := by
 obtain ⟨cs, hb, _⟩ := h; exact hb.lt
theorem Row2.mod {S : Nat → Prop} {w w' : World} {g : Nat} {T : TypeId} {l : List (Int × Int)} (h : Row2 w g T l) (hm : Mod S w w') (hS : ¬ S g) : Row2 w' g T l := by
 obtain ⟨cs, hb, hc⟩ := h; exact ⟨cs, hb.mod hm hS, hc⟩
theorem Row2.set {w : World} {g : Nat} {T : TypeId} {l : List (Int × Int)} (h : Row2 w g T l) (k : Nat) (hk : k < l.length) (x : Int × Int) :
  Row2 ((w.setCell ⟨g, k * 2, none⟩ (.int .i64 x.1)).setCell ⟨g, k * 2 + 1, none⟩ (.int .i64 x.2)) g T (l.set k x) := by
 obtain ⟨cs, hb, hc⟩ := h
 refine ⟨_, (hb.set (k * 2) _).set (k * 2 + 1) _, fun j y hy => ?_⟩
 obtain ⟨c0, c1⟩ := hc k _ (List.getElem?_eq_getElem hk)
 have l0 := (Array.getElem?_eq_some_iff.1 c0).1
 have l1 := (Array.getElem?_eq_some_iff.1 c1).1
 by_cases hjk : j = k
 ·subst hjk
  rw [List.getElem?_set_self hk] at hy
  cases hy
  exact ⟨by rw [Array.getElem?_setIfInBounds_ne (by omega), Array.getElem?_setIfInBounds_self_of_lt l0], by rw [Array.getElem?_setIfInBounds_self_of_lt (by simpa using l1)]⟩
 ·rw [List.getElem?_set_ne (by omega)] at hy
  obtain ⟨c2, c3⟩ := hc j y hy
  exact ⟨by rw [Array.getElem?_setIfInBounds_ne (by omega), Array.getElem?_setIfInBounds_ne (by omega)]; exact c2, by rw [Array.getElem?_setIfInBounds_ne (by omega), Array.getElem?_setIfInBounds_ne (by omega)]; exact c3⟩
end Go.Gim
namespace Go.Proofs.YthlmgoagnfkhdaaGreat
open Go.RowKit Go.Gim
theorem selLess (x y : Int × Int) : decide (cmpB (spanI x) (spanI y) < 0) = lessS x y := cmpB_less _ _
theorem insertSel_any (g cap : Nat) (l : List (Int × Int)) (w : World) (hr : Row2 w g 47 l) (h0 : 0 < l.length) (hn : l.length ≤ 1000) :
  Calls Tryz.prog 156 #[.slice (some ⟨g, 0, none⟩) l.length cap, .int .i64 0, .int .i64 l.length, .func (.func 87) #[] #[]] w
   fun e w' => e = .returned (.tuple #[]) ∧ Row2 w' g 47 (isort lessS l l.length) ∧ Mod (· = g) w w' := by
 have H1 := Lib.hid (show Row2 w g 47 (isort lessS l 1) from hr)
 obtain ⟨N, hN⟩ : ∃ N, N = l.length := ⟨_, rfl⟩
 rw [← hN] at h0 hn ⊢
 have HN := Lib.hid hN
 clear hr hN
 go_enter Tryz.func156, Tryz.ntmps156
 go_wp2_with fail
 go_loopw [8] (fun s8 wr => ∃ k : Nat, 1 ≤ k ∧ k ≤ N ∧ s8 = .int .i64 k ∧ Hid (Row2 wr g 47 (isort lessS l k)) ∧ Mod (· = g) w wr) (fun s8 _ => N - (intOf s8).toNat)
 case atStart => exact ⟨1, by omega, by omega, rfl, H1, Mod.refl _ _⟩
 case round =>
  obtain ⟨k, hk1, hk, rfl, HR, hm⟩ := hrel
  by_cases hlt : k < N
  ·have hlt' : (k : Int) < (N : Int) := by omega
   obtain ⟨T, hT⟩ : ∃ T, isort lessS l (k + 1) = T := ⟨_, rfl⟩
   have HT := Lib.hid (show sink lessS (isort lessS l k) k = T from hT)
   have HL := Lib.hid (show (isort lessS l k).length = N by rw [isort_length]; exact HN.out.symm)
   go_wp2_with fail
   go_loopg [9] k (fun c s9 wi => ∃ (j : Nat) (cur : List (Int × Int)), j = c ∧ j ≤ k ∧ s9 = .int .i64 j ∧ Hid (Row2 wi g 47 cur ∧ cur.length = N ∧ sink lessS cur j = T) ∧ Mod (· = g) w wi)
   case atStart => exact ⟨k, _, rfl, Nat.le_refl _, rfl, Lib.hid ⟨HR.out, HL.out, HT.out⟩, hm⟩
   case round =>
    obtain ⟨j, cur, hjc, hj, rfl, HC, hmi⟩ := hrel
    have Hjc := Lib.hid hjc
    clear hjc
    clear HR HT HL hm
    cases j with
    | zero =>
     have e1 : decide ((0 : Int) < 0) = false := rfl
     go_wp2_with fail
     go_quiet (fail)
     go_wp2_with fail
     go_roundw
     case rel => exact ⟨k + 1, by omega, by omega, by go_num, Lib.hid (by rw [hT, ← HC.out.2.2]; exact HC.out.1.mod ((Mod.refl (fun _ => False) _).drewN _) (fun f => f)), hmi.drewN _⟩
     case measure => simp [intOf]; omega
    | succ j =>
     have hj1 : (0 : Int) ≤ (j : Int) := by omega
     have e1 : decide ((0 : Int) < (j : Int) + 1) = true := decide_eq_true (by omega)
     have e2 : IntKind.i64.wrap ((j : Int) + 1 - 1) = (j : Int) := by rw [show (j : Int) + 1 - 1 = j from by omega]; exact IntWalk.i64_in _ (by omega)
     obtain ⟨hrow, hlen, hsk⟩ := HC.out
     have b1 : j + 1 < cur.length := by omega
     have b2 : j < cur.length := by omega
     obtain ⟨c0, c1⟩ := hrow.cell (List.getElem?_eq_getElem b1)
     obtain ⟨c2, c3⟩ := hrow.cell (List.getElem?_eq_getElem b2)
     have hgl := hrow.lt
     have hsk2 := hsk
     generalize hX : cur[j + 1] = X at *
     generalize hY : cur[j] = Y at *
     have b3 : (j : Int) + 1 < (N : Int) := by omega
     have b4 : (j : Int) < (N : Int) := by omega
     clear hsk2
     have hB := selLess X Y
     cases hL : lessS X Y with
     | false =>
      rw [hL] at hB
      go_wp2_with fail
      refine wp_region_ext_lit (by kernel_rfl) (by kernel_rfl) ?_
      repeat (go_big_quiet_step (exact Calls.ext_of (selCmp_any _ _ _)))
      refine wpQuiet_nil ?_
      intro we hxe
      go_wp2_with fail
      go_roundw
      case rel => exact ⟨k + 1, by omega, by omega, by go_num, Lib.hid (by rw [hT, ← hsk, sink_no lessS (hX ▸ List.getElem?_eq_getElem b1) (hY ▸ List.getElem?_eq_getElem b2) hL]; exact hrow.mod hxe (fun f => f)), hmi.trans hxe (fun _ _ f => f.elim)⟩
      case measure => simp [intOf]; omega
     | true =>
      rw [hL] at hB
      go_wp2_with fail
      refine wp_region_ext_lit (by kernel_rfl) (by kernel_rfl) ?_
      repeat (go_big_quiet_step (exact Calls.ext_of (selCmp_any _ _ _)))
      refine wpQuiet_nil ?_
      intro we hxe
      have hrow2 := hrow.mod hxe (fun f => f)
      have Hl := Lib.hid hL
      have Hs := Lib.hid hsk
      clear c0 c1 c2 c3 hB hL hsk hgl hrow
      obtain ⟨c0, c1⟩ := hrow2.cell (show cur[j + 1]? = some X by rw [← hX]; exact List.getElem?_eq_getElem b1)
      obtain ⟨c2, c3⟩ := hrow2.cell (show cur[j]? = some Y by rw [← hY]; exact List.getElem?_eq_getElem b2)
      have f0 := hrow2.free ((j + 1) * 2)
      have f1 := hrow2.free ((j + 1) * 2 + 1)
      have f2 := hrow2.free (j * 2)
      have f3 := hrow2.free (j * 2 + 1)
      have hgl := hrow2.lt
      go_wp2_with fail
      go_region
      have k1 : cur[j + 1]? = some X := by rw [← hX]; exact List.getElem?_eq_getElem b1
      have k2 : cur[j]? = some Y := by rw [← hY]; exact List.getElem?_eq_getElem b2
      have hrow3 := (hrow2.set (j + 1) b1 Y).set j (by rw [List.length_set]; exact b2) X
      have Hrow3 := Lib.hid hrow3
      clear c0 c1 c2 c3 f0 f1 f2 f3 hrow3 hrow2
      go_wp2_with fail
      go_roundg (j)
      case rel =>
       refine ⟨j, _, rfl, by omega, by go_num, Lib.hid ⟨Hrow3.out.mod ((Mod.refl (fun _ => False) _).drew) (fun f => f), by simp [hlen], ?_⟩, ?_⟩
       ·rw [← Hs.out, sink_yes lessS k1 k2 Hl.out]
       ·exact (((((hmi.trans hxe (fun _ _ f => f.elim)).setCell (p := ⟨g, (j + 1) * 2, none⟩) (fun _ => rfl) _).setCell (p := ⟨g, (j + 1) * 2 + 1, none⟩) (fun _ => rfl) _).setCell (p := ⟨g, j * 2, none⟩) (fun _ => rfl) _).setCell (p := ⟨g, j * 2 + 1, none⟩) (fun _ => rfl) _).drew
      case measure => have := Hjc.out; omega
  ·have hlt' : ¬ (k : Int) < (N : Int) := by omega
   obtain rfl : k = N := by omega
   go_wp2_with fail
   go_end0
   exact ⟨rfl, HR.out, hm⟩
end Go.Proofs.YthlmgoagnfkhdaaGreat
namespace Go.Gim
open Go Go.RowKit
theorem row2_owns {w : World} {B g c n : Nat} {T : TypeId} {l : List (Int × Int)} (h : w.ownsRow B T 2 (.slice (some ⟨g, 0, none⟩) n c) n (prCells l)) : Row2 w g T l := by
 obtain ⟨cur, hb, _, _, _, _, h4⟩ := owns_at h
 refine ⟨cur, hb, fun k x hx => ?_⟩
 obtain ⟨h1, h2⟩ := owns_cell h hx
 exact ⟨by rw [← hb.cell]; exact h1, by rw [← hb.cell]; exact h2⟩
end Go.Gim
namespace Go.Proofs.YthlmgoagnfkhdaaGreat
open Go.RowKit Go.Gim
theorem stableSel_any (g cap : Nat) (l : List (Int × Int)) (w : World) (hr : Row2 w g 47 l) (h0 : 0 < l.length) (hn : l.length ≤ 19) :
  Calls Tryz.prog 121 #[.slice (some ⟨g, 0, none⟩) l.length cap, .int .i64 l.length, .func (.func 87) #[] #[]] w
   fun e w' => e = .returned (.tuple #[]) ∧ Row2 w' g 47 (sorted lessS l) ∧ Mod (· = g) w w' := by
 have hi := insertSel_any g cap l w hr h0 (by omega)
 rw [isort_all] at hi
 have Hi := Lib.hid hi
 have j1 : ¬ (20 : Int) ≤ (l.length : Int) := by omega
 have j2 : ¬ (20 : Int) < (l.length : Int) := by omega
 have j3 : ¬ 20 ≤ l.length := by omega
 have j4 : ¬ 20 < l.length := by omega
 clear hi hr h0 hn
 go_enter Tryz.func121, Tryz.ntmps121
 go_wp2_with fail
 refine wp_loop_rounds 1 ?_
 rw [rounds_succ]
 go_wp2_with fail
 refine Hi.out.mono ?_
 rintro e w1 ⟨rfl, hr, hm⟩
 go_wp2_with fail
 refine wp_loop_rounds 1 ?_
 rw [rounds_succ]
 go_wp2_with fail
 go_end0
 exact ⟨rfl, hr, hm⟩
theorem sortSel_any (g cap : Nat) (l : List (Int × Int)) (w : World) (hr : Row2 w g 47 l) (h0 : 0 < l.length) (hn : l.length ≤ 19) :
  Calls Tryz.prog 86 #[.slice (some ⟨g, 0, none⟩) l.length cap, .func (.func 87) #[] #[]] w
   fun e w' => e = .returned (.tuple #[]) ∧ Row2 w' g 47 (sorted lessS l) ∧ Mod (· = g) w w' := by
 have Hi := Lib.hid (stableSel_any g cap l w hr h0 hn)
 clear hr h0 hn
 go_enter Tryz.func86, Tryz.ntmps86
 go_wp2_with fail
 refine Hi.out.mono ?_
 rintro e w1 ⟨rfl, hr, hm⟩
 go_wp2_with fail
 go_end0
 exact ⟨rfl, hr, hm⟩
def NewRow (T : TypeId) (l : List (Int × Int)) (w : World) (e : Ending) (w' : World) : Prop :=
 ∃ g cap, e = .returned (.slice (some ⟨g, 0, none⟩) l.length cap) ∧ w'.ownsRow w.heap.size T 2 (.slice (some ⟨g, 0, none⟩) l.length cap) l.length (prCells l) ∧ Ext w w'
theorem cloneSel_any (b off cap : Nat) (l : List (Int × Int)) (w : World) (hr : Reads w 2 (some ⟨b, off, none⟩) l.length (prCells l)) (h0 : 0 < l.length) (hn : l.length ≤ 1000000) :
  Calls Tryz.prog 46 #[.slice (some ⟨b, off, none⟩) l.length cap] w (NewRow 47 l w) := by
 have hnil := fun w' => Lib.run_eql_slice_nil (P := Tryz.prog) w' 32 47 (some ⟨b, off, none⟩) l.length cap 0 0 Tryz.underlying32
 have ha : Ext w (w.alloc (.cells #[] 47)) := (Mod.refl _ w).alloc _
 have hr2 := hr.mod ha (fun _ _ f => f)
 obtain ⟨N, hN⟩ : ∃ N, N = l.length := ⟨_, rfl⟩
 unfold NewRow
 rw [← hN] at h0 hn hr2 hnil ⊢
 clear hN hr
 go_enter Tryz.func46, Tryz.ntmps46
 go_wp2_with (at_builtin; refine wpList_append_reads rfl _ _ 32 rfl w.heap.size 47 _ 2 16 Tryz.info47 Tryz.underlying32 rfl (by decide) _ 0 [] rfl (World.ownsRow_lit w #[] 0 (Nat.le_refl _) (by unfold maxLen; omega) rfl) _ N cap (prCells l) rfl hr2 (prCells_one l) (by unfold maxLen; omega) (by omega) (by simp) ?_)
 intro v' w4 hown hm4 hbk
 obtain ⟨g, cx', rfl⟩ := owns_some hown h0
 have hx4 : Ext w w4 := ha.trans hm4 (fun i hi e => by cases e; exact absurd hi (Nat.lt_irrefl _))
 have HO := Lib.hid hown
 clear hm4 hbk hown
 go_wp2_with fail
 go_ret
 exact ⟨g, cx', rfl, HO.out, hx4⟩
theorem touch_any (x y : Int × Int) (w : World) : Calls Tryz.prog 84 #[.agg #[.int .i64 x.1, .int .i64 x.2], .agg #[.int .i64 y.1, .int .i64 y.2]] w fun e w' => e = .returned (.bool (touchB x y)) ∧ Ext w w' := by
 obtain ⟨a, b⟩ := x
 obtain ⟨c, d⟩ := y
 simp only [touchB]
 go_enter Tryz.func84, Tryz.ntmps84
 go_wp2_with fail
 all_goals
  go_ret
  exact ⟨ret_bool (by rw [decide_eq_decide]; omega), ((Mod.refl _ w).alloc _).alloc _⟩
end Go.Proofs.YthlmgoagnfkhdaaGreat

/- change.Sort, slices.Reverse at edits, change.Move: where edits lead an offset. Conditions: fewer than 20 edits, each in a text of at most 65536 bytes, of at most 100000. -/
import Derived.Test.YthlmgoagnfkhdaaGreatGimF14
import Derived.Test.YthlmgoagnfkhdaaGreatGimF04
set_option maxHeartbeats 6400000
set_option maxRecDepth 1000000
set_option linter.unusedVariables false
set_option linter.unusedSimpArgs false
namespace Go.Proofs.YthlmgoagnfkhdaaGreat
open Go.RowKit Go.Gim
theorem revEd_any (g cap : Nat) (l : List Ed) (w : World) (hr : edE.Row w g 59 l) (hn : l.length ≤ 1000000) :
  Calls Tryz.prog 100 #[.slice (some ⟨g, 0, none⟩) l.length cap] w
   fun e w' => e = .returned (.tuple #[]) ∧ edE.Row w' g 59 l.reverse ∧ Mod (· = g) w w' := by
 have H0 := Lib.hid (show edE.Row w g 59 (revTo l 0) from hr)
 have Hall := Lib.hid (fun k h1 h2 => revTo_all l (k := k) h1 h2)
 have Hlen := Lib.hid (revTo_len l)
 have Hst := Lib.hid (fun k x y hx hy => revTo_step (l := l) (k := k) (x := x) (y := y) hx hy)
 generalize l.reverse = L' at *
 generalize hF : revTo l = F at *
 obtain ⟨N, hN⟩ : ∃ N, N = l.length := ⟨_, rfl⟩
 rw [← hN] at hn Hall Hlen Hst ⊢
 clear hr hN hF
 go_enter Tryz.func100, Tryz.ntmps100
 go_wp2_with fail
 go_loopw [2, 3] (fun s2 s3 wr => ∃ k : Nat, 2 * k ≤ N + 1 ∧ s2 = .int .i64 k ∧ s3 = .int .i64 ((N : Int) - 1 - k) ∧ Hid (2 * k ≤ N ∧ edE.Row wr g 59 (F k)) ∧ Mod (· = g) w wr) (fun s2 _ _ => N - (intOf s2).toNat)
 case atStart => exact ⟨0, by omega, rfl, by go_num, Lib.hid ⟨by omega, H0.out⟩, Mod.refl _ _⟩
 case round =>
  clear H0
  obtain ⟨k, hk, rfl, rfl, HK, hm⟩ := hrel
  by_cases hlt : (k : Int) < (N : Int) - 1 - k
  ·have hk0 : (0 : Int) ≤ (k : Int) := by omega
   have hkN : (k : Int) < (N : Int) := by omega
   obtain ⟨m, hmk⟩ : ∃ m : Nat, m = N - 1 - k := ⟨_, rfl⟩
   have hms : (N : Int) - 1 - k = (m : Int) := by omega
   have hm0 : (0 : Int) ≤ (m : Int) := by omega
   have hmN : (m : Int) < (N : Int) := by omega
   have hmk2 : m ≠ k := by omega
   have hlt2 : (k : Int) < (m : Int) := by omega
   have hkx : (F k)[k]? = some ((F k)[k]'(by rw [Hlen.out]; omega)) := List.getElem?_eq_getElem _
   have hmx : (F k)[m]? = some ((F k)[m]'(by rw [Hlen.out]; omega)) := List.getElem?_eq_getElem _
   have hst := Hst.out k _ _ hkx (by rw [← hmk]; exact hmx)
   rw [← hmk] at hst
   obtain ⟨c0, c1, c2⟩ := EdRow_cell HK.out.2 hkx
   obtain ⟨c3, c4, c5⟩ := EdRow_cell HK.out.2 hmx
   have f0 := HK.out.2.free (k * 3)
   have f1 := HK.out.2.free (k * 3 + 1)
   have f2 := HK.out.2.free (k * 3 + 2)
   have f3 := HK.out.2.free (m * 3)
   have f4 := HK.out.2.free (m * 3 + 1)
   have f5 := HK.out.2.free (m * 3 + 2)
   have hgl := HK.out.2.lt
   generalize (F k)[k]'(by rw [Hlen.out]; omega) = X at *
   generalize (F k)[m]'(by rw [Hlen.out]; omega) = Y at *
   have hrow3 := EdRow_put (EdRow_put HK.out.2 hkx Y) (i := m) (x := Y) (by rw [List.getElem?_set_ne (by omega)]; exact hmx) X
   have Hrow3 := Lib.hid hrow3
   have Hst3 := Lib.hid hst
   have Hm := Lib.hid hmk
   have Hms := Lib.hid hms
   rw [hms]
   clear hrow3 hst hkx hmx hmk hms hlt
   go_wp2_with fail
   go_region
   clear c0 c1 c2 c3 c4 c5 f0 f1 f2 f3 f4 f5
   go_wp2_with fail
   go_roundw
   case rel =>
    refine ⟨k + 1, by have := Hm.out; omega, by go_num, by have := Hms.out; go_num, Lib.hid ⟨by have := Hm.out; omega, ?_⟩, ?_⟩
    ·rw [Hst3.out]
     exact Hrow3.out.mod ((Mod.refl (fun _ => False) _).drew) (fun f => f)
    ·exact ((((((hm.setCell (p := ⟨g, k * 3, none⟩) (fun _ => rfl) _).setCell (p := ⟨g, k * 3 + 1, none⟩) (fun _ => rfl) _).setCell (p := ⟨g, k * 3 + 2, none⟩) (fun _ => rfl) _).setCell (p := ⟨g, m * 3, none⟩) (fun _ => rfl) _).setCell (p := ⟨g, m * 3 + 1, none⟩) (fun _ => rfl) _).setCell (p := ⟨g, m * 3 + 2, none⟩) (fun _ => rfl) _).drew
   case measure => simp [intOf]; omega
  ·have hN2 := HK.out.1
   have Hk := Lib.hid (show N ≤ 2 * k + 1 by omega)
   go_wp2_with fail
   go_end0
   exact ⟨rfl, by rw [← Hall.out k HK.out.1 Hk.out]; exact HK.out.2, hm⟩
theorem revEd_none (ao : Option Addr) (cap : Nat) (w : World) : Calls Tryz.prog 100 #[.slice ao 0 cap] w fun e w' => e = .returned (.tuple #[]) ∧ w' = w := by
 go_enter Tryz.func100, Tryz.ntmps100
 go_wp2_with fail
 refine wp_loop_rounds 1 ?_
 rw [rounds_succ]
 go_wp2_with fail
 go_end0
 exact ⟨rfl, rfl⟩
theorem sortC_some (b off cap : Nat) (l : List Ed) (w : World) (hr : Reads w 3 (some ⟨b, off, none⟩) l.length (edE.cells l)) (h0 : 0 < l.length) (hn : l.length ≤ 19) :
  Calls Tryz.prog 48 #[.slice (some ⟨b, off, none⟩) l.length cap] w fun e w' => ∃ g c, e = .returned (.slice (some ⟨g, 0, none⟩) l.length c) ∧ w.heap.size ≤ g ∧ edE.Row w' g 59 (sorted lessE l) ∧ Ext w w' := by
 have Hc := Lib.hid (cloneEd_some b off cap l w hr h0 (by omega))
 have Hs := Lib.hid (fun g c w' (h : edE.Row w' g 59 l) => sortEd_any g c l w' h h0 hn)
 unfold Enc.New at Hc
 generalize sorted lessE l = S at *
 obtain ⟨N, hN⟩ : ∃ N, N = l.length := ⟨_, rfl⟩
 rw [← hN] at h0 hn Hc Hs ⊢
 clear hr hN
 go_enter Tryz.func48, Tryz.ntmps48
 go_wp2_with fail
 refine Hc.out.mono ?_
 rintro e w1 ⟨g, c, rfl, hown, hx1⟩
 have hrow1 := Enc.Row.of_owns (E := edE) hown
 have hg := (Enc.owns_block (E := edE) hown).1
 clear hown
 go_wp2_with fail
 refine (Hs.out g c w1 hrow1).mono ?_
 rintro e w2 ⟨rfl, hrow2, hm2⟩
 have hx2 : Ext w w2 := hx1.trans hm2 (fun i hi e => by omega)
 have Hrow := Lib.hid hrow2
 clear hrow1 hrow2 hm2 hx1 Hc Hs
 go_wp2_with fail
 go_ret
 exact ⟨g, c, rfl, hg, Hrow.out, hx2⟩
theorem sortC_none (cap : Nat) (w : World) : Calls Tryz.prog 48 #[.slice none 0 cap] w fun e w' => e = .returned (.slice none 0 0) ∧ w' = w := by
 go_enter Tryz.func48, Tryz.ntmps48
 go_wp2_with fail
 refine (cloneEd_nil cap w).mono ?_
 rintro e w1 ⟨rfl, rfl⟩
 go_wp2_with fail
 refine (sortEd_none none 0 w1).mono ?_
 rintro e w1 ⟨rfl, rfl⟩
 go_wp2_with fail
 go_ret
 exact ⟨rfl, rfl⟩
theorem spLen_any (x : Int × Int) (w : World) (h1 : -1000000000 ≤ x.2 - x.1) (h2 : x.2 - x.1 ≤ 1000000000) : Calls Tryz.prog 25 #[.agg #[.int .i64 x.1, .int .i64 x.2]] w fun e w' => e = .returned (.int .i64 (x.2 - x.1)) ∧ Ext w w' := by
 go_enter Tryz.func25, Tryz.ntmps25
 go_wp2_with fail
 go_ret
 exact ⟨rfl, (Mod.refl _ w).alloc _⟩
theorem fold_step {α β : Type} (f : β → α → β) (b : β) {l : List α} {k : Nat} {x : α} (hx : l[k]? = some x) : (l.take (k + 1)).foldl f b = f ((l.take k).foldl f b) x := by
 have hk := (List.getElem?_eq_some_iff.1 hx).1
 have he := (List.getElem?_eq_some_iff.1 hx).2
 rw [List.take_succ_eq_append_getElem hk, List.foldl_append, he]; rfl
theorem moveC_some (right : Bool) (o : Int) (b off cap : Nat) (l : List Ed) (w : World) (hr : Reads w 3 (some ⟨b, off, none⟩) l.length (edE.cells l)) (h0 : 0 < l.length) (hn : l.length ≤ 19) (hok : ∀ e ∈ l, EdOk e) (ho0 : 0 ≤ o) (ho1 : o ≤ 1000000000) :
  Calls Tryz.prog 68 #[.int .i64 o, .bool right, .slice (some ⟨b, off, none⟩) l.length cap] w fun e w' => e = .returned (.int .i64 (moveE right l o)) ∧ Ext w w' := by
 have Hs := Lib.hid (sortC_some b off cap l w hr h0 hn)
 have hRok : ∀ e ∈ (sorted lessE l).reverse, EdOk e := fun e he => hok e ((sorted_mem lessE l e).1 (List.mem_reverse.1 he))
 have hRl : (sorted lessE l).reverse.length = l.length := by rw [List.length_reverse, sorted_length]
 have hv := Lib.hid (fun g c w' (h : edE.Row w' g 59 (sorted lessE l)) => revEd_any g c (sorted lessE l) w' h (by rw [sorted_length]; omega))
 rw [sorted_length] at hv
 unfold moveE
 generalize sorted lessE l = S at *
 generalize S.reverse = R at *
 obtain ⟨N, hN⟩ : ∃ N, N = l.length := ⟨_, rfl⟩
 rw [← hN] at h0 hn hRl Hs hv ⊢
 have HRl := Lib.hid hRl
 have HRok := Lib.hid hRok
 clear hr hN hok hRl hRok
 obtain ⟨Z, hZ⟩ : ∃ Z, R.foldl (oneE right) o = Z := ⟨_, rfl⟩
 rw [hZ]
 have HZ := Lib.hid hZ
 clear hZ
 go_enter Tryz.func68, Tryz.ntmps68
 go_wp2_with fail
 refine Hs.out.mono ?_
 rintro e w1 ⟨g, c, rfl, hg, hrow1, hx1⟩
 clear Hs
 go_wp2_with fail
 refine (hv.out g c w1 hrow1).mono ?_
 rintro e w2 ⟨rfl, hrow2, hm2⟩
 have hx2 : Ext w w2 := hx1.trans hm2 (fun i hi e => by omega)
 have Hrow := Lib.hid hrow2
 have Hg := Lib.hid hg
 clear hrow1 hrow2 hm2 hx1 hv hg
 go_wp2_with fail
 go_loopw [0, 16] (fun s0 s16 wr => ∃ (k : Nat) (q : Int), k ≤ N ∧ s0 = .int .i64 q ∧ s16 = .int .i64 k ∧ 0 ≤ q ∧ q ≤ 1000000000 + k * 100000 ∧ Hid (edE.Row wr g 59 R ∧ (R.take k).foldl (oneE right) o = q) ∧ Ext w wr) (fun _ s16 _ => N - (intOf s16).toNat)
 case atStart => exact ⟨0, o, by omega, rfl, rfl, ho0, by omega, Lib.hid ⟨Hrow.out, rfl⟩, hx2⟩
 case round =>
  clear Hrow hx2
  obtain ⟨k, q, hk, rfl, rfl, hq0, hq1, HK, hx⟩ := hrel
  by_cases hlt : k < N
  ·have hlt' : (k : Int) < (N : Int) := by omega
   have hk0 : (0 : Int) ≤ (k : Int) := by omega
   have hkR : R[k]? = some (R[k]'(by rw [HRl.out]; exact hlt)) := List.getElem?_eq_getElem _
   obtain ⟨c0, c1, c2⟩ := EdRow_cell HK.out.1 hkR
   have hgl := HK.out.1.lt
   have hst := fold_step (oneE right) o hkR
   rw [HK.out.2] at hst
   have hxo := HRok.out _ (List.mem_of_getElem? hkR)
   have hbd := oneE_bd (right := right) hxo hq0 hq1 (by omega)
   generalize R[k]'(by rw [HRl.out]; exact hlt) = x at *
   have Hst := Lib.hid hst
   have Hbd := Lib.hid hbd
   obtain ⟨x0, x1, x2, x3⟩ := hxo
   have Hlt := Lib.hid hlt
   clear hst hkR hbd
   unfold oneE at Hbd
   have Hst2 := Lib.hid (show (R.take (k + 1)).foldl (oneE right) o = (if q < x.a then q else if x.b < q then q + ((x.t.size : Int) - (x.b - x.a)) else if right then x.a + x.t.size else x.a) from Hst.out)
   clear Hst
   by_cases h1 : q < x.a
   ·have b1 : decide (q < x.a) = true := decide_eq_true h1
    have H2 := Hst2.out
    have B2 := Hbd.out
    rw [if_pos h1] at H2 B2
    have H3 := Lib.hid H2
    have B3 := Lib.hid B2
    clear H2 B2 Hst2 Hbd
    go_wp2_with fail
    go_roundw
    case rel => exact ⟨k + 1, q, Hlt.out, rfl, by go_num, B3.out.1, by have := B3.out.2; omega, Lib.hid ⟨HK.out.1.alloc _, H3.out⟩, hx.alloc _⟩
    case measure => have := Hlt.out; simp [intOf]; omega
   ·have b1 : decide (q < x.a) = false := decide_eq_false h1
    by_cases h2 : x.b < q
    ·have b2 : decide (x.b < q) = true := decide_eq_true h2
     have H2 := Hst2.out
     have B2 := Hbd.out
     rw [if_neg h1, if_pos h2] at H2 B2
     have H3 := Lib.hid H2
     have B3 := Lib.hid B2
     clear H2 B2 Hst2 Hbd
     have e1 : IntKind.i64.wrap ((x.t.size : Int) - (x.b - x.a)) = (x.t.size : Int) - (x.b - x.a) := IntWalk.i64_in _ (by omega)
     have e2 : IntKind.i64.wrap (q + ((x.t.size : Int) - (x.b - x.a))) = q + ((x.t.size : Int) - (x.b - x.a)) := IntWalk.i64_in _ (by omega)
     have HL := Lib.hid (fun w' => spLen_any (x.a, x.b) w' (by simp only; omega) (by simp only; omega))
     go_wp2_with fail
     obtain ⟨u, hu⟩ : ∃ u, u = wr.alloc (.cells #[.int .i64 x.a, .int .i64 x.b, .string x.t] 59) := ⟨_, rfl⟩
     have hxu : Ext wr u := by rw [hu]; exact (Mod.refl _ wr).alloc _
     have hbu : Blk u wr.heap.size 59 #[.int .i64 x.a, .int .i64 x.b, .string x.t] := by rw [hu]; exact Blk.new _ _ _
     rw [← hu]
     clear c0 c1 c2 hgl hu
     have c0 : u.cell? ⟨wr.heap.size, 0, none⟩ = some (.int .i64 x.a) := hbu.cell 0
     have c1 : u.cell? ⟨wr.heap.size, 1, none⟩ = some (.int .i64 x.b) := hbu.cell 1
     have c2 : u.cell? ⟨wr.heap.size, 2, none⟩ = some (.string x.t) := hbu.cell 2
     have hgl := hbu.lt
     refine wp_region_ext_lit (by kernel_rfl) (by kernel_rfl) ?_
     repeat (go_big_quiet_step (exact Calls.ext_of (HL.out _)))
     refine wpQuiet_nil ?_
     intro we hxe
     have hxe2 := hxu.ext_trans hxe
     clear c0 c1 c2 hgl hbu e1 e2
     go_wp2_with fail
     go_roundw
     case rel => exact ⟨k + 1, _, Hlt.out, rfl, by go_num, B3.out.1, by have := B3.out.2; omega, Lib.hid ⟨HK.out.1.mod hxe2 (fun f => f), H3.out⟩, hx.ext_trans hxe2⟩
     case measure => have := Hlt.out; simp [intOf]; omega
    ·have b2 : decide (x.b < q) = false := decide_eq_false h2
     have H2 := Hst2.out
     have B2 := Hbd.out
     rw [if_neg h1, if_neg h2] at H2 B2
     have e1 : IntKind.i64.wrap (x.a + (x.t.size : Int)) = x.a + (x.t.size : Int) := IntWalk.i64_in _ (by omega)
     cases right with
     | true =>
      have H3 := Lib.hid (show (R.take (k + 1)).foldl (oneE true) o = x.a + x.t.size from H2)
      have B3 := Lib.hid (show 0 ≤ x.a + (x.t.size : Int) ∧ x.a + (x.t.size : Int) ≤ 1000000000 + k * 100000 + 100000 from B2)
      clear H2 B2 Hst2 Hbd e1
      go_wp2_with fail
      go_roundw
      case rel => exact ⟨k + 1, _, Hlt.out, rfl, by go_num, B3.out.1, by have := B3.out.2; omega, Lib.hid ⟨HK.out.1.alloc _, H3.out⟩, hx.alloc _⟩
      case measure => have := Hlt.out; simp [intOf]; omega
     | false =>
      have H3 := Lib.hid (show (R.take (k + 1)).foldl (oneE false) o = x.a from H2)
      have B3 := Lib.hid (show 0 ≤ x.a ∧ x.a ≤ 1000000000 + (k : Int) * 100000 + 100000 from B2)
      clear H2 B2 Hst2 Hbd e1
      go_wp2_with fail
      go_roundw
      case rel => exact ⟨k + 1, _, Hlt.out, rfl, by go_num, B3.out.1, by have := B3.out.2; omega, Lib.hid ⟨HK.out.1.alloc _, H3.out⟩, hx.alloc _⟩
      case measure => have := Hlt.out; simp [intOf]; omega
  ·have hlt' : ¬ (k : Int) < (N : Int) := by omega
   obtain rfl : k = N := by omega
   have hZ := HK.out.2
   rw [List.take_of_length_le (by rw [HRl.out]; exact Nat.le_refl _), HZ.out] at hZ
   subst hZ
   go_wp2_with fail
   go_ret
   exact ⟨rfl, hx⟩
theorem moveC_none (right : Bool) (o : Int) (cap : Nat) (w : World) : Calls Tryz.prog 68 #[.int .i64 o, .bool right, .slice none 0 cap] w fun e w' => e = .returned (.int .i64 o) ∧ Ext w w' := by
 go_enter Tryz.func68, Tryz.ntmps68
 go_wp2_with fail
 refine (sortC_none cap w).mono ?_
 rintro e w1 ⟨rfl, rfl⟩
 go_wp2_with fail
 refine (revEd_none none 0 w1).mono ?_
 rintro e w1 ⟨rfl, rfl⟩
 go_wp2_with fail
 refine wp_loop_rounds 1 ?_
 rw [rounds_succ]
 go_wp2_with fail
 go_ret
 exact ⟨rfl, Mod.refl _ _⟩
end Go.Proofs.YthlmgoagnfkhdaaGreat
namespace Go.Gim
open Go.RowKit
theorem reads_mod0 {S : Nat → Prop} {w w' : World} {size n : Nat} {ao : Option Addr} {xs : List Value} (h : Reads w size ao n xs) (hm : Mod S w w') (hS : 0 < n → ∀ a, ao = some a → ¬ S a.block) : Reads w' size ao n xs := by
 by_cases h0 : 0 < n
 ·exact h.mod hm (hS h0)
 ·exact ⟨h.1, fun h1 => absurd h1 h0⟩
end Go.Gim
namespace Go.Proofs.YthlmgoagnfkhdaaGreat
open Go.RowKit Go.Gim
theorem cloneEd_empty (a : Addr) (cap : Nat) (w : World) :
  Calls Tryz.prog 72 #[.slice (some a) 0 cap] w fun e w' => ∃ ao c, e = .returned (.slice ao 0 c) ∧ Ext w w' := by
 have hnil := fun w' => Lib.run_eql_slice_nil (P := Tryz.prog) w' 35 59 (some a) 0 cap 0 0 Tryz.underlying35
 have ha : Ext w (w.alloc (.cells #[] 59)) := (Mod.refl _ w).alloc _
 have hr2 : Reads (w.alloc (.cells #[] 59)) 3 (some a) 0 (edE.cells []) := Enc.reads_none (E := edE)
 go_enter Tryz.func72, Tryz.ntmps72
 go_wp2_with (at_builtin; refine wpList_append_reads rfl _ _ 35 rfl w.heap.size 59 _ 3 32 Tryz.info59 Tryz.underlying35 rfl (by decide) _ 0 [] rfl (World.ownsRow_lit w #[] 0 (Nat.le_refl _) (by unfold maxLen; omega) rfl) _ 0 cap (edE.cells []) rfl hr2 (edE.cells_one []) (by unfold maxLen; omega) (by omega) (by simp) ?_)
 intro v' w4 hown hm4 hbk
 obtain ⟨ao, c, rfl, _⟩ := ownsRow_shape hown
 have hx4 : Ext w w4 := ha.trans hm4 (fun i hi e => by cases e; exact absurd hi (Nat.lt_irrefl _))
 clear hm4 hbk hown
 go_wp2_with fail
 go_ret
 exact ⟨ao, c, rfl, hx4⟩
theorem sortC_empty (a : Addr) (cap : Nat) (w : World) : Calls Tryz.prog 48 #[.slice (some a) 0 cap] w fun e w' => ∃ ao c, e = .returned (.slice ao 0 c) ∧ Ext w w' := by
 go_enter Tryz.func48, Tryz.ntmps48
 go_wp2_with fail
 refine (cloneEd_empty a cap w).mono ?_
 rintro e w1 ⟨ao, c, rfl, hx⟩
 go_wp2_with fail
 refine (sortEd_none ao c w1).mono ?_
 rintro e w1 ⟨rfl, rfl⟩
 go_wp2_with fail
 go_ret
 exact ⟨ao, c, rfl, hx⟩
theorem moveC_empty (right : Bool) (o : Int) (a : Addr) (cap : Nat) (w : World) : Calls Tryz.prog 68 #[.int .i64 o, .bool right, .slice (some a) 0 cap] w fun e w' => e = .returned (.int .i64 o) ∧ Ext w w' := by
 go_enter Tryz.func68, Tryz.ntmps68
 go_wp2_with fail
 refine (sortC_empty a cap w).mono ?_
 rintro e w1 ⟨ao, c, rfl, hx⟩
 go_wp2_with fail
 refine (revEd_none ao c w1).mono ?_
 rintro e w1 ⟨rfl, rfl⟩
 go_wp2_with fail
 refine wp_loop_rounds 1 ?_
 rw [rounds_succ]
 go_wp2_with fail
 go_ret
 exact ⟨rfl, hx⟩
theorem moveC_all (right : Bool) (o : Int) (ao : Option Addr) (cap : Nat) (l : List Ed) (w : World) (hr : Reads w 3 ao l.length (edE.cells l)) (hn : l.length ≤ 19) (hok : ∀ e ∈ l, EdOk e) (ho0 : 0 ≤ o) (ho1 : o ≤ 1000000000) :
  Calls Tryz.prog 68 #[.int .i64 o, .bool right, .slice ao l.length cap] w fun e w' => e = .returned (.int .i64 (moveE right l o)) ∧ Ext w w' := by
 cases l with
 | nil =>
  cases ao with
  | none => exact moveC_none right o cap w
  | some a => exact moveC_empty right o a cap w
 | cons x r =>
  obtain ⟨b, off, rfl⟩ := hr.some (by simp)
  exact moveC_some right o b off cap (x :: r) w hr (by simp) hn hok ho0 ho1
end Go.Proofs.YthlmgoagnfkhdaaGreat
namespace Go.Gim
def unS (out : List (Int × Int)) (x : Int × Int) : List (Int × Int) :=
 match out.getLast? with
 | some y => if touchB y x then out.dropLast ++ [(y.1, max y.2 x.2)] else out ++ [x]
 | none => out ++ [x]
def unionS (l : List (Int × Int)) : List (Int × Int) := l.foldl unS []
def unionL (l : List (Int × Int)) : List (Int × Int) := unionS (sorted lessB l)
theorem unS_no {out : List (Int × Int)} {y x : Int × Int} (hy : out.getLast? = some y) (h : touchB y x = false) : unS out x = out ++ [x] := by
 unfold unS; rw [hy]; simp only [h]; rfl
theorem unS_yes {out : List (Int × Int)} {y x : Int × Int} (hy : out.getLast? = some y) (h : touchB y x = true) : unS out x = out.set (out.length - 1) (y.1, max y.2 x.2) := by
 unfold unS; rw [hy]; simp only [h, if_true]
 obtain ⟨l, rfl⟩ := List.getLast?_eq_some_iff.1 hy
 rw [List.dropLast_concat, List.length_append, List.length_singleton, Nat.add_sub_cancel, List.set_append_right _ _ (Nat.le_refl _), Nat.sub_self]; rfl
theorem unS_len (out : List (Int × Int)) (x : Int × Int) : (unS out x).length ≤ out.length + 1 := by
 unfold unS
 split
 ·split
  ·simp
  ·simp
 ·simp
theorem unionS_step {l : List (Int × Int)} {k : Nat} {x : Int × Int} (h : l[k]? = some x) : unionS (l.take (k + 1)) = unS (unionS (l.take k)) x := by
 obtain ⟨hk, rfl⟩ := List.getElem?_eq_some_iff.1 h
 unfold unionS
 rw [List.take_succ_eq_append_getElem hk, List.foldl_append]; rfl
theorem unionS_len (l : List (Int × Int)) : (unionS l).length ≤ l.length := by
 have : ∀ (l out : List (Int × Int)), (l.foldl unS out).length ≤ out.length + l.length := by
  intro l
  induction l with
  | nil => intro out; simp
  | cons x r ih => intro out; rw [List.foldl_cons]; have := ih (unS out x); have := unS_len out x; simp only [List.length_cons]; omega
 have := this l []
 simpa [unionS] using this
theorem unionL_len (l : List (Int × Int)) : (unionL l).length ≤ l.length := by
 have := unionS_len (sorted lessB l); rw [sorted_length] at this; exact this
def mergeU : Int × Int → List (Int × Int) → List (Int × Int)
 | c, [] => [c]
 | c, x :: r => if touchB c x then mergeU (c.1, max c.2 x.2) r else c :: mergeU x r
def mergeU0 : List (Int × Int) → List (Int × Int)
 | [] => []
 | x :: r => mergeU x r
theorem unS_last (P : List (Int × Int)) (c x : Int × Int) : unS (P ++ [c]) x = if touchB c x then P ++ [(c.1, max c.2 x.2)] else (P ++ [c]) ++ [x] := by
 unfold unS
 rw [List.getLast?_concat]
 simp only [List.dropLast_concat]
theorem unionS_merge : ∀ (l : List (Int × Int)) (P : List (Int × Int)) (c : Int × Int), l.foldl unS (P ++ [c]) = P ++ mergeU c l := by
 intro l
 induction l with
 | nil => intro P c; rfl
 | cons x r ih =>
  intro P c
  rw [List.foldl_cons, unS_last, mergeU.eq_2]
  split
  ·exact ih P _
  ·rw [ih (P ++ [c]) x, List.append_assoc]; rfl
theorem unionS_is (l : List (Int × Int)) : unionS l = mergeU0 l := by
 cases l with
 | nil => rfl
 | cons x r => exact unionS_merge r [] x
def fullB (x : Int × Int) : Bool := decide (x.1 < x.2)
def RiseB (l : List (Int × Int)) : Prop := l.Pairwise leB ∧ ∀ x ∈ l, x.1 ≤ x.2
theorem touchB_is {c x : Int × Int} (h1 : c.1 ≤ x.1) (h2 : c.1 ≤ c.2) (h3 : x.1 ≤ x.2) : touchB c x = decide (x.1 ≤ c.2) := by
 unfold touchB
 rw [decide_eq_decide]
 omega
theorem RiseB.cons {x : Int × Int} {r : List (Int × Int)} (h : RiseB (x :: r)) : x.1 ≤ x.2 ∧ (∀ y ∈ r, x.1 ≤ y.1) ∧ RiseB r := by
 obtain ⟨h1, h2⟩ := h
 rw [List.pairwise_cons] at h1
 exact ⟨h2 x (by simp), fun y hy => by have := h1.1 y hy; unfold leB at this; omega, h1.2, fun y hy => h2 y (by simp [hy])⟩
theorem merge_far {c : Int × Int} {l : List (Int × Int)} (hc : c.1 ≤ c.2) (hl : ∀ x ∈ l, c.2 < x.1 ∧ x.1 ≤ x.2) : mergeU c l = c :: mergeU0 l := by
 cases l with
 | nil => rfl
 | cons x r =>
  have := hl x (by simp)
  rw [mergeU.eq_2, touchB_is (by omega) hc this.2, if_neg (by simp; omega)]
  rfl
theorem insR_perms {α : Type} (less : α → α → Bool) (out : List α) (x : α) : (insR less out x).Perm (x :: out) := by
 unfold insR
 refine List.perm_middle.trans (List.Perm.cons x ?_)
 rw [List.take_append_drop]
theorem sorted_perm {α : Type} (less : α → α → Bool) (l : List α) : (sorted less l).Perm l := by
 have : ∀ (l out : List α), (l.foldl (insR less) out).Perm (out ++ l) := by
  intro l
  induction l with
  | nil => intro out; rw [List.append_nil]; exact List.Perm.refl _
  | cons x r ih =>
   intro out
   rw [List.foldl_cons]
   refine (ih _).trans ?_
   refine (List.Perm.append_right r (insR_perms less out x)).trans ?_
   exact (List.perm_middle (l₁ := out)).symm
 exact this l []
theorem leB_anti {x y : Int × Int} (h : leB x y) (k : leB y x) : x = y := by
 unfold leB at *
 exact Prod.ext (by omega) (by omega)
theorem rise_eq : ∀ {a b : List (Int × Int)}, a.Perm b → a.Pairwise leB → b.Pairwise leB → a = b := by
 intro a
 induction a with
 | nil => intro b h _ _; exact (List.nil_perm.1 h).symm
 | cons x r ih =>
  intro b h ha hb
  cases b with
  | nil => exact absurd h.symm (by simp)
  | cons y s =>
   rw [List.pairwise_cons] at ha hb
   have hx : x ∈ y :: s := h.mem_iff.1 (by simp)
   have hy : y ∈ x :: r := h.mem_iff.2 (by simp)
   have e : x = y := by
    rcases List.mem_cons.1 hx with e | hx
    ·exact e
    ·rcases List.mem_cons.1 hy with e | hy
     ·exact e.symm
     ·exact leB_anti (ha.1 y hy) (hb.1 x hx)
   subst e
   rw [ih (List.Perm.cons_inv h) ha.2 hb.2]
theorem mergeU_asc : ∀ (l : List (Int × Int)) (c : Int × Int), RiseB l → c.1 ≤ c.2 → (∀ x ∈ l, c.1 ≤ x.1) → (mergeU c l).Pairwise (fun x y => x.2 < y.1) ∧ (∀ x ∈ mergeU c l, c.1 ≤ x.1 ∧ x.1 ≤ x.2) := by
 intro l
 induction l with
 | nil => intro c _ hc _; exact ⟨List.pairwise_singleton _ _, fun x hx => by rw [List.mem_singleton.1 hx]; omega⟩
 | cons x r ih =>
  intro c hr hc hcx
  obtain ⟨x1, x2, x3⟩ := hr.cons
  have hx := hcx x (by simp)
  rw [mergeU.eq_2, touchB_is hx hc x1]
  by_cases h1 : x.1 ≤ c.2
  ·rw [decide_eq_true h1, if_pos rfl]
   exact ih (c.1, max c.2 x.2) x3 (by simp only; omega) (fun y hy => by have := x2 y hy; simp only; omega)
  ·rw [decide_eq_false h1, if_neg (by simp)]
   obtain ⟨i1, i2⟩ := ih x x3 x1 x2
   refine ⟨List.pairwise_cons.2 ⟨fun y hy => by have := i2 y hy; omega, i1⟩, fun y hy => ?_⟩
   rcases List.mem_cons.1 hy with rfl | hy
   ·omega
   ·have := i2 y hy; omega
theorem unionL_asc {l : List (Int × Int)} (h : ∀ x ∈ l, x.1 ≤ x.2) : (unionL l).Pairwise (fun x y => x.2 < y.1) ∧ ∀ x ∈ unionL l, x.1 ≤ x.2 := by
 unfold unionL
 have hr : RiseB (sorted lessB l) := ⟨sortedB_rises l, fun x hx => h x ((sorted_mem lessB l x).1 hx)⟩
 rw [unionS_is]
 generalize sorted lessB l = s at *
 cases s with
 | nil => exact ⟨List.Pairwise.nil, fun x hx => by cases hx⟩
 | cons x r =>
  obtain ⟨x1, x2, x3⟩ := hr.cons
  obtain ⟨i1, i2⟩ := mergeU_asc r x x3 x1 x2
  exact ⟨i1, fun y hy => (i2 y hy).2⟩
theorem mergeU_in : ∀ (l : List (Int × Int)) (c : Int × Int), RiseB l → c.1 ≤ c.2 → (∀ x ∈ l, c.1 ≤ x.1) → ∀ x ∈ c :: l, ∃ y ∈ mergeU c l, y.1 ≤ x.1 ∧ x.2 ≤ y.2 := by
 intro l
 induction l with
 | nil => intro c _ hc _ x hx; rw [List.mem_singleton.1 hx]; exact ⟨c, by simp [mergeU], by omega, by omega⟩
 | cons x r ih =>
  intro c hr hc hcx z hz
  obtain ⟨x1, x2, x3⟩ := hr.cons
  have hx := hcx x (by simp)
  rw [mergeU.eq_2, touchB_is hx hc x1]
  by_cases h1 : x.1 ≤ c.2
  ·rw [decide_eq_true h1, if_pos rfl]
   have ih := ih (c.1, max c.2 x.2) x3 (by simp only; omega) (fun y hy => by have := x2 y hy; simp only; omega)
   rcases List.mem_cons.1 hz with rfl | hz
   ·obtain ⟨y, h2, h3, h4⟩ := ih _ (List.mem_cons_self ..)
    simp only at h3 h4
    exact ⟨y, h2, by omega, by omega⟩
   ·rcases List.mem_cons.1 hz with rfl | hz
    ·obtain ⟨y, h2, h3, h4⟩ := ih _ (List.mem_cons_self ..)
     simp only at h3 h4
     exact ⟨y, h2, by omega, by omega⟩
    ·exact ih z (by simp [hz])
  ·rw [decide_eq_false h1, if_neg (by simp)]
   rcases List.mem_cons.1 hz with rfl | hz
   ·exact ⟨z, by simp, by omega, by omega⟩
   ·obtain ⟨y, h2, h3⟩ := ih x x3 x1 x2 z hz
    exact ⟨y, by simp [h2], h3⟩
theorem unionL_in {l : List (Int × Int)} (h : ∀ x ∈ l, x.1 ≤ x.2) : ∀ x ∈ l, ∃ y ∈ unionL l, y.1 ≤ x.1 ∧ x.2 ≤ y.2 := by
 intro x hx
 have hx := (sorted_mem lessB l x).2 hx
 unfold unionL
 have hr : RiseB (sorted lessB l) := ⟨sortedB_rises l, fun x hx => h x ((sorted_mem lessB l x).1 hx)⟩
 rw [unionS_is]
 generalize sorted lessB l = s at *
 cases s with
 | nil => cases hx
 | cons z r =>
  obtain ⟨x1, x2, x3⟩ := hr.cons
  exact mergeU_in r z x3 x1 x2 x hx
theorem unS_all (p : Int × Int → Prop) (hp : ∀ a b, p a → p b → p (a.1, max a.2 b.2)) {out : List (Int × Int)} {x : Int × Int} (ho : ∀ y ∈ out, p y) (hx : p x) : ∀ y ∈ unS out x, p y := by
 unfold unS
 split
 ·rename_i y hy
  obtain ⟨l, rfl⟩ := List.getLast?_eq_some_iff.1 hy
  split
  ·intro z hz
   rw [List.dropLast_concat] at hz
   rcases List.mem_append.1 hz with h | h
   ·exact ho z (List.mem_append_left _ h)
   ·rw [List.mem_singleton.1 h]; exact hp _ _ (ho y (by simp)) hx
  ·intro z hz
   rcases List.mem_append.1 hz with h | h
   ·exact ho z h
   ·rw [List.mem_singleton.1 h]; exact hx
 ·intro z hz
  rcases List.mem_append.1 hz with h | h
  ·exact ho z h
  ·rw [List.mem_singleton.1 h]; exact hx
theorem unionL_all (p : Int × Int → Prop) (hp : ∀ a b, p a → p b → p (a.1, max a.2 b.2)) {l : List (Int × Int)} (h : ∀ x ∈ l, p x) : ∀ x ∈ unionL l, p x := by
 have : ∀ (l out : List (Int × Int)), (∀ x ∈ out, p x) → (∀ x ∈ l, p x) → ∀ x ∈ l.foldl unS out, p x := by
  intro l
  induction l with
  | nil => intro out ho _; exact ho
  | cons y r ih =>
   intro out ho hl
   rw [List.foldl_cons]
   exact ih _ (unS_all p hp ho (hl y (by simp))) (fun x hx => hl x (by simp [hx]))
 exact this _ [] (by simp) (fun x hx => h x ((sorted_mem lessB l x).1 hx))
end Go.Gim

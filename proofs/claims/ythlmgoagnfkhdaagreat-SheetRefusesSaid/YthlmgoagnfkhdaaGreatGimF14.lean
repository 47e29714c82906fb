/- Sorting edits: what is compared, the library's insertion, the stable sort, Clone. Conditions: fewer than 20 elements. -/
import Derived.Test.YthlmgoagnfkhdaaGreatGimF10
import Derived.Test.YthlmgoagnfkhdaaGreatGimF07
import Derived.Test.YthlmgoagnfkhdaaGreatGimF03
import Derived.Test.YthlmgoagnfkhdaaGreatGimF04
import Derived.Deep.DeepCutAuto
set_option maxHeartbeats 6400000
set_option maxRecDepth 1000000
set_option linter.unusedVariables false
set_option linter.unusedSimpArgs false
namespace Go.Gim
open Go Go.RowKit
theorem EdRow_put {w : World} {g : Nat} {T : TypeId} {l : List Ed} (h : edE.Row w g T l) {i : Nat} {x : Ed} (hx : l[i]? = some x) (y : Ed) : edE.Row (((w.setCell ⟨g, i * 3, none⟩ (.int .i64 y.a)).setCell ⟨g, i * 3 + 1, none⟩ (.int .i64 y.b)).setCell ⟨g, i * 3 + 2, none⟩ (.string y.t)) g T (l.set i y) := by
 have hi := (List.getElem?_eq_some_iff.1 hx).1
 have h0 := Enc.Row.set (E := edE) h hx (j := 0) (by decide) (v := .int .i64 y.a) ⟨y.a, x.b, x.t⟩ rfl
 have h1 := Enc.Row.set2 (E := edE) h0 hi (j := 1) (by decide) (v := .int .i64 y.b) (y := ⟨y.a, y.b, x.t⟩) rfl
 have h2 := Enc.Row.set2 (E := edE) h1 hi (j := 2) (by decide) (v := .string y.t) (y := ⟨y.a, y.b, y.t⟩) rfl
 exact h2
theorem EdRow_cell {w : World} {g : Nat} {T : TypeId} {l : List Ed} (h : edE.Row w g T l) {i : Nat} {x : Ed} (hx : l[i]? = some x) : w.cell? ⟨g, i * 3, none⟩ = some (.int .i64 x.a) ∧ w.cell? ⟨g, i * 3 + 1, none⟩ = some (.int .i64 x.b) ∧ w.cell? ⟨g, i * 3 + 2, none⟩ = some (.string x.t) :=
 ⟨Enc.Row.cell (E := edE) (j := 0) h hx rfl, Enc.Row.cell (E := edE) (j := 1) h hx rfl, Enc.Row.cell (E := edE) (j := 2) h hx rfl⟩
end Go.Gim
namespace Go.Proofs.YthlmgoagnfkhdaaGreat
open Go.RowKit Go.Gim
theorem Tryz.info59 : (Tryz.prog.info? 59).map (fun i => (i.zero, i.size, i.bytes)) = some (some (.agg #[.int .i64 0, .int .i64 0, .string ByteArray.empty]), 3, 32) := by kernel_rfl
def cmpE (x y : Ed) : Int := cmpB (x.a, x.b) (y.a, y.b)
theorem lessEd_is (x y : Ed) : decide (cmpE x y < 0) = lessE x y := cmpB_less _ _
theorem cmpEd_any (x y : Ed) (w : World) : Calls Tryz.prog 74 #[.agg #[.int .i64 x.a, .int .i64 x.b, .string x.t], .agg #[.int .i64 y.a, .int .i64 y.b, .string y.t]] w fun e w' => e = .returned (.int .i64 (cmpE x y)) ∧ Ext w w' := by
 go_enter Tryz.func74, Tryz.ntmps74
 go_wp2_with fail
 obtain ⟨wa, hwa⟩ : ∃ wa, wa = (w.alloc (.cells #[.int .i64 x.a, .int .i64 x.b, .string x.t] 59)).alloc (.cells #[.int .i64 y.a, .int .i64 y.b, .string y.t] 59) := ⟨_, rfl⟩
 have hxa : Ext w wa := by rw [hwa]; exact ((Mod.refl _ w).alloc _).alloc _
 have hb2 : Blk wa w.heap.size 59 #[.int .i64 x.a, .int .i64 x.b, .string x.t] := by rw [hwa]; exact (Blk.new _ _ _).alloc _
 have hb3 : Blk wa (w.heap.size + 1) 59 #[.int .i64 y.a, .int .i64 y.b, .string y.t] := by
  rw [hwa]; have := Blk.new (w.alloc (.cells #[.int .i64 x.a, .int .i64 x.b, .string x.t] 59)) 59 #[.int .i64 y.a, .int .i64 y.b, .string y.t]; simpa using this
 rw [← hwa]
 clear hwa
 have c0 : wa.cell? ⟨w.heap.size, 0, none⟩ = some (.int .i64 x.a) := hb2.cell 0
 have c1 : wa.cell? ⟨w.heap.size, 1, none⟩ = some (.int .i64 x.b) := hb2.cell 1
 have c2 : wa.cell? ⟨w.heap.size + 1, 0, none⟩ = some (.int .i64 y.a) := hb3.cell 0
 have c3 : wa.cell? ⟨w.heap.size + 1, 1, none⟩ = some (.int .i64 y.b) := hb3.cell 1
 have l2 := hb2.lt
 have l3 := hb3.lt
 refine wp_region_ext_tail 14 (by kernel_rfl) (by kernel_rfl) ?_
 simp only [List.take_succ_cons, List.take_zero, List.drop_succ_cons, List.drop_zero]
 repeat (go_big_quiet_step (exact Calls.ext_of_same (compare_any _ _ _)))
 refine wpQuiet_nil ?_
 intro we hxe
 go_wp2_with fail
 have hb := Blk.new we 3 #[.int .i64 (cmpI x.a y.a), .int .i64 (cmpI x.b y.b)]
 refine (or_two _ _ we.heap.size _ (hb.cell 0) (hb.cell 1)).mono ?_
 rintro e w' ⟨rfl, rfl⟩
 clear hb
 go_wp2_with fail
 go_ret
 exact ⟨rfl, (hxa.ext_trans hxe).alloc _⟩
theorem insertEd_any (g cap : Nat) (l : List Ed) (w : World) (hr : edE.Row w g 59 l) (h0 : 0 < l.length) (hn : l.length ≤ 1000) :
  Calls Tryz.prog 144 #[.slice (some ⟨g, 0, none⟩) l.length cap, .int .i64 0, .int .i64 l.length, .func (.func 74) #[] #[]] w
   fun e w' => e = .returned (.tuple #[]) ∧ edE.Row w' g 59 (isort lessE l l.length) ∧ Mod (· = g) w w' := by
 have H1 := Lib.hid (show edE.Row w g 59 (isort lessE l 1) from hr)
 obtain ⟨N, hN⟩ : ∃ N, N = l.length := ⟨_, rfl⟩
 rw [← hN] at h0 hn ⊢
 have HN := Lib.hid hN
 clear hr hN
 go_enter Tryz.func144, Tryz.ntmps144
 go_wp2_with fail
 go_loopw [8] (fun s8 wr => ∃ k : Nat, 1 ≤ k ∧ k ≤ N ∧ s8 = .int .i64 k ∧ Hid (edE.Row wr g 59 (isort lessE l k)) ∧ Mod (· = g) w wr) (fun s8 _ => N - (intOf s8).toNat)
 case atStart => exact ⟨1, by omega, by omega, rfl, H1, Mod.refl _ _⟩
 case round =>
  obtain ⟨k, hk1, hk, rfl, HR, hm⟩ := hrel
  by_cases hlt : k < N
  ·have hlt' : (k : Int) < (N : Int) := by omega
   obtain ⟨T, hT⟩ : ∃ T, isort lessE l (k + 1) = T := ⟨_, rfl⟩
   have HT := Lib.hid (show sink lessE (isort lessE l k) k = T from hT)
   have HL := Lib.hid (show (isort lessE l k).length = N by rw [isort_length]; exact HN.out.symm)
   go_wp2_with fail
   go_loopg [9] k (fun c s9 wi => ∃ (j : Nat) (cur : List Ed), j = c ∧ j ≤ k ∧ s9 = .int .i64 j ∧ Hid (edE.Row wi g 59 cur ∧ cur.length = N ∧ sink lessE cur j = T) ∧ Mod (· = g) w wi)
   case atStart => exact ⟨k, _, rfl, Nat.le_refl _, rfl, Lib.hid ⟨HR.out, HL.out, HT.out⟩, hm⟩
   case round =>
    obtain ⟨j, cur, hjc, hj, rfl, HC, hmi⟩ := hrel
    have Hjc := Lib.hid hjc
    clear hjc
    clear HR HT HL hm
    cases j with
    | zero =>
     have e1 : decide ((0 : Int) < 0) = false := rfl
     go_wp2_with fail
     go_quiet (fail)
     go_wp2_with fail
     go_roundw
     case rel => exact ⟨k + 1, by omega, by omega, by go_num, Lib.hid (by rw [hT, ← HC.out.2.2]; exact HC.out.1.mod ((Mod.refl (fun _ => False) _).drewN _) (fun f => f)), hmi.drewN _⟩
     case measure => simp [intOf]; omega
    | succ j =>
     have hj1 : (0 : Int) ≤ (j : Int) := by omega
     have e1 : decide ((0 : Int) < (j : Int) + 1) = true := decide_eq_true (by omega)
     have e2 : IntKind.i64.wrap ((j : Int) + 1 - 1) = (j : Int) := by rw [show (j : Int) + 1 - 1 = j from by omega]; exact IntWalk.i64_in _ (by omega)
     obtain ⟨hrow, hlen, hsk⟩ := HC.out
     have b1 : j + 1 < cur.length := by omega
     have b2 : j < cur.length := by omega
     obtain ⟨c0, c1, c2⟩ := EdRow_cell hrow (List.getElem?_eq_getElem b1)
     obtain ⟨c3, c4, c5⟩ := EdRow_cell hrow (List.getElem?_eq_getElem b2)
     have hgl := hrow.lt
     have hsk2 := hsk
     generalize hX : cur[j + 1] = X at *
     generalize hY : cur[j] = Y at *
     have b3 : (j : Int) + 1 < (N : Int) := by omega
     have b4 : (j : Int) < (N : Int) := by omega
     clear hsk2
     have hB := lessEd_is X Y
     cases hL : lessE X Y with
     | false =>
      rw [hL] at hB
      go_wp2_with fail
      refine wp_region_ext_lit (by kernel_rfl) (by kernel_rfl) ?_
      repeat (go_big_quiet_step (exact Calls.ext_of (cmpEd_any _ _ _)))
      refine wpQuiet_nil ?_
      intro we hxe
      go_wp2_with fail
      go_roundw
      case rel => exact ⟨k + 1, by omega, by omega, by go_num, Lib.hid (by rw [hT, ← hsk, sink_no lessE (hX ▸ List.getElem?_eq_getElem b1) (hY ▸ List.getElem?_eq_getElem b2) hL]; exact hrow.mod hxe (fun f => f)), hmi.trans hxe (fun _ _ f => f.elim)⟩
      case measure => simp [intOf]; omega
     | true =>
      rw [hL] at hB
      go_wp2_with fail
      refine wp_region_ext_lit (by kernel_rfl) (by kernel_rfl) ?_
      repeat (go_big_quiet_step (exact Calls.ext_of (cmpEd_any _ _ _)))
      refine wpQuiet_nil ?_
      intro we hxe
      have hrow2 := hrow.mod hxe (fun f => f)
      have Hl := Lib.hid hL
      have Hs := Lib.hid hsk
      clear c0 c1 c2 c3 c4 c5 hB hL hsk hgl hrow
      obtain ⟨c0, c1, c2⟩ := EdRow_cell hrow2 (show cur[j + 1]? = some X by rw [← hX]; exact List.getElem?_eq_getElem b1)
      obtain ⟨c3, c4, c5⟩ := EdRow_cell hrow2 (show cur[j]? = some Y by rw [← hY]; exact List.getElem?_eq_getElem b2)
      have f0 := hrow2.free ((j + 1) * 3)
      have f1 := hrow2.free ((j + 1) * 3 + 1)
      have f2 := hrow2.free ((j + 1) * 3 + 2)
      have f3 := hrow2.free (j * 3)
      have f4 := hrow2.free (j * 3 + 1)
      have f5 := hrow2.free (j * 3 + 2)
      have hgl := hrow2.lt
      go_wp2_with fail
      go_region
      have k1 : cur[j + 1]? = some X := by rw [← hX]; exact List.getElem?_eq_getElem b1
      have k2 : cur[j]? = some Y := by rw [← hY]; exact List.getElem?_eq_getElem b2
      have hrow3 := EdRow_put (EdRow_put hrow2 k1 Y) (i := j) (x := Y) (by rw [List.getElem?_set_ne (by omega)]; exact k2) X
      have Hrow3 := Lib.hid hrow3
      clear c0 c1 c2 c3 c4 c5 f0 f1 f2 f3 f4 f5 hrow3 hrow2
      go_wp2_with fail
      go_roundg (j)
      case rel =>
       refine ⟨j, _, rfl, by omega, by go_num, Lib.hid ⟨Hrow3.out.mod ((Mod.refl (fun _ => False) _).drew) (fun f => f), by simp [hlen], ?_⟩, ?_⟩
       ·rw [← Hs.out, sink_yes lessE k1 k2 Hl.out]
       ·exact (((((((hmi.trans hxe (fun _ _ f => f.elim)).setCell (p := ⟨g, (j + 1) * 3, none⟩) (fun _ => rfl) _).setCell (p := ⟨g, (j + 1) * 3 + 1, none⟩) (fun _ => rfl) _).setCell (p := ⟨g, (j + 1) * 3 + 2, none⟩) (fun _ => rfl) _).setCell (p := ⟨g, j * 3, none⟩) (fun _ => rfl) _).setCell (p := ⟨g, j * 3 + 1, none⟩) (fun _ => rfl) _).setCell (p := ⟨g, j * 3 + 2, none⟩) (fun _ => rfl) _).drew
      case measure => have := Hjc.out; omega
  ·have hlt' : ¬ (k : Int) < (N : Int) := by omega
   obtain rfl : k = N := by omega
   go_wp2_with fail
   go_end0
   exact ⟨rfl, HR.out, hm⟩
theorem stableEd_any (g cap : Nat) (l : List Ed) (w : World) (hr : edE.Row w g 59 l) (h0 : 0 < l.length) (hn : l.length ≤ 19) :
  Calls Tryz.prog 110 #[.slice (some ⟨g, 0, none⟩) l.length cap, .int .i64 l.length, .func (.func 74) #[] #[]] w
   fun e w' => e = .returned (.tuple #[]) ∧ edE.Row w' g 59 (sorted lessE l) ∧ Mod (· = g) w w' := by
 have hi := insertEd_any g cap l w hr h0 (by omega)
 rw [isort_all] at hi
 have Hi := Lib.hid hi
 have j1 : ¬ (20 : Int) ≤ (l.length : Int) := by omega
 have j2 : ¬ (20 : Int) < (l.length : Int) := by omega
 have j3 : ¬ 20 ≤ l.length := by omega
 have j4 : ¬ 20 < l.length := by omega
 clear hi hr h0 hn
 go_enter Tryz.func110, Tryz.ntmps110
 go_wp2_with fail
 refine wp_loop_rounds 1 ?_
 rw [rounds_succ]
 go_wp2_with fail
 refine Hi.out.mono ?_
 rintro e w1 ⟨rfl, hr, hm⟩
 go_wp2_with fail
 refine wp_loop_rounds 1 ?_
 rw [rounds_succ]
 go_wp2_with fail
 go_end0
 exact ⟨rfl, hr, hm⟩
theorem sortEd_any (g cap : Nat) (l : List Ed) (w : World) (hr : edE.Row w g 59 l) (h0 : 0 < l.length) (hn : l.length ≤ 19) :
  Calls Tryz.prog 73 #[.slice (some ⟨g, 0, none⟩) l.length cap, .func (.func 74) #[] #[]] w
   fun e w' => e = .returned (.tuple #[]) ∧ edE.Row w' g 59 (sorted lessE l) ∧ Mod (· = g) w w' := by
 have Hi := Lib.hid (stableEd_any g cap l w hr h0 hn)
 clear hr h0 hn
 go_enter Tryz.func73, Tryz.ntmps73
 go_wp2_with fail
 refine Hi.out.mono ?_
 rintro e w1 ⟨rfl, hr, hm⟩
 go_wp2_with fail
 go_end0
 exact ⟨rfl, hr, hm⟩
theorem insertEd_none (ao : Option Addr) (cap : Nat) (w : World) : Calls Tryz.prog 144 #[.slice ao 0 cap, .int .i64 0, .int .i64 0, .func (.func 74) #[] #[]] w fun e w' => e = .returned (.tuple #[]) ∧ w' = w := by
 go_enter Tryz.func144, Tryz.ntmps144
 go_wp2_with fail
 refine wp_loop_rounds 1 ?_
 rw [rounds_succ]
 go_wp2_with fail
 go_end0
 exact ⟨rfl, rfl⟩
theorem stableEd_none (ao : Option Addr) (cap : Nat) (w : World) : Calls Tryz.prog 110 #[.slice ao 0 cap, .int .i64 0, .func (.func 74) #[] #[]] w fun e w' => e = .returned (.tuple #[]) ∧ w' = w := by
 go_enter Tryz.func110, Tryz.ntmps110
 go_wp2_with fail
 refine wp_loop_rounds 1 ?_
 rw [rounds_succ]
 go_wp2_with fail
 refine (insertEd_none ao cap w).mono ?_
 rintro e w1 ⟨rfl, rfl⟩
 go_wp2_with fail
 refine wp_loop_rounds 1 ?_
 rw [rounds_succ]
 go_wp2_with fail
 go_end0
 exact ⟨rfl, rfl⟩
theorem sortEd_none (ao : Option Addr) (cap : Nat) (w : World) : Calls Tryz.prog 73 #[.slice ao 0 cap, .func (.func 74) #[] #[]] w fun e w' => e = .returned (.tuple #[]) ∧ w' = w := by
 go_enter Tryz.func73, Tryz.ntmps73
 go_wp2_with fail
 refine (stableEd_none ao cap w).mono ?_
 rintro e w1 ⟨rfl, rfl⟩
 go_wp2_with fail
 go_end0
 exact ⟨rfl, rfl⟩
theorem cloneEd_some (b off cap : Nat) (l : List Ed) (w : World) (hr : Reads w 3 (some ⟨b, off, none⟩) l.length (edE.cells l)) (h0 : 0 < l.length) (hn : l.length ≤ 1000000) :
  Calls Tryz.prog 72 #[.slice (some ⟨b, off, none⟩) l.length cap] w (edE.New 59 l w) := by
 have hnil := fun w' => Lib.run_eql_slice_nil (P := Tryz.prog) w' 35 59 (some ⟨b, off, none⟩) l.length cap 0 0 Tryz.underlying35
 have ha : Ext w (w.alloc (.cells #[] 59)) := (Mod.refl _ w).alloc _
 have hr2 := hr.mod ha (fun _ _ f => f)
 obtain ⟨N, hN⟩ : ∃ N, N = l.length := ⟨_, rfl⟩
 unfold Enc.New
 rw [← hN] at h0 hn hr2 hnil ⊢
 clear hN hr
 go_enter Tryz.func72, Tryz.ntmps72
 go_wp2_with (at_builtin; refine wpList_append_reads rfl _ _ 35 rfl w.heap.size 59 _ 3 32 Tryz.info59 Tryz.underlying35 rfl (by decide) _ 0 [] rfl (World.ownsRow_lit w #[] 0 (Nat.le_refl _) (by unfold maxLen; omega) rfl) _ N cap (edE.cells l) rfl hr2 (edE.cells_one l) (by unfold maxLen; omega) (by omega) (by simp) ?_)
 intro v' w4 hown hm4 hbk
 obtain ⟨g, cx', rfl⟩ := Enc.owns_some (E := edE) hown h0
 have hx4 : Ext w w4 := ha.trans hm4 (fun i hi e => by cases e; exact absurd hi (Nat.lt_irrefl _))
 have HO := Lib.hid hown
 clear hm4 hbk hown
 go_wp2_with fail
 go_ret
 exact ⟨g, cx', rfl, HO.out, hx4⟩
theorem cloneEd_nil (cap : Nat) (w : World) :
  Calls Tryz.prog 72 #[.slice none 0 cap] w fun e w' => e = .returned (.slice none 0 0) ∧ w' = w := by
 have hnil := fun w' => Lib.run_eql_slice_nil (P := Tryz.prog) w' 35 59 none 0 cap 0 0 Tryz.underlying35
 go_enter Tryz.func72, Tryz.ntmps72
 go_wp2_with fail
 go_ret
 exact ⟨rfl, rfl⟩
end Go.Proofs.YthlmgoagnfkhdaaGreat
namespace Go.Gim
open Go Go.RowKit
theorem SpRow_put {w : World} {g : Nat} {T : TypeId} {l : List (Int × Int)} (h : prE.Row w g T l) {i : Nat} {x : (Int × Int)} (hx : l[i]? = some x) (y : (Int × Int)) : prE.Row ((w.setCell ⟨g, i * 2, none⟩ (.int .i64 y.1)).setCell ⟨g, i * 2 + 1, none⟩ (.int .i64 y.2)) g T (l.set i y) := by
 have hi := (List.getElem?_eq_some_iff.1 hx).1
 have h0 := Enc.Row.set (E := prE) h hx (j := 0) (by decide) (v := .int .i64 y.1) (y.1, x.2) rfl
 have h1 := Enc.Row.set2 (E := prE) h0 hi (j := 1) (by decide) (v := .int .i64 y.2) (y := (y.1, y.2)) rfl
 exact h1
theorem SpRow_cell {w : World} {g : Nat} {T : TypeId} {l : List (Int × Int)} (h : prE.Row w g T l) {i : Nat} {x : (Int × Int)} (hx : l[i]? = some x) : w.cell? ⟨g, i * 2, none⟩ = some (.int .i64 x.1) ∧ w.cell? ⟨g, i * 2 + 1, none⟩ = some (.int .i64 x.2) :=
 ⟨Enc.Row.cell (E := prE) (j := 0) h hx rfl, Enc.Row.cell (E := prE) (j := 1) h hx rfl⟩
end Go.Gim
namespace Go.Proofs.YthlmgoagnfkhdaaGreat
open Go.RowKit Go.Gim
theorem Tryz.info49 : (Tryz.prog.info? 49).map (fun i => (i.zero, i.size, i.bytes)) = some (some (.agg #[.int .i64 0, .int .i64 0]), 2, 16) := by kernel_rfl
theorem lessSp_is (x y : Int × Int) : decide (cmpB x y < 0) = lessB x y := cmpB_less _ _
theorem cmpSp_any (x y : Int × Int) (w : World) : Calls Tryz.prog 83 #[.agg #[.int .i64 x.1, .int .i64 x.2], .agg #[.int .i64 y.1, .int .i64 y.2]] w fun e w' => e = .returned (.int .i64 (cmpB x y)) ∧ Ext w w' := by
 go_enter Tryz.func83, Tryz.ntmps83
 go_wp2_with fail
 obtain ⟨wa, hwa⟩ : ∃ wa, wa = (w.alloc (.cells #[.int .i64 x.1, .int .i64 x.2] 49)).alloc (.cells #[.int .i64 y.1, .int .i64 y.2] 49) := ⟨_, rfl⟩
 have hxa : Ext w wa := by rw [hwa]; exact ((Mod.refl _ w).alloc _).alloc _
 have hb2 : Blk wa w.heap.size 49 #[.int .i64 x.1, .int .i64 x.2] := by rw [hwa]; exact (Blk.new _ _ _).alloc _
 have hb3 : Blk wa (w.heap.size + 1) 49 #[.int .i64 y.1, .int .i64 y.2] := by
  rw [hwa]; have := Blk.new (w.alloc (.cells #[.int .i64 x.1, .int .i64 x.2] 49)) 49 #[.int .i64 y.1, .int .i64 y.2]; simpa using this
 rw [← hwa]
 clear hwa
 have c0 : wa.cell? ⟨w.heap.size, 0, none⟩ = some (.int .i64 x.1) := hb2.cell 0
 have c1 : wa.cell? ⟨w.heap.size, 1, none⟩ = some (.int .i64 x.2) := hb2.cell 1
 have c2 : wa.cell? ⟨w.heap.size + 1, 0, none⟩ = some (.int .i64 y.1) := hb3.cell 0
 have c3 : wa.cell? ⟨w.heap.size + 1, 1, none⟩ = some (.int .i64 y.2) := hb3.cell 1
 have l2 := hb2.lt
 have l3 := hb3.lt
 refine wp_region_ext_tail 10 (by kernel_rfl) (by kernel_rfl) ?_
 simp only [List.take_succ_cons, List.take_zero, List.drop_succ_cons, List.drop_zero]
 repeat (go_big_quiet_step (exact Calls.ext_of_same (compare_any _ _ _)))
 refine wpQuiet_nil ?_
 intro we hxe
 go_wp2_with fail
 have hb := Blk.new we 3 #[.int .i64 (cmpI x.1 y.1), .int .i64 (cmpI x.2 y.2)]
 refine (or_two _ _ we.heap.size _ (hb.cell 0) (hb.cell 1)).mono ?_
 rintro e w' ⟨rfl, rfl⟩
 clear hb
 go_wp2_with fail
 go_ret
 exact ⟨rfl, (hxa.ext_trans hxe).alloc _⟩
theorem insertSp_any (g cap : Nat) (l : List (Int × Int)) (w : World) (hr : prE.Row w g 49 l) (h0 : 0 < l.length) (hn : l.length ≤ 1000) :
  Calls Tryz.prog 154 #[.slice (some ⟨g, 0, none⟩) l.length cap, .int .i64 0, .int .i64 l.length, .func (.func 83) #[] #[]] w
   fun e w' => e = .returned (.tuple #[]) ∧ prE.Row w' g 49 (isort lessB l l.length) ∧ Mod (· = g) w w' := by
 have H1 := Lib.hid (show prE.Row w g 49 (isort lessB l 1) from hr)
 obtain ⟨N, hN⟩ : ∃ N, N = l.length := ⟨_, rfl⟩
 rw [← hN] at h0 hn ⊢
 have HN := Lib.hid hN
 clear hr hN
 go_enter Tryz.func154, Tryz.ntmps154
 go_wp2_with fail
 go_loopw [8] (fun s8 wr => ∃ k : Nat, 1 ≤ k ∧ k ≤ N ∧ s8 = .int .i64 k ∧ Hid (prE.Row wr g 49 (isort lessB l k)) ∧ Mod (· = g) w wr) (fun s8 _ => N - (intOf s8).toNat)
 case atStart => exact ⟨1, by omega, by omega, rfl, H1, Mod.refl _ _⟩
 case round =>
  obtain ⟨k, hk1, hk, rfl, HR, hm⟩ := hrel
  by_cases hlt : k < N
  ·have hlt' : (k : Int) < (N : Int) := by omega
   obtain ⟨T, hT⟩ : ∃ T, isort lessB l (k + 1) = T := ⟨_, rfl⟩
   have HT := Lib.hid (show sink lessB (isort lessB l k) k = T from hT)
   have HL := Lib.hid (show (isort lessB l k).length = N by rw [isort_length]; exact HN.out.symm)
   go_wp2_with fail
   go_loopg [9] k (fun c s9 wi => ∃ (j : Nat) (cur : List (Int × Int)), j = c ∧ j ≤ k ∧ s9 = .int .i64 j ∧ Hid (prE.Row wi g 49 cur ∧ cur.length = N ∧ sink lessB cur j = T) ∧ Mod (· = g) w wi)
   case atStart => exact ⟨k, _, rfl, Nat.le_refl _, rfl, Lib.hid ⟨HR.out, HL.out, HT.out⟩, hm⟩
   case round =>
    obtain ⟨j, cur, hjc, hj, rfl, HC, hmi⟩ := hrel
    have Hjc := Lib.hid hjc
    clear hjc
    clear HR HT HL hm
    cases j with
    | zero =>
     have e1 : decide ((0 : Int) < 0) = false := rfl
     go_wp2_with fail
     go_quiet (fail)
     go_wp2_with fail
     go_roundw
     case rel => exact ⟨k + 1, by omega, by omega, by go_num, Lib.hid (by rw [hT, ← HC.out.2.2]; exact HC.out.1.mod ((Mod.refl (fun _ => False) _).drewN _) (fun f => f)), hmi.drewN _⟩
     case measure => simp [intOf]; omega
    | succ j =>
     have hj1 : (0 : Int) ≤ (j : Int) := by omega
     have e1 : decide ((0 : Int) < (j : Int) + 1) = true := decide_eq_true (by omega)
     have e2 : IntKind.i64.wrap ((j : Int) + 1 - 1) = (j : Int) := by rw [show (j : Int) + 1 - 1 = j from by omega]; exact IntWalk.i64_in _ (by omega)
     obtain ⟨hrow, hlen, hsk⟩ := HC.out
     have b1 : j + 1 < cur.length := by omega
     have b2 : j < cur.length := by omega
     obtain ⟨c0, c1⟩ := SpRow_cell hrow (List.getElem?_eq_getElem b1)
     obtain ⟨c2, c3⟩ := SpRow_cell hrow (List.getElem?_eq_getElem b2)
     have hgl := hrow.lt
     have hsk2 := hsk
     generalize hX : cur[j + 1] = X at *
     generalize hY : cur[j] = Y at *
     have b3 : (j : Int) + 1 < (N : Int) := by omega
     have b4 : (j : Int) < (N : Int) := by omega
     clear hsk2
     have hB := lessSp_is X Y
     cases hL : lessB X Y with
     | false =>
      rw [hL] at hB
      go_wp2_with fail
      refine wp_region_ext_lit (by kernel_rfl) (by kernel_rfl) ?_
      repeat (go_big_quiet_step (exact Calls.ext_of (cmpSp_any _ _ _)))
      refine wpQuiet_nil ?_
      intro we hxe
      go_wp2_with fail
      go_roundw
      case rel => exact ⟨k + 1, by omega, by omega, by go_num, Lib.hid (by rw [hT, ← hsk, sink_no lessB (hX ▸ List.getElem?_eq_getElem b1) (hY ▸ List.getElem?_eq_getElem b2) hL]; exact hrow.mod hxe (fun f => f)), hmi.trans hxe (fun _ _ f => f.elim)⟩
      case measure => simp [intOf]; omega
     | true =>
      rw [hL] at hB
      go_wp2_with fail
      refine wp_region_ext_lit (by kernel_rfl) (by kernel_rfl) ?_
      repeat (go_big_quiet_step (exact Calls.ext_of (cmpSp_any _ _ _)))
      refine wpQuiet_nil ?_
      intro we hxe
      have hrow2 := hrow.mod hxe (fun f => f)
      have Hl := Lib.hid hL
      have Hs := Lib.hid hsk
      clear c0 c1 c2 c3 hB hL hsk hgl hrow
      obtain ⟨c0, c1⟩ := SpRow_cell hrow2 (show cur[j + 1]? = some X by rw [← hX]; exact List.getElem?_eq_getElem b1)
      obtain ⟨c2, c3⟩ := SpRow_cell hrow2 (show cur[j]? = some Y by rw [← hY]; exact List.getElem?_eq_getElem b2)
      have f0 := hrow2.free ((j + 1) * 2)
      have f1 := hrow2.free ((j + 1) * 2 + 1)
      have f2 := hrow2.free (j * 2)
      have f3 := hrow2.free (j * 2 + 1)
      have hgl := hrow2.lt
      go_wp2_with fail
      go_region
      have k1 : cur[j + 1]? = some X := by rw [← hX]; exact List.getElem?_eq_getElem b1
      have k2 : cur[j]? = some Y := by rw [← hY]; exact List.getElem?_eq_getElem b2
      have hrow3 := SpRow_put (SpRow_put hrow2 k1 Y) (i := j) (x := Y) (by rw [List.getElem?_set_ne (by omega)]; exact k2) X
      have Hrow3 := Lib.hid hrow3
      clear c0 c1 c2 c3 f0 f1 f2 f3 hrow3 hrow2
      go_wp2_with fail
      go_roundg (j)
      case rel =>
       refine ⟨j, _, rfl, by omega, by go_num, Lib.hid ⟨Hrow3.out.mod ((Mod.refl (fun _ => False) _).drew) (fun f => f), by simp [hlen], ?_⟩, ?_⟩
       ·rw [← Hs.out, sink_yes lessB k1 k2 Hl.out]
       ·exact (((((hmi.trans hxe (fun _ _ f => f.elim)).setCell (p := ⟨g, (j + 1) * 2, none⟩) (fun _ => rfl) _).setCell (p := ⟨g, (j + 1) * 2 + 1, none⟩) (fun _ => rfl) _).setCell (p := ⟨g, j * 2, none⟩) (fun _ => rfl) _).setCell (p := ⟨g, j * 2 + 1, none⟩) (fun _ => rfl) _).drew
      case measure => have := Hjc.out; omega
  ·have hlt' : ¬ (k : Int) < (N : Int) := by omega
   obtain rfl : k = N := by omega
   go_wp2_with fail
   go_end0
   exact ⟨rfl, HR.out, hm⟩
theorem stableSp_any (g cap : Nat) (l : List (Int × Int)) (w : World) (hr : prE.Row w g 49 l) (h0 : 0 < l.length) (hn : l.length ≤ 19) :
  Calls Tryz.prog 120 #[.slice (some ⟨g, 0, none⟩) l.length cap, .int .i64 l.length, .func (.func 83) #[] #[]] w
   fun e w' => e = .returned (.tuple #[]) ∧ prE.Row w' g 49 (sorted lessB l) ∧ Mod (· = g) w w' := by
 have hi := insertSp_any g cap l w hr h0 (by omega)
 rw [isort_all] at hi
 have Hi := Lib.hid hi
 have j1 : ¬ (20 : Int) ≤ (l.length : Int) := by omega
 have j2 : ¬ (20 : Int) < (l.length : Int) := by omega
 have j3 : ¬ 20 ≤ l.length := by omega
 have j4 : ¬ 20 < l.length := by omega
 clear hi hr h0 hn
 go_enter Tryz.func120, Tryz.ntmps120
 go_wp2_with fail
 refine wp_loop_rounds 1 ?_
 rw [rounds_succ]
 go_wp2_with fail
 refine Hi.out.mono ?_
 rintro e w1 ⟨rfl, hr, hm⟩
 go_wp2_with fail
 refine wp_loop_rounds 1 ?_
 rw [rounds_succ]
 go_wp2_with fail
 go_end0
 exact ⟨rfl, hr, hm⟩
theorem sortSp_any (g cap : Nat) (l : List (Int × Int)) (w : World) (hr : prE.Row w g 49 l) (h0 : 0 < l.length) (hn : l.length ≤ 19) :
  Calls Tryz.prog 82 #[.slice (some ⟨g, 0, none⟩) l.length cap, .func (.func 83) #[] #[]] w
   fun e w' => e = .returned (.tuple #[]) ∧ prE.Row w' g 49 (sorted lessB l) ∧ Mod (· = g) w w' := by
 have Hi := Lib.hid (stableSp_any g cap l w hr h0 hn)
 clear hr h0 hn
 go_enter Tryz.func82, Tryz.ntmps82
 go_wp2_with fail
 refine Hi.out.mono ?_
 rintro e w1 ⟨rfl, hr, hm⟩
 go_wp2_with fail
 go_end0
 exact ⟨rfl, hr, hm⟩
theorem insertSp_none (ao : Option Addr) (cap : Nat) (w : World) : Calls Tryz.prog 154 #[.slice ao 0 cap, .int .i64 0, .int .i64 0, .func (.func 83) #[] #[]] w fun e w' => e = .returned (.tuple #[]) ∧ w' = w := by
 go_enter Tryz.func154, Tryz.ntmps154
 go_wp2_with fail
 refine wp_loop_rounds 1 ?_
 rw [rounds_succ]
 go_wp2_with fail
 go_end0
 exact ⟨rfl, rfl⟩
theorem stableSp_none (ao : Option Addr) (cap : Nat) (w : World) : Calls Tryz.prog 120 #[.slice ao 0 cap, .int .i64 0, .func (.func 83) #[] #[]] w fun e w' => e = .returned (.tuple #[]) ∧ w' = w := by
 go_enter Tryz.func120, Tryz.ntmps120
 go_wp2_with fail
 refine wp_loop_rounds 1 ?_
 rw [rounds_succ]
 go_wp2_with fail
 refine (insertSp_none ao cap w).mono ?_
 rintro e w1 ⟨rfl, rfl⟩
 go_wp2_with fail
 refine wp_loop_rounds 1 ?_
 rw [rounds_succ]
 go_wp2_with fail
 go_end0
 exact ⟨rfl, rfl⟩
theorem sortSp_none (ao : Option Addr) (cap : Nat) (w : World) : Calls Tryz.prog 82 #[.slice ao 0 cap, .func (.func 83) #[] #[]] w fun e w' => e = .returned (.tuple #[]) ∧ w' = w := by
 go_enter Tryz.func82, Tryz.ntmps82
 go_wp2_with fail
 refine (stableSp_none ao cap w).mono ?_
 rintro e w1 ⟨rfl, rfl⟩
 go_wp2_with fail
 go_end0
 exact ⟨rfl, rfl⟩
theorem cloneSp_some (b off cap : Nat) (l : List (Int × Int)) (w : World) (hr : Reads w 2 (some ⟨b, off, none⟩) l.length (prE.cells l)) (h0 : 0 < l.length) (hn : l.length ≤ 1000000) :
  Calls Tryz.prog 85 #[.slice (some ⟨b, off, none⟩) l.length cap] w (prE.New 49 l w) := by
 have hnil := fun w' => Lib.run_eql_slice_nil (P := Tryz.prog) w' 114 49 (some ⟨b, off, none⟩) l.length cap 0 0 Tryz.underlying114
 have ha : Ext w (w.alloc (.cells #[] 49)) := (Mod.refl _ w).alloc _
 have hr2 := hr.mod ha (fun _ _ f => f)
 obtain ⟨N, hN⟩ : ∃ N, N = l.length := ⟨_, rfl⟩
 unfold Enc.New
 rw [← hN] at h0 hn hr2 hnil ⊢
 clear hN hr
 go_enter Tryz.func85, Tryz.ntmps85
 go_wp2_with (at_builtin; refine wpList_append_reads rfl _ _ 114 rfl w.heap.size 49 _ 2 16 Tryz.info49 Tryz.underlying114 rfl (by decide) _ 0 [] rfl (World.ownsRow_lit w #[] 0 (Nat.le_refl _) (by unfold maxLen; omega) rfl) _ N cap (prE.cells l) rfl hr2 (prE.cells_one l) (by unfold maxLen; omega) (by omega) (by simp) ?_)
 intro v' w4 hown hm4 hbk
 obtain ⟨g, cx', rfl⟩ := Enc.owns_some (E := prE) hown h0
 have hx4 : Ext w w4 := ha.trans hm4 (fun i hi e => by cases e; exact absurd hi (Nat.lt_irrefl _))
 have HO := Lib.hid hown
 clear hm4 hbk hown
 go_wp2_with fail
 go_ret
 exact ⟨g, cx', rfl, HO.out, hx4⟩
theorem cloneSp_nil (cap : Nat) (w : World) :
  Calls Tryz.prog 85 #[.slice none 0 cap] w fun e w' => e = .returned (.slice none 0 0) ∧ w' = w := by
 have hnil := fun w' => Lib.run_eql_slice_nil (P := Tryz.prog) w' 114 49 none 0 cap 0 0 Tryz.underlying114
 go_enter Tryz.func85, Tryz.ntmps85
 go_wp2_with fail
 go_ret
 exact ⟨rfl, rfl⟩
end Go.Proofs.YthlmgoagnfkhdaaGreat
namespace Go.Gim
theorem apartB_yes {l : List (Int × Int)} (h : ∀ i, i < l.length → okAt (sorted lessB l) i = true) : apartB l = true :=
 List.all_eq_true.2 (fun i hi => h i (List.mem_range.1 hi))
theorem apartB_no {l : List (Int × Int)} {i : Nat} (hi : i < l.length) (h : okAt (sorted lessB l) i = false) : apartB l = false := by
 rw [Bool.eq_false_iff]
 intro ha
 rw [List.all_eq_true.1 ha i (List.mem_range.2 hi)] at h
 cases h
end Go.Gim
namespace Go.Proofs.YthlmgoagnfkhdaaGreat
open Go.RowKit Go.Gim
theorem apart_some (b off cap : Nat) (l : List (Int × Int)) (w : World) (hr : Reads w 2 (some ⟨b, off, none⟩) l.length (prE.cells l)) (h0 : 0 < l.length) (hn : l.length ≤ 19) :
  Calls Tryz.prog 56 #[.slice (some ⟨b, off, none⟩) l.length cap] w fun e w' => e = .returned (.bool (apartB l)) ∧ Ext w w' := by
 have Hc := Lib.hid (cloneSp_some b off cap l w hr h0 (by omega))
 have Hs := Lib.hid (fun g c w' (h : prE.Row w' g 49 l) => sortSp_any g c l w' h h0 hn)
 unfold Enc.New at Hc
 have Hyes := Lib.hid (apartB_yes (l := l))
 have Hno := Lib.hid (fun i hi h => apartB_no (l := l) (i := i) hi h)
 have Hsl := Lib.hid (sorted_length lessB l)
 generalize sorted lessB l = S at *
 generalize apartB l = B at *
 obtain ⟨N, hN⟩ : ∃ N, N = l.length := ⟨_, rfl⟩
 rw [← hN] at h0 hn Hyes Hno Hsl Hc Hs ⊢
 clear hr hN
 go_enter Tryz.func56, Tryz.ntmps56
 go_wp2_with fail
 refine Hc.out.mono ?_
 rintro e w1 ⟨g, c, rfl, hown, hx1⟩
 have hrow1 := Enc.Row.of_owns (E := prE) hown
 have hg := (Enc.owns_block (E := prE) hown).1
 clear hown
 go_wp2_with fail
 refine (Hs.out g c w1 hrow1).mono ?_
 rintro e w2 ⟨rfl, hrow2, hm2⟩
 have hx2 : Ext w w2 := hx1.trans hm2 (fun i hi e => by omega)
 have Hrow := Lib.hid hrow2
 clear hrow1 hrow2 hm2 hx1 Hc Hs
 go_wp2_with fail
 go_loopw [12] (fun s12 wr => ∃ k : Nat, k ≤ N ∧ s12 = .int .i64 k ∧ Hid (prE.Row wr g 49 S ∧ ∀ i, i < k → okAt S i = true) ∧ Ext w wr) (fun s12 _ => N - (intOf s12).toNat)
 case atStart => exact ⟨0, by omega, rfl, Lib.hid ⟨Hrow.out, fun i hi => absurd hi (Nat.not_lt_zero i)⟩, hx2⟩
 case round =>
  clear Hrow hx2
  obtain ⟨k, hk, rfl, HK, hx⟩ := hrel
  by_cases hlt : k < N
  ·have hlt' : (k : Int) < (N : Int) := by omega
   have hk0 : (0 : Int) ≤ (k : Int) := by omega
   have hkS : S[k]? = some (S[k]'(by rw [Hsl.out]; exact hlt)) := List.getElem?_eq_getElem _
   obtain ⟨c0, c1⟩ := SpRow_cell HK.out.1 hkS
   have hgl := HK.out.1.lt
   have hok := okAt_is hkS
   generalize S[k]'(by rw [Hsl.out]; exact hlt) = x at *
   have Hok := Lib.hid hok
   have Hk := Lib.hid hlt
   clear hok hkS
   by_cases h1 : x.2 < x.1
   ·have b1 : decide (x.2 < x.1) = true := decide_eq_true h1
    have Hb := Lib.hid (Hno.out k hlt (by rw [Hok.out, b1]; rfl))
    go_wp2_with fail
    go_quiet (fail)
    go_wp2_with fail
    go_ret
    exact ⟨ret_bool Hb.out.symm, ((hx.alloc _).drewN _)⟩
   ·have b1 : decide (x.2 < x.1) = false := decide_eq_false h1
    cases k with
    | zero =>
     have b2 : decide ((0 : Int) < 0) = false := rfl
     have Ho := Lib.hid (show okAt S 0 = true by rw [Hok.out, b1]; rfl)
     go_wp2_with fail
     go_quiet (fail)
     go_wp2_with fail
     go_roundw
     case rel => exact ⟨1, by omega, by go_num, Lib.hid ⟨HK.out.1.mod (((Mod.refl (fun _ => False) _).alloc _).drewN _) (fun f => f), fun i hi => (show i = 0 by omega) ▸ Ho.out⟩, (hx.alloc _).drewN _⟩
     case measure => simp [intOf]; omega
    | succ j =>
     have hjS : S[j]? = some (S[j]'(by rw [Hsl.out]; omega)) := List.getElem?_eq_getElem _
     obtain ⟨d0, d1⟩ := SpRow_cell HK.out.1 hjS
     have hok2 : okAt S (j + 1) = (!decide (x.2 < x.1) && apart1 x (some (S[j]'(by rw [Hsl.out]; omega)))) := by rw [Hok.out]; show (_ && apart1 x S[j]?) = _; rw [hjS]
     generalize S[j]'(by rw [Hsl.out]; omega) = y at *
     rw [b1] at hok2
     have b2 : decide ((0 : Int) < (j : Int) + 1) = true := decide_eq_true (by omega)
     have e2 : IntKind.i64.wrap ((j : Int) + 1 - 1) = (j : Int) := by rw [show (j : Int) + 1 - 1 = j from by omega]; exact IntWalk.i64_in _ (by omega)
     have e3 : (0 : Int) ≤ (j : Int) := by omega
     have e4 : (j : Int) < (N : Int) := by omega
     have e5 : (j : Int) ≤ 19 := by omega
     cases h2 : (x.1 == y.1) with
     | true =>
      have Hb := Lib.hid (Hno.out (j + 1) hlt (by rw [hok2]; show (!false && !(decide (x.1 = y.1) || decide (x.1 < y.2))) = _; rw [decide_eq_true (show x.1 = y.1 by simpa using h2)]; rfl))
      clear hok2 hjS Hok
      go_wp2_with fail
      go_quiet (fail)
      go_wp2_with fail
      go_ret
      exact ⟨ret_bool Hb.out.symm, ((hx.alloc _).drewN _)⟩
     | false =>
      by_cases h3 : x.1 < y.2
      ·have b3 : decide (x.1 < y.2) = true := decide_eq_true h3
       have Hb := Lib.hid (Hno.out (j + 1) hlt (by rw [hok2]; show (!false && !(decide (x.1 = y.1) || decide (x.1 < y.2))) = _; rw [b3, Bool.or_true]; rfl))
       clear hok2 hjS Hok
       go_wp2_with fail
       go_quiet (fail)
       go_wp2_with fail
       go_ret
       exact ⟨ret_bool Hb.out.symm, ((hx.alloc _).drewN _)⟩
      ·have b3 : decide (x.1 < y.2) = false := decide_eq_false h3
       have Ho := Lib.hid (show okAt S (j + 1) = true by rw [hok2]; show (!false && !(decide (x.1 = y.1) || decide (x.1 < y.2))) = _; rw [b3, decide_eq_false (show ¬ x.1 = y.1 by simpa using h2)]; rfl)
       clear hok2 hjS Hok
       go_wp2_with fail
       go_quiet (fail)
       go_wp2_with fail
       go_roundw
       case rel =>
        refine ⟨j + 2, by have := Hk.out; omega, by go_num, Lib.hid ⟨HK.out.1.mod (((Mod.refl (fun _ => False) _).alloc _).drewN _) (fun f => f), fun i hi => ?_⟩, (hx.alloc _).drewN _⟩
        by_cases e : i = j + 1
        ·rw [e]; exact Ho.out
        ·exact HK.out.2 i (by omega)
       case measure => simp [intOf]; omega
  ·have hlt' : ¬ (k : Int) < (N : Int) := by omega
   obtain rfl : k = N := by omega
   have Hb := Lib.hid (Hyes.out HK.out.2)
   go_wp2_with fail
   go_ret
   exact ⟨ret_bool Hb.out.symm, hx⟩
theorem apart_none (cap : Nat) (w : World) : Calls Tryz.prog 56 #[.slice none 0 cap] w fun e w' => e = .returned (.bool (apartB [])) ∧ Ext w w' := by
 go_enter Tryz.func56, Tryz.ntmps56
 go_wp2_with fail
 refine (cloneSp_nil cap w).mono ?_
 rintro e w1 ⟨rfl, rfl⟩
 go_wp2_with fail
 refine (sortSp_none none 0 w1).mono ?_
 rintro e w1 ⟨rfl, rfl⟩
 go_wp2_with fail
 refine wp_loop_rounds 1 ?_
 rw [rounds_succ]
 go_wp2_with fail
 go_ret
 exact ⟨rfl, Mod.refl _ _⟩
def NilOr (ao : Option Addr) (n : Nat) : Prop := n = 0 → ao = none
theorem apart_any (ao : Option Addr) (cap : Nat) (l : List (Int × Int)) (w : World) (hr : Reads w 2 ao l.length (prE.cells l)) (h0 : NilOr ao l.length) (hn : l.length ≤ 19) :
  Calls Tryz.prog 56 #[.slice ao l.length cap] w fun e w' => e = .returned (.bool (apartB l)) ∧ Ext w w' := by
 cases l with
 | nil => rw [h0 rfl]; exact apart_none cap w
 | cons x r =>
  obtain ⟨b, off, rfl⟩ := hr.some (by simp)
  exact apart_some b off cap (x :: r) w hr (by simp) hn
end Go.Proofs.YthlmgoagnfkhdaaGreat

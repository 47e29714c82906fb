/- Sorting edits: what is compared, the library's insertion, the stable sort, Clone. Conditions: fewer than 20 elements. -/
import Derived.Test.YthlmgoagnfkhdaaGreatGimG08
import Derived.Test.YthlmgoagnfkhdaaGreatGimG05
import Derived.Test.YthlmgoagnfkhdaaGreatGimG02
import Derived.Deep.DeepCutAuto
set_option maxHeartbeats 6400000
set_option maxRecDepth 1000000
set_option linter.unusedVariables false
set_option linter.unusedSimpArgs false
namespace Go.Gim
open Go Go.RowKit
theorem EdRow_put {w : World} {g : Nat} {T : TypeId} {l : List Ed} (h : edE.Row w g T l) {i : Nat} {x : Ed} (hx : l[i]? = some x) (y : Ed) : edE.Row (((w.setCell ⟨g, i * 3, none⟩ (.int .i64 y.a)).setCell ⟨g, i * 3 + 1, none⟩ (.int .i64 y.b)).setCell ⟨g, i * 3 + 2, none⟩ (.string y.t)) g T (l.set i y) := by
 have hi := (List.getElem?_eq_some_iff.1 hx).1
 have h0 := Enc.Row.set (E := edE) h hx (j := 0) (by decide) (v := .int .i64 y.a) ⟨y.a, x.b, x.t⟩ rfl
 have h1 := Enc.Row.set2 (E := edE) h0 hi (j := 1) (by decide) (v := .int .i64 y.b) (y := ⟨y.a, y.b, x.t⟩) rfl
 have h2 := Enc.Row.set2 (E := edE) h1 hi (j := 2) (by decide) (v := .string y.t) (y := ⟨y.a, y.b, y.t⟩) rfl
 exact h2
theorem EdRow_cell {w : World} {g : Nat} {T : TypeId} {l : List Ed} (h : edE.Row w g T l) {i : Nat} {x : Ed} (hx : l[i]? = some x) : w.cell? ⟨g, i * 3, none⟩ = some (.int .i64 x.a) ∧ w.cell? ⟨g, i * 3 + 1, none⟩ = some (.int .i64 x.b) ∧ w.cell? ⟨g, i * 3 + 2, none⟩ = some (.string x.t) :=
 ⟨Enc.Row.cell (E := edE) (j := 0) h hx rfl, Enc.Row.cell (E := edE) (j := 1) h hx rfl, Enc.Row.cell (E := edE) (j := 2) h hx rfl⟩
end Go.Gim
namespace Go.Proofs.YthlmgoagnfkhdaaGreat
open Go.RowKit Go.Gim
theorem Tryz.info59 : (Tryz.prog.info? 59).map (fun i => (i.zero, i.size, i.bytes)) = some (some (.agg #[.int .i64 0, .int .i64 0, .string ByteArray.empty]), 3, 32) := by kernel_rfl
def cmpE (x y : Ed) : Int := cmpB (x.a, x.b) (y.a, y.b)
theorem lessEd_is (x y : Ed) : decide (cmpE x y < 0) = lessE x y := cmpB_less _ _
theorem cmpEd_any (x y : Ed) (w : World) : Calls Tryz.prog 74 #[.agg #[.int .i64 x.a, .int .i64 x.b, .string x.t], .agg #[.int .i64 y.a, .int .i64 y.b, .string y.t]] w fun e w' => e = .returned (.int .i64 (cmpE x y)) ∧ Ext w w' := by
 go_enter Tryz.func74, Tryz.ntmps74
 go_wp2_with fail
 obtain ⟨wa, hwa⟩ : ∃ wa, wa = (w.alloc (.cells #[.int .i64 x.a, .int .i64 x.b, .string x.t] 59)).alloc (.cells #[.int .i64 y.a, .int .i64 y.b, .string y.t] 59) := ⟨_, rfl⟩
 have hxa : Ext w wa := by rw [hwa]; exact ((Mod.refl _ w).alloc _).alloc _
 have hb2 : Blk wa w.heap.size 59 #[.int .i64 x.a, .int .i64 x.b, .string x.t] := by rw [hwa]; exact (Blk.new _ _ _).alloc _
 have hb3 : Blk wa (w.heap.size + 1) 59 #[.int .i64 y.a, .int .i64 y.b, .string y.t] := by
  rw [hwa]; have := Blk.new (w.alloc (.cells #[.int .i64 x.a, .int .i64 x.b, .string x.t] 59)) 59 #[.int .i64 y.a, .int .i64 y.b, .string y.t]; simpa using this
 rw [← hwa]
 clear hwa
 have c0 : wa.cell? ⟨w.heap.size, 0, none⟩ = some (.int .i64 x.a) := hb2.cell 0
 have c1 : wa.cell? ⟨w.heap.size, 1, none⟩ = some (.int .i64 x.b) := hb2.cell 1
 have c2 : wa.cell? ⟨w.heap.size + 1, 0, none⟩ = some (.int .i64 y.a) := hb3.cell 0
 have c3 : wa.cell? ⟨w.heap.size + 1, 1, none⟩ = some (.int .i64 y.b) := hb3.cell 1
 have l2 := hb2.lt
 have l3 := hb3.lt
 refine wp_region_ext_tail 14 (by kernel_rfl) (by kernel_rfl) ?_
 simp only [List.take_succ_cons, List.take_zero, List.drop_succ_cons, List.drop_zero]
 repeat (go_big_quiet_step (exact Calls.ext_of_same (compare_any _ _ _)))
 refine wpQuiet_nil ?_
 intro we hxe
 go_wp2_with fail
 have hb := Blk.new we 3 #[.int .i64 (cmpI x.a y.a), .int .i64 (cmpI x.b y.b)]
 refine (or_two _ _ we.heap.size _ (hb.cell 0) (hb.cell 1)).mono ?_
 rintro e w' ⟨rfl, rfl⟩
 clear hb
 go_wp2_with fail
 go_ret
 exact ⟨rfl, (hxa.ext_trans hxe).alloc _⟩
theorem insertEd_any (g cap : Nat) (l : List Ed) (w : World) (hr : edE.Row w g 59 l) (h0 : 0 < l.length) (hn : l.length ≤ 1000) :
  Calls Tryz.prog 144 #[.slice (some ⟨g, 0, none⟩) l.length cap, .int .i64 0, .int .i64 l.length, .func (.func 74) #[] #[]] w
   fun e w' => e = .returned (.tuple #[]) ∧ edE.Row w' g 59 (isort lessE l l.length) ∧ Mod (· = g) w w' := by
 have H1 := Lib.hid (show edE.Row w g 59 (isort lessE l 1) from hr)
 obtain ⟨N, hN⟩ : ∃ N, N = l.length := ⟨_, rfl⟩
 rw [← hN] at h0 hn ⊢
 have HN := Lib.hid hN
 clear hr hN
 go_enter Tryz.func144, Tryz.ntmps144
 go_wp2_with fail
 go_loopw [8] (fun s8 wr => ∃ k : Nat, 1 ≤ k ∧ k ≤ N ∧ s8 = .int .i64 k ∧ Hid (edE.Row wr g 59 (isort lessE l k)) ∧ Mod (· = g) w wr) (fun s8 _ => N - (intOf s8).toNat)
 case atStart => exact ⟨1, by omega, by omega, rfl, H1, Mod.refl _ _⟩
 case round =>
  obtain ⟨k, hk1, hk, rfl, HR, hm⟩ := hrel
  by_cases hlt : k < N
  ·have hlt' : (k : Int) < (N : Int) := by omega
   obtain ⟨T, hT⟩ : ∃ T, isort lessE l (k + 1) = T := ⟨_, rfl⟩
   have HT := Lib.hid (show sink lessE (isort lessE l k) k = T from hT)
   have HL := Lib.hid (show (isort lessE l k).length = N by rw [isort_length]; exact HN.out.symm)
   go_wp2_with fail
   go_loopg [9] k (fun c s9 wi => ∃ (j : Nat) (cur : List Ed), j = c ∧ j ≤ k ∧ s9 = .int .i64 j ∧ Hid (edE.Row wi g 59 cur ∧ cur.length = N ∧ sink lessE cur j = T) ∧ Mod (· = g) w wi)
   case atStart => exact ⟨k, _, rfl, Nat.le_refl _, rfl, Lib.hid ⟨HR.out, HL.out, HT.out⟩, hm⟩
   case round =>
    obtain ⟨j, cur, hjc, hj, rfl, HC, hmi⟩ := hrel
    have Hjc := Lib.hid hjc
    clear hjc
    clear HR HT HL hm
    cases j with
    | zero =>
     have e1 : decide ((0 : Int) < 0) = false := rfl
     go_wp2_with fail
     go_quiet (fail)
     go_wp2_with fail
     go_roundw
     case rel => exact ⟨k + 1, by omega, by omega, by go_num, Lib.hid (by rw [hT, ← HC.out.2.2]; exact HC.out.1.mod ((Mod.refl (fun _ => False) _).drewN _) (fun f => f)), hmi.drewN _⟩
     case measure => simp [intOf]; omega
    | succ j =>
     have hj1 : (0 : Int) ≤ (j : Int) := by omega
     have e1 : decide ((0 : Int) < (j : Int) + 1) = true := decide_eq_true (by omega)
     have e2 : IntKind.i64.wrap ((j : Int) + 1 - 1) = (j : Int) := by rw [show (j : Int) + 1 - 1 = j from by omega]; exact IntWalk.i64_in _ (by omega)
     obtain ⟨hrow, hlen, hsk⟩ := HC.out
     have b1 : j + 1 < cur.length := by omega
     have b2 : j < cur.length := by omega
     obtain ⟨c0, c1, c2⟩ := EdRow_cell hrow (List.getElem?_eq_getElem b1)
     obtain ⟨c3, c4, c5⟩ := EdRow_cell hrow (List.getElem?_eq_getElem b2)
     have hgl := hrow.lt
     have hsk2 := hsk
     generalize hX : cur[j + 1] = X at *
     generalize hY : cur[j] = Y at *
     have b3 : (j : Int) + 1 < (N : Int) := by omega
     have b4 : (j : Int) < (N : Int) := by omega
     clear hsk2
     have hB := lessEd_is X Y
     cases hL : lessE X Y with
     | false =>
      rw [hL] at hB
      go_wp2_with fail
      refine wp_region_ext_lit (by kernel_rfl) (by kernel_rfl) ?_
      repeat (go_big_quiet_step (exact Calls.ext_of (cmpEd_any _ _ _)))
      refine wpQuiet_nil ?_
      intro we hxe
      go_wp2_with fail
      go_roundw
      case rel => exact ⟨k + 1, by omega, by omega, by go_num, Lib.hid (by rw [hT, ← hsk, sink_no lessE (hX ▸ List.getElem?_eq_getElem b1) (hY ▸ List.getElem?_eq_getElem b2) hL]; exact hrow.mod hxe (fun f => f)), hmi.trans hxe (fun _ _ f => f.elim)⟩
      case measure => simp [intOf]; omega
     | true =>
      rw [hL] at hB
      go_wp2_with fail
      refine wp_region_ext_lit (by kernel_rfl) (by kernel_rfl) ?_
      repeat (go_big_quiet_step (exact Calls.ext_of (cmpEd_any _ _ _)))
      refine wpQuiet_nil ?_
      intro we hxe
      have hrow2 := hrow.mod hxe (fun f => f)
      have Hl := Lib.hid hL
      have Hs := Lib.hid hsk
      clear c0 c1 c2 c3 c4 c5 hB hL hsk hgl hrow
      obtain ⟨c0, c1, c2⟩ := EdRow_cell hrow2 (show cur[j + 1]? = some X by rw [← hX]; exact List.getElem?_eq_getElem b1)
      obtain ⟨c3, c4, c5⟩ := EdRow_cell hrow2 (show cur[j]? = some Y by rw [← hY]; exact List.getElem?_eq_getElem b2)
      have f0 := hrow2.free ((j + 1) * 3)
      have f1 := hrow2.free ((j + 1) * 3 + 1)
      have f2 := hrow2.free ((j + 1) * 3 + 2)
      have f3 := hrow2.free (j * 3)
      have f4 := hrow2.free (j * 3 + 1)
      have f5 := hrow2.free (j * 3 + 2)
      have hgl := hrow2.lt
      go_wp2_with fail
      go_region
      have k1 : cur[j + 1]? = some X := by rw [← hX]; exact List.getElem?_eq_getElem b1
      have k2 : cur[j]? = some Y := by rw [← hY]; exact List.getElem?_eq_getElem b2
      have hrow3 := EdRow_put (EdRow_put hrow2 k1 Y) (i := j) (x := Y) (by rw [List.getElem?_set_ne (by omega)]; exact k2) X
      have Hrow3 := Lib.hid hrow3
      clear c0 c1 c2 c3 c4 c5 f0 f1 f2 f3 f4 f5 hrow3 hrow2
      go_wp2_with fail
      go_roundg (j)
      case rel =>
       refine ⟨j, _, rfl, by omega, by go_num, Lib.hid ⟨Hrow3.out.mod ((Mod.refl (fun _ => False) _).drew) (fun f => f), by simp [hlen], ?_⟩, ?_⟩
       ·rw [← Hs.out, sink_yes lessE k1 k2 Hl.out]
       ·exact (((((((hmi.trans hxe (fun _ _ f => f.elim)).setCell (p := ⟨g, (j + 1) * 3, none⟩) (fun _ => rfl) _).setCell (p := ⟨g, (j + 1) * 3 + 1, none⟩) (fun _ => rfl) _).setCell (p := ⟨g, (j + 1) * 3 + 2, none⟩) (fun _ => rfl) _).setCell (p := ⟨g, j * 3, none⟩) (fun _ => rfl) _).setCell (p := ⟨g, j * 3 + 1, none⟩) (fun _ => rfl) _).setCell (p := ⟨g, j * 3 + 2, none⟩) (fun _ => rfl) _).drew
      case measure => have := Hjc.out; omega
  ·have hlt' : ¬ (k : Int) < (N : Int) := by omega
   obtain rfl : k = N := by omega
   go_wp2_with fail
   go_end0
   exact ⟨rfl, HR.out, hm⟩
theorem stableEd_any (g cap : Nat) (l : List Ed) (w : World) (hr : edE.Row w g 59 l) (h0 : 0 < l.length) (hn : l.length ≤ 19) :
  Calls Tryz.prog 110 #[.slice (some ⟨g, 0, none⟩) l.length cap, .int .i64 l.length, .func (.func 74) #[] #[]] w
   fun e w' => e = .returned (.tuple #[]) ∧ edE.Row w' g 59 (sorted lessE l) ∧ Mod (· = g) w w' := by
 have hi := insertEd_any g cap l w hr h0 (by omega)
 rw [isort_all] at hi
 have Hi := Lib.hid hi
 have j1 : ¬ (20 : Int) ≤ (l.length : Int) := by omega
 have j2 : ¬ (20 : Int) < (l.length : Int) := by omega
 have j3 : ¬ 20 ≤ l.length := by omega
 have j4 : ¬ 20 < l.length := by omega
 clear hi hr h0 hn
 go_enter Tryz.func110, Tryz.ntmps110
 go_wp2_with fail
 refine wp_loop_rounds 1 ?_
 rw [rounds_succ]
 go_wp2_with fail
 refine Hi.out.mono ?_
 rintro e w1 ⟨rfl, hr, hm⟩
 go_wp2_with fail
 refine wp_loop_rounds 1 ?_
 rw [rounds_succ]
 go_wp2_with fail
 go_end0
 exact ⟨rfl, hr, hm⟩
theorem sortEd_any (g cap : Nat) (l : List Ed) (w : World) (hr : edE.Row w g 59 l) (h0 : 0 < l.length) (hn : l.length ≤ 19) :
  Calls Tryz.prog 73 #[.slice (some ⟨g, 0, none⟩) l.length cap, .func (.func 74) #[] #[]] w
   fun e w' => e = .returned (.tuple #[]) ∧ edE.Row w' g 59 (sorted lessE l) ∧ Mod (· = g) w w' := by
 have Hi := Lib.hid (stableEd_any g cap l w hr h0 hn)
 clear hr h0 hn
 go_enter Tryz.func73, Tryz.ntmps73
 go_wp2_with fail
 refine Hi.out.mono ?_
 rintro e w1 ⟨rfl, hr, hm⟩
 go_wp2_with fail
 go_end0
 exact ⟨rfl, hr, hm⟩
theorem insertEd_none (ao : Option Addr) (cap : Nat) (w : World) : Calls Tryz.prog 144 #[.slice ao 0 cap, .int .i64 0, .int .i64 0, .func (.func 74) #[] #[]] w fun e w' => e = .returned (.tuple #[]) ∧ w' = w := by
 go_enter Tryz.func144, Tryz.ntmps144
 go_wp2_with fail
 refine wp_loop_rounds 1 ?_
 rw [rounds_succ]
 go_wp2_with fail
 go_end0
 exact ⟨rfl, rfl⟩
theorem stableEd_none (ao : Option Addr) (cap : Nat) (w : World) : Calls Tryz.prog 110 #[.slice ao 0 cap, .int .i64 0, .func (.func 74) #[] #[]] w fun e w' => e = .returned (.tuple #[]) ∧ w' = w := by
 go_enter Tryz.func110, Tryz.ntmps110
 go_wp2_with fail
 refine wp_loop_rounds 1 ?_
 rw [rounds_succ]
 go_wp2_with fail
 refine (insertEd_none ao cap w).mono ?_
 rintro e w1 ⟨rfl, rfl⟩
 go_wp2_with fail
 refine wp_loop_rounds 1 ?_
 rw [rounds_succ]
 go_wp2_with fail
 go_end0
 exact ⟨rfl, rfl⟩
theorem sortEd_none (ao : Option Addr) (cap : Nat) (w : World) : Calls Tryz.prog 73 #[.slice ao 0 cap, .func (.func 74) #[] #[]] w fun e w' => e = .returned (.tuple #[]) ∧ w' = w := by
 go_enter Tryz.func73, Tryz.ntmps73
 go_wp2_with fail
 refine (stableEd_none ao cap w).mono ?_
 rintro e w1 ⟨rfl, rfl⟩
 go_wp2_with fail
 go_end0
 exact ⟨rfl, rfl⟩
theorem cloneEd_some (b off cap : Nat) (l : List Ed) (w : World) (hr : Reads w 3 (some ⟨b, off, none⟩) l.length (edE.cells l)) (h0 : 0 < l.length) (hn : l.length ≤ 1000000) :
  Calls Tryz.prog 72 #[.slice (some ⟨b, off, none⟩) l.length cap] w (edE.New 59 l w) := by
 have hnil := fun w' => Lib.run_eql_slice_nil (P := Tryz.prog) w' 35 59 (some ⟨b, off, none⟩) l.length cap 0 0 Tryz.underlying35
 have ha : Ext w (w.alloc (.cells #[] 59)) := (Mod.refl _ w).alloc _
 have hr2 := hr.mod ha (fun _ _ f => f)
 obtain ⟨N, hN⟩ : ∃ N, N = l.length := ⟨_, rfl⟩
 unfold Enc.New
 rw [← hN] at h0 hn hr2 hnil ⊢
 clear hN hr
 go_enter Tryz.func72, Tryz.ntmps72
 go_wp2_with (at_builtin; refine wpList_append_reads rfl _ _ 35 rfl w.heap.size 59 _ 3 32 Tryz.info59 Tryz.underlying35 rfl (by decide) _ 0 [] rfl (World.ownsRow_lit w #[] 0 (Nat.le_refl _) (by unfold maxLen; omega) rfl) _ N cap (edE.cells l) rfl hr2 (edE.cells_one l) (by unfold maxLen; omega) (by omega) (by simp) ?_)
 intro v' w4 hown hm4 hbk
 obtain ⟨g, cx', rfl⟩ := Enc.owns_some (E := edE) hown h0
 have hx4 : Ext w w4 := ha.trans hm4 (fun i hi e => by cases e; exact absurd hi (Nat.lt_irrefl _))
 have HO := Lib.hid hown
 clear hm4 hbk hown
 go_wp2_with fail
 go_ret
 exact ⟨g, cx', rfl, HO.out, hx4⟩
theorem cloneEd_nil (cap : Nat) (w : World) :
  Calls Tryz.prog 72 #[.slice none 0 cap] w fun e w' => e = .returned (.slice none 0 0) ∧ w' = w := by
 have hnil := fun w' => Lib.run_eql_slice_nil (P := Tryz.prog) w' 35 59 none 0 cap 0 0 Tryz.underlying35
 go_enter Tryz.func72, Tryz.ntmps72
 go_wp2_with fail
 go_ret
 exact ⟨rfl, rfl⟩
end Go.Proofs.YthlmgoagnfkhdaaGreat
namespace Go.Gim
open Go Go.RowKit
theorem SpRow_put {w : World} {g : Nat} {T : TypeId} {l : List (Int × Int)} (h : prE.Row w g T l) {i : Nat} {x : (Int × Int)} (hx : l[i]? = some x) (y : (Int × Int)) : prE.Row ((w.setCell ⟨g, i * 2, none⟩ (.int .i64 y.1)).setCell ⟨g, i * 2 + 1, none⟩ (.int .i64 y.2)) g T (l.set i y) := by
 have hi := (List.getElem?_eq_some_iff.1 hx).1
 have h0 := Enc.Row.set (E := prE) h hx (j := 0) (by decide) (v := .int .i64 y.1) (y.1, x.2) rfl
 have h1 := Enc.Row.set2 (E := prE) h0 hi (j := 1) (by decide) (v := .int .i64 y.2) (y := (y.1, y.2)) rfl
 exact h1
theorem SpRow_cell {w : World} {g : Nat} {T : TypeId} {l : List (Int × Int)} (h : prE.Row w g T l) {i : Nat} {x : (Int × Int)} (hx : l[i]? = some x) : w.cell? ⟨g, i * 2, none⟩ = some (.int .i64 x.1) ∧ w.cell? ⟨g, i * 2 + 1, none⟩ = some (.int .i64 x.2) :=
 ⟨Enc.Row.cell (E := prE) (j := 0) h hx rfl, Enc.Row.cell (E := prE) (j := 1) h hx rfl⟩
end Go.Gim
namespace Go.Proofs.YthlmgoagnfkhdaaGreat
open Go.RowKit Go.Gim
theorem Tryz.info49 : (Tryz.prog.info? 49).map (fun i => (i.zero, i.size, i.bytes)) = some (some (.agg #[.int .i64 0, .int .i64 0]), 2, 16) := by kernel_rfl
theorem lessSp_is (x y : Int × Int) : decide (cmpB x y < 0) = lessB x y := cmpB_less _ _
theorem cmpSp_any (x y : Int × Int) (w : World) : Calls Tryz.prog 83 #[.agg #[.int .i64 x.1, .int .i64 x.2], .agg #[.int .i64 y.1, .int .i64 y.2]] w fun e w' => e = .returned (.int .i64 (cmpB x y)) ∧ Ext w w' := by
 go_enter Tryz.func83, Tryz.ntmps83
 go_wp2_with fail
 obtain ⟨wa, hwa⟩ : ∃ wa, wa = (w.alloc (.cells #[.int .i64 x.1, .int .i64 x.2] 49)).alloc (.cells #[.int .i64 y.1, .int .i64 y.2] 49) := ⟨_, rfl⟩
 have hxa : Ext w wa := by rw [hwa]; exact ((Mod.refl _ w).alloc _).alloc _
 have hb2 : Blk wa w.heap.size 49 #[.int .i64 x.1, .int .i64 x.2] := by rw [hwa]; exact (Blk.new _ _ _).alloc _
 have hb3 : Blk wa (w.heap.size + 1) 49 #[.int .i64 y.1, .int .i64 y.2] := by
  rw [hwa]; have := Blk.new (w.alloc (.cells #[.int .i64 x.1, .int .i64 x.2] 49)) 49 #[.int .i64 y.1, .int .i64 y.2]; simpa using this
 rw [← hwa]
 clear hwa
 have c0 : wa.cell? ⟨w.heap.size, 0, none⟩ = some (.int .i64 x.1) := hb2.cell 0
 have c1 : wa.cell? ⟨w.heap.size, 1, none⟩ = some (.int .i64 x.2) := hb2.cell 1
 have c2 : wa.cell? ⟨w.heap.size + 1, 0, none⟩ = some (.int .i64 y.1) := hb3.cell 0
 have c3 : wa.cell? ⟨w.heap.size + 1, 1, none⟩ = some (.int .i64 y.2) := hb3.cell 1
 have l2 := hb2.lt
 have l3 := hb3.lt
 refine wp_region_ext_tail 10 (by kernel_rfl) (by kernel_rfl) ?_
 simp only [List.take_succ_cons, List.take_zero, List.drop_succ_cons, List.drop_zero]
 repeat (go_big_quiet_step (exact Calls.ext_of_same (compare_any _ _ _)))
 refine wpQuiet_nil ?_
 intro we hxe
 go_wp2_with fail
 have hb := Blk.new we 3 #[.int .i64 (cmpI x.1 y.1), .int .i64 (cmpI x.2 y.2)]
 refine (or_two _ _ we.heap.size _ (hb.cell 0) (hb.cell 1)).mono ?_
 rintro e w' ⟨rfl, rfl⟩
 clear hb
 go_wp2_with fail
 go_ret
 exact ⟨rfl, (hxa.ext_trans hxe).alloc _⟩
theorem insertSp_any (g cap : Nat) (l : List (Int × Int)) (w : World) (hr : prE.Row w g 49 l) (h0 : 0 < l.length) (hn : l.length ≤ 1000) :
  Calls Tryz.prog 154 #[.slice (some ⟨g, 0, none⟩) l.length cap, .int .i64 0, .int .i64 l.length, .func (.func 83) #[] #[]] w
   fun e w' => e = .returned (.tuple #[]) ∧ prE.Row w' g 49 (isort lessB l l.length) ∧ Mod (· = g) w w' := by
 have H1 := Lib.hid (show prE.Row w g 49 (isort lessB l 1) from hr)
 obtain ⟨N, hN⟩ : ∃ N, N = l.length := ⟨_, rfl⟩
 rw [← hN] at h0 hn ⊢
 have HN := Lib.hid hN
 clear hr hN
 go_enter Tryz.func154, Tryz.ntmps154
 go_wp2_with fail
 go_loopw [8] (fun s8 wr => ∃ k : Nat, 1 ≤ k ∧ k ≤ N ∧ s8 = .int .i64 k ∧ Hid (prE.Row wr g 49 (isort lessB l k)) ∧ Mod (· = g) w wr) (fun s8 _ => N - (intOf s8).toNat)
 case atStart => exact ⟨1, by omega, by omega, rfl, H1, Mod.refl _ _⟩
 case round =>
  obtain ⟨k, hk1, hk, rfl, HR, hm⟩ := hrel
  by_cases hlt : k < N
  ·have hlt' : (k : Int) < (N : Int) := by omega
   obtain ⟨T, hT⟩ : ∃ T, isort lessB l (k + 1) = T := ⟨_, rfl⟩
   have HT := Lib.hid (show sink lessB (isort lessB l k) k = T from hT)
   have HL := Lib.hid (show (isort lessB l k).length = N by rw [isort_length]; exact HN.out.symm)
   go_wp2_with fail
   go_loopg [9] k (fun c s9 wi => ∃ (j : Nat) (cur : List (Int × Int)), j = c ∧ j ≤ k ∧ s9 = .int .i64 j ∧ Hid (prE.Row wi g 49 cur ∧ cur.length = N ∧ sink lessB cur j = T) ∧ Mod (· = g) w wi)
   case atStart => exact ⟨k, _, rfl, Nat.le_refl _, rfl, Lib.hid ⟨HR.out, HL.out, HT.out⟩, hm⟩
   case round =>
    obtain ⟨j, cur, hjc, hj, rfl, HC, hmi⟩ := hrel
    have Hjc := Lib.hid hjc
    clear hjc
    clear HR HT HL hm
    cases j with
    | zero =>
     have e1 : decide ((0 : Int) < 0) = false := rfl
     go_wp2_with fail
     go_quiet (fail)
     go_wp2_with fail
     go_roundw
     case rel => exact ⟨k + 1, by omega, by omega, by go_num, Lib.hid (by rw [hT, ← HC.out.2.2]; exact HC.out.1.mod ((Mod.refl (fun _ => False) _).drewN _) (fun f => f)), hmi.drewN _⟩
     case measure => simp [intOf]; omega
    | succ j =>
     have hj1 : (0 : Int) ≤ (j : Int) := by omega
     have e1 : decide ((0 : Int) < (j : Int) + 1) = true := decide_eq_true (by omega)
     have e2 : IntKind.i64.wrap ((j : Int) + 1 - 1) = (j : Int) := by rw [show (j : Int) + 1 - 1 = j from by omega]; exact IntWalk.i64_in _ (by omega)
     obtain ⟨hrow, hlen, hsk⟩ := HC.out
     have b1 : j + 1 < cur.length := by omega
     have b2 : j < cur.length := by omega
     obtain ⟨c0, c1⟩ := SpRow_cell hrow (List.getElem?_eq_getElem b1)
     obtain ⟨c2, c3⟩ := SpRow_cell hrow (List.getElem?_eq_getElem b2)
     have hgl := hrow.lt
     have hsk2 := hsk
     generalize hX : cur[j + 1] = X at *
     generalize hY : cur[j] = Y at *
     have b3 : (j : Int) + 1 < (N : Int) := by omega
     have b4 : (j : Int) < (N : Int) := by omega
     clear hsk2
     have hB := lessSp_is X Y
     cases hL : lessB X Y with
     | false =>
      rw [hL] at hB
      go_wp2_with fail
      refine wp_region_ext_lit (by kernel_rfl) (by kernel_rfl) ?_
      repeat (go_big_quiet_step (exact Calls.ext_of (cmpSp_any _ _ _)))
      refine wpQuiet_nil ?_
      intro we hxe
      go_wp2_with fail
      go_roundw
      case rel => exact ⟨k + 1, by omega, by omega, by go_num, Lib.hid (by rw [hT, ← hsk, sink_no lessB (hX ▸ List.getElem?_eq_getElem b1) (hY ▸ List.getElem?_eq_getElem b2) hL]; exact hrow.mod hxe (fun f => f)), hmi.trans hxe (fun _ _ f => f.elim)⟩
      case measure => simp [intOf]; omega
     | true =>
      rw [hL] at hB
      go_wp2_with fail
      refine wp_region_ext_lit (by kernel_rfl) (by kernel_rfl) ?_
      repeat (go_big_quiet_step (exact Calls.ext_of (cmpSp_any _ _ _)))
      refine wpQuiet_nil ?_
      intro we hxe
      have hrow2 := hrow.mod hxe (fun f => f)
      have Hl := Lib.hid hL
      have Hs := Lib.hid hsk
      clear c0 c1 c2 c3 hB hL hsk hgl hrow
      obtain ⟨c0, c1⟩ := SpRow_cell hrow2 (show cur[j + 1]? = some X by rw [← hX]; exact List.getElem?_eq_getElem b1)
      obtain ⟨c2, c3⟩ := SpRow_cell hrow2 (show cur[j]? = some Y by rw [← hY]; exact List.getElem?_eq_getElem b2)
      have f0 := hrow2.free ((j + 1) * 2)
      have f1 := hrow2.free ((j + 1) * 2 + 1)
      have f2 := hrow2.free (j * 2)
      have f3 := hrow2.free (j * 2 + 1)
      have hgl := hrow2.lt
      go_wp2_with fail
      go_region
      have k1 : cur[j + 1]? = some X := by rw [← hX]; exact List.getElem?_eq_getElem b1
      have k2 : cur[j]? = some Y := by rw [← hY]; exact List.getElem?_eq_getElem b2
      have hrow3 := SpRow_put (SpRow_put hrow2 k1 Y) (i := j) (x := Y) (by rw [List.getElem?_set_ne (by omega)]; exact k2) X
      have Hrow3 := Lib.hid hrow3
      clear c0 c1 c2 c3 f0 f1 f2 f3 hrow3 hrow2
      go_wp2_with fail
      go_roundg (j)
      case rel =>
       refine ⟨j, _, rfl, by omega, by go_num, Lib.hid ⟨Hrow3.out.mod ((Mod.refl (fun _ => False) _).drew) (fun f => f), by simp [hlen], ?_⟩, ?_⟩
       ·rw [← Hs.out, sink_yes lessB k1 k2 Hl.out]
       ·exact (((((hmi.trans hxe (fun _ _ f => f.elim)).setCell (p := ⟨g, (j + 1) * 2, none⟩) (fun _ => rfl) _).setCell (p := ⟨g, (j + 1) * 2 + 1, none⟩) (fun _ => rfl) _).setCell (p := ⟨g, j * 2, none⟩) (fun _ => rfl) _).setCell (p := ⟨g, j * 2 + 1, none⟩) (fun _ => rfl) _).drew
      case measure => have := Hjc.out; omega
  ·have hlt' : ¬ (k : Int) < (N : Int) := by omega
   obtain rfl : k = N := by omega
   go_wp2_with fail
   go_end0
   exact ⟨rfl, HR.out, hm⟩
theorem stableSp_any (g cap : Nat) (l : List (Int × Int)) (w : World) (hr : prE.Row w g 49 l) (h0 : 0 < l.length) (hn : l.length ≤ 19) :
  Calls Tryz.prog 120 #[.slice (some ⟨g, 0, none⟩) l.length cap, .int .i64 l.length, .func (.func 83) #[] #[]] w
   fun e w' => e = .returned (.tuple #[]) ∧ prE.Row w' g 49 (sorted lessB l) ∧ Mod (· = g) w w' := by
 have hi := insertSp_any g cap l w hr h0 (by omega)
 rw [isort_all] at hi
 have Hi := Lib.hid hi
 have j1 : ¬ (20 : Int) ≤ (l.length : Int) := by omega
 have j2 : ¬ (20 : Int) < (l.length : Int) := by omega
 have j3 : ¬ 20 ≤ l.length := by omega
 have j4 : ¬ 20 < l.length := by omega
 clear hi hr h0 hn
 go_enter Tryz.func120, Tryz.ntmps120
 go_wp2_with fail
 refine wp_loop_rounds 1 ?_
 rw [rounds_succ]
 go_wp2_with fail
 refine Hi.out.mono ?_
 rintro e w1 ⟨rfl, hr, hm⟩
 go_wp2_with fail
 refine wp_loop_rounds 1 ?_
 rw [rounds_succ]
 go_wp2_with fail
 go_end0
 exact ⟨rfl, hr, hm⟩
theorem sortSp_any (g cap : Nat) (l : List (Int × Int)) (w : World) (hr : prE.Row w g 49 l) (h0 : 0 < l.length) (hn : l.length ≤ 19) :
  Calls Tryz.prog 82 #[.slice (some ⟨g, 0, none⟩) l.length cap, .func (.func 83) #[] #[]] w
   fun e w' => e = .returned (.tuple #[]) ∧ prE.Row w' g 49 (sorted lessB l) ∧ Mod (· = g) w w' := by
 have Hi := Lib.hid (stableSp_any g cap l w hr h0 hn)
 clear hr h0 hn
 go_enter Tryz.func82, Tryz.ntmps82
 go_wp2_with fail
 refine Hi.out.mono ?_
 rintro e w1 ⟨rfl, hr, hm⟩
 go_wp2_with fail
 go_end0
 exact ⟨rfl, hr, hm⟩
theorem insertSp_none (ao : Option Addr) (cap : Nat) (w : World) : Calls Tryz.prog 154 #[.slice ao 0 cap, .int .i64 0, .int .i64 0, .func (.func 83) #[] #[]] w fun e w' => e = .returned (.tuple #[]) ∧ w' = w := by
 go_enter Tryz.func154, Tryz.ntmps154
 go_wp2_with fail
 refine wp_loop_rounds 1 ?_
 rw [rounds_succ]
 go_wp2_with fail
 go_end0
 exact ⟨rfl, rfl⟩
theorem stableSp_none (ao : Option Addr) (cap : Nat) (w : World) : Calls Tryz.prog 120 #[.slice ao 0 cap, .int .i64 0, .func (.func 83) #[] #[]] w fun e w' => e = .returned (.tuple #[]) ∧ w' = w := by
 go_enter Tryz.func120, Tryz.ntmps120
 go_wp2_with fail
 refine wp_loop_rounds 1 ?_
 rw [rounds_succ]
 go_wp2_with fail
 refine (insertSp_none ao cap w).mono ?_
 rintro e w1 ⟨rfl, rfl⟩
 go_wp2_with fail
 refine wp_loop_rounds 1 ?_
 rw [rounds_succ]
 go_wp2_with fail
 go_end0
 exact ⟨rfl, rfl⟩
theorem sortSp_none (ao : Option Addr) (cap : Nat) (w : World) : Calls Tryz.prog 82 #[.slice ao 0 cap, .func (.func 83) #[] #[]] w fun e w' => e = .returned (.tuple #[]) ∧ w' = w := by
 go_enter Tryz.func82, Tryz.ntmps82
 go_wp2_with fail
 refine (stableSp_none ao cap w).mono ?_
 rintro e w1 ⟨rfl, rfl⟩
 go_wp2_with fail
 go_end0
 exact ⟨rfl, rfl⟩
theorem cloneSp_some (b off cap : Nat) (l : List (Int × Int)) (w : World) (hr : Reads w 2 (some ⟨b, off, none⟩) l.length (prE.cells l)) (h0 : 0 < l.length) (hn : l.length ≤ 1000000) :
  Calls Tryz.prog 85 #[.slice (some ⟨b, off, none⟩) l.length cap] w (prE.New 49 l w) := by
 have hnil := fun w' => Lib.run_eql_slice_nil (P := Tryz.prog) w' 114 49 (some ⟨b, off, none⟩) l.length cap 0 0 Tryz.underlying114
 have ha : Ext w (w.alloc (.cells #[] 49)) := (Mod.refl _ w).alloc _
 have hr2 := hr.mod ha (fun _ _ f => f)
 obtain ⟨N, hN⟩ : ∃ N, N = l.length := ⟨_, rfl⟩
 unfold Enc.New
 rw [← hN] at h0 hn hr2 hnil ⊢
 clear hN hr
 go_enter Tryz.func85, Tryz.ntmps85
 go_wp2_with (at_builtin; refine wpList_append_reads rfl _ _ 114 rfl w.heap.size 49 _ 2 16 Tryz.info49 Tryz.underlying114 rfl (by decide) _ 0 [] rfl (World.ownsRow_lit w #[] 0 (Nat.le_refl _) (by unfold maxLen; omega) rfl) _ N cap (prE.cells l) rfl hr2 (prE.cells_one l) (by unfold maxLen; omega) (by omega) (by simp) ?_)
 intro v' w4 hown hm4 hbk
 obtain ⟨g, cx', rfl⟩ := Enc.owns_some (E := prE) hown h0
 have hx4 : Ext w w4 := ha.trans hm4 (fun i hi e => by cases e; exact absurd hi (Nat.lt_irrefl _))
 have HO := Lib.hid hown
 clear hm4 hbk hown
 go_wp2_with fail
 go_ret
 exact ⟨g, cx', rfl, HO.out, hx4⟩
theorem cloneSp_nil (cap : Nat) (w : World) :
  Calls Tryz.prog 85 #[.slice none 0 cap] w fun e w' => e = .returned (.slice none 0 0) ∧ w' = w := by
 have hnil := fun w' => Lib.run_eql_slice_nil (P := Tryz.prog) w' 114 49 none 0 cap 0 0 Tryz.underlying114
 go_enter Tryz.func85, Tryz.ntmps85
 go_wp2_with fail
 go_ret
 exact ⟨rfl, rfl⟩
end Go.Proofs.YthlmgoagnfkhdaaGreat
namespace Go.Gim
theorem apartB_yes {l : List (Int × Int)} (h : ∀ i, i < l.length → okAt (sorted lessB l) i = true) : apartB l = true :=
 List.all_eq_true.2 (fun i hi => h i (List.mem_range.1 hi))
theorem apartB_no {l : List (Int × Int)} {i : Nat} (hi : i < l.length) (h : okAt (sorted lessB l) i = false) : apartB l = false := by
 rw [Bool.eq_false_iff]
 intro ha
 rw [List.all_eq_true.1 ha i (List.mem_range.2 hi)] at h
 cases h
end Go.Gim
namespace Go.Proofs.YthlmgoagnfkhdaaGreat
open Go.RowKit Go.Gim
theorem apart_some (b off cap : Nat) (l : List (Int × Int)) (w : World) (hr : Reads w 2 (some ⟨b, off, none⟩) l.length (prE.cells l)) (h0 : 0 < l.length) (hn : l.length ≤ 19) :
  Calls Tryz.prog 56 #[.slice (some ⟨b, off, none⟩) l.length cap] w fun e w' => e = .returned (.bool (apartB l)) ∧ Ext w w' := by
 have Hc := Lib.hid (cloneSp_some b off cap l w hr h0 (by omega))
 have Hs := Lib.hid (fun g c w' (h : prE.Row w' g 49 l) => sortSp_any g c l w' h h0 hn)
 unfold Enc.New at Hc
 have Hyes := Lib.hid (apartB_yes (l := l))
 have Hno := Lib.hid (fun i hi h => apartB_no (l := l) (i := i) hi h)
 have Hsl := Lib.hid (sorted_length lessB l)
 generalize sorted lessB l = S at *
 generalize apartB l = B at *
 obtain ⟨N, hN⟩ : ∃ N, N = l.length := ⟨_, rfl⟩
 rw [← hN] at h0 hn Hyes Hno Hsl Hc Hs ⊢
 clear hr hN
 go_enter Tryz.func56, Tryz.ntmps56
 go_wp2_with fail
 refine Hc.out.mono ?_
 rintro e w1 ⟨g, c, rfl, hown, hx1⟩
 have hrow1 := Enc.Row.of_owns (E := prE) hown
 have hg := (Enc.owns_block (E := prE) hown).1
 clear hown
 go_wp2_with fail
 refine (Hs.out g c w1 hrow1).mono ?_
 rintro e w2 ⟨rfl, hrow2, hm2⟩
 have hx2 : Ext w w2 := hx1.trans hm2 (fun i hi e => by omega)
 have Hrow := Lib.hid hrow2
 clear hrow1 hrow2 hm2 hx1 Hc Hs
 go_wp2_with fail
 go_loopw [12] (fun s12 wr => ∃ k : Nat, k ≤ N ∧ s12 = .int .i64 k ∧ Hid (prE.Row wr g 49 S ∧ ∀ i, i < k → okAt S i = true) ∧ Ext w wr) (fun s12 _ => N - (intOf s12).toNat)
 case atStart => exact ⟨0, by omega, rfl, Lib.hid ⟨Hrow.out, fun i hi => absurd hi (Nat.not_lt_zero i)⟩, hx2⟩
 case round =>
  clear Hrow hx2
  obtain ⟨k, hk, rfl, HK, hx⟩ := hrel
  by_cases hlt : k < N
  ·have hlt' : (k : Int) < (N : Int) := by omega
   have hk0 : (0 : Int) ≤ (k : Int) := by omega
   have hkS : S[k]? = some (S[k]'(by rw [Hsl.out]; exact hlt)) := List.getElem?_eq_getElem _
   obtain ⟨c0, c1⟩ := SpRow_cell HK.out.1 hkS
   have hgl := HK.out.1.lt
   have hok := okAt_is hkS
   generalize S[k]'(by rw [Hsl.out]; exact hlt) = x at *
   have Hok := Lib.hid hok
   have Hk := Lib.hid hlt
   clear hok hkS
   by_cases h1 : x.2 < x.1
   ·have b1 : decide (x.2 < x.1) = true := decide_eq_true h1
    have Hb := Lib.hid (Hno.out k hlt (by rw [Hok.out, b1]; rfl))
    go_wp2_with fail
    go_quiet (fail)
    go_wp2_with fail
    go_ret
    exact ⟨ret_bool Hb.out.symm, ((hx.alloc _).drewN _)⟩
   ·have b1 : decide (x.2 < x.1) = false := decide_eq_false h1
    cases k with
    | zero =>
     have b2 : decide ((0 : Int) < 0) = false := rfl
     have Ho := Lib.hid (show okAt S 0 = true by rw [Hok.out, b1]; rfl)
     go_wp2_with fail
     go_quiet (fail)
     go_wp2_with fail
     go_roundw
     case rel => exact ⟨1, by omega, by go_num, Lib.hid ⟨HK.out.1.mod (((Mod.refl (fun _ => False) _).alloc _).drewN _) (fun f => f), fun i hi => (show i = 0 by omega) ▸ Ho.out⟩, (hx.alloc _).drewN _⟩
     case measure => simp [intOf]; omega
    | succ j =>
     have hjS : S[j]? = some (S[j]'(by rw [Hsl.out]; omega)) := List.getElem?_eq_getElem _
     obtain ⟨d0, d1⟩ := SpRow_cell HK.out.1 hjS
     have hok2 : okAt S (j + 1) = (!decide (x.2 < x.1) && apart1 x (some (S[j]'(by rw [Hsl.out]; omega)))) := by rw [Hok.out]; show (_ && apart1 x S[j]?) = _; rw [hjS]
     generalize S[j]'(by rw [Hsl.out]; omega) = y at *
     rw [b1] at hok2
     have b2 : decide ((0 : Int) < (j : Int) + 1) = true := decide_eq_true (by omega)
     have e2 : IntKind.i64.wrap ((j : Int) + 1 - 1) = (j : Int) := by rw [show (j : Int) + 1 - 1 = j from by omega]; exact IntWalk.i64_in _ (by omega)
     have e3 : (0 : Int) ≤ (j : Int) := by omega
     have e4 : (j : Int) < (N : Int) := by omega
     have e5 : (j : Int) ≤ 19 := by omega
     cases h2 : (x.1 == y.1) with
     | true =>
      have Hb := Lib.hid (Hno.out (j + 1) hlt (by rw [hok2]; show (!false && !(decide (x.1 = y.1) || decide (x.1 < y.2))) = _; rw [decide_eq_true (show x.1 = y.1 by simpa using h2)]; rfl))
      clear hok2 hjS Hok
      go_wp2_with fail
      go_quiet (fail)
      go_wp2_with fail
      go_ret
      exact ⟨ret_bool Hb.out.symm, ((hx.alloc _).drewN _)⟩
     | false =>
      by_cases h3 : x.1 < y.2
      ·have b3 : decide (x.1 < y.2) = true := decide_eq_true h3
       have Hb := Lib.hid (Hno.out (j + 1) hlt (by rw [hok2]; show (!false && !(decide (x.1 = y.1) || decide (x.1 < y.2))) = _; rw [b3, Bool.or_true]; rfl))
       clear hok2 hjS Hok
       go_wp2_with fail
       go_quiet (fail)
       go_wp2_with fail
       go_ret
       exact ⟨ret_bool Hb.out.symm, ((hx.alloc _).drewN _)⟩
      ·have b3 : decide (x.1 < y.2) = false := decide_eq_false h3
       have Ho := Lib.hid (show okAt S (j + 1) = true by rw [hok2]; show (!false && !(decide (x.1 = y.1) || decide (x.1 < y.2))) = _; rw [b3, decide_eq_false (show ¬ x.1 = y.1 by simpa using h2)]; rfl)
       clear hok2 hjS Hok
       go_wp2_with fail
       go_quiet (fail)
       go_wp2_with fail
       go_roundw
       case rel =>
        refine ⟨j + 2, by have := Hk.out; omega, by go_num, Lib.hid ⟨HK.out.1.mod (((Mod.refl (fun _ => False) _).alloc _).drewN _) (fun f => f), fun i hi => ?_⟩, (hx.alloc _).drewN _⟩
        by_cases e : i = j + 1
        ·rw [e]; exact Ho.out
        ·exact HK.out.2 i (by omega)
       case measure => simp [intOf]; omega
  ·have hlt' : ¬ (k : Int) < (N : Int) := by omega
   obtain rfl : k = N := by omega
   have Hb := Lib.hid (Hyes.out HK.out.2)
   go_wp2_with fail
   go_ret
   exact ⟨ret_bool Hb.out.symm, hx⟩
theorem apart_none (cap : Nat) (w : World) : Calls Tryz.prog 56 #[.slice none 0 cap] w fun e w' => e = .returned (.bool (apartB [])) ∧ Ext w w' := by
 go_enter Tryz.func56, Tryz.ntmps56
 go_wp2_with fail
 refine (cloneSp_nil cap w).mono ?_
 rintro e w1 ⟨rfl, rfl⟩
 go_wp2_with fail
 refine (sortSp_none none 0 w1).mono ?_
 rintro e w1 ⟨rfl, rfl⟩
 go_wp2_with fail
 refine wp_loop_rounds 1 ?_
 rw [rounds_succ]
 go_wp2_with fail
 go_ret
 exact ⟨rfl, Mod.refl _ _⟩
def NilOr (ao : Option Addr) (n : Nat) : Prop := n = 0 → ao = none
theorem apart_any (ao : Option Addr) (cap : Nat) (l : List (Int × Int)) (w : World) (hr : Reads w 2 ao l.length (prE.cells l)) (h0 : NilOr ao l.length) (hn : l.length ≤ 19) :
  Calls Tryz.prog 56 #[.slice ao l.length cap] w fun e w' => e = .returned (.bool (apartB l)) ∧ Ext w w' := by
 cases l with
 | nil => rw [h0 rfl]; exact apart_none cap w
 | cons x r =>
  obtain ⟨b, off, rfl⟩ := hr.some (by simp)
  exact apart_some b off cap (x :: r) w hr (by simp) hn
theorem revEd_any (g cap : Nat) (l : List Ed) (w : World) (hr : edE.Row w g 59 l) (hn : l.length ≤ 1000000) :
  Calls Tryz.prog 100 #[.slice (some ⟨g, 0, none⟩) l.length cap] w
   fun e w' => e = .returned (.tuple #[]) ∧ edE.Row w' g 59 l.reverse ∧ Mod (· = g) w w' := by
 have H0 := Lib.hid (show edE.Row w g 59 (revTo l 0) from hr)
 have Hall := Lib.hid (fun k h1 h2 => revTo_all l (k := k) h1 h2)
 have Hlen := Lib.hid (revTo_len l)
 have Hst := Lib.hid (fun k x y hx hy => revTo_step (l := l) (k := k) (x := x) (y := y) hx hy)
 generalize l.reverse = L' at *
 generalize hF : revTo l = F at *
 obtain ⟨N, hN⟩ : ∃ N, N = l.length := ⟨_, rfl⟩
 rw [← hN] at hn Hall Hlen Hst ⊢
 clear hr hN hF
 go_enter Tryz.func100, Tryz.ntmps100
 go_wp2_with fail
 go_loopw [2, 3] (fun s2 s3 wr => ∃ k : Nat, 2 * k ≤ N + 1 ∧ s2 = .int .i64 k ∧ s3 = .int .i64 ((N : Int) - 1 - k) ∧ Hid (2 * k ≤ N ∧ edE.Row wr g 59 (F k)) ∧ Mod (· = g) w wr) (fun s2 _ _ => N - (intOf s2).toNat)
 case atStart => exact ⟨0, by omega, rfl, by go_num, Lib.hid ⟨by omega, H0.out⟩, Mod.refl _ _⟩
 case round =>
  clear H0
  obtain ⟨k, hk, rfl, rfl, HK, hm⟩ := hrel
  by_cases hlt : (k : Int) < (N : Int) - 1 - k
  ·have hk0 : (0 : Int) ≤ (k : Int) := by omega
   have hkN : (k : Int) < (N : Int) := by omega
   obtain ⟨m, hmk⟩ : ∃ m : Nat, m = N - 1 - k := ⟨_, rfl⟩
   have hms : (N : Int) - 1 - k = (m : Int) := by omega
   have hm0 : (0 : Int) ≤ (m : Int) := by omega
   have hmN : (m : Int) < (N : Int) := by omega
   have hmk2 : m ≠ k := by omega
   have hlt2 : (k : Int) < (m : Int) := by omega
   have hkx : (F k)[k]? = some ((F k)[k]'(by rw [Hlen.out]; omega)) := List.getElem?_eq_getElem _
   have hmx : (F k)[m]? = some ((F k)[m]'(by rw [Hlen.out]; omega)) := List.getElem?_eq_getElem _
   have hst := Hst.out k _ _ hkx (by rw [← hmk]; exact hmx)
   rw [← hmk] at hst
   obtain ⟨c0, c1, c2⟩ := EdRow_cell HK.out.2 hkx
   obtain ⟨c3, c4, c5⟩ := EdRow_cell HK.out.2 hmx
   have f0 := HK.out.2.free (k * 3)
   have f1 := HK.out.2.free (k * 3 + 1)
   have f2 := HK.out.2.free (k * 3 + 2)
   have f3 := HK.out.2.free (m * 3)
   have f4 := HK.out.2.free (m * 3 + 1)
   have f5 := HK.out.2.free (m * 3 + 2)
   have hgl := HK.out.2.lt
   generalize (F k)[k]'(by rw [Hlen.out]; omega) = X at *
   generalize (F k)[m]'(by rw [Hlen.out]; omega) = Y at *
   have hrow3 := EdRow_put (EdRow_put HK.out.2 hkx Y) (i := m) (x := Y) (by rw [List.getElem?_set_ne (by omega)]; exact hmx) X
   have Hrow3 := Lib.hid hrow3
   have Hst3 := Lib.hid hst
   have Hm := Lib.hid hmk
   have Hms := Lib.hid hms
   rw [hms]
   clear hrow3 hst hkx hmx hmk hms hlt
   go_wp2_with fail
   go_region
   clear c0 c1 c2 c3 c4 c5 f0 f1 f2 f3 f4 f5
   go_wp2_with fail
   go_roundw
   case rel =>
    refine ⟨k + 1, by have := Hm.out; omega, by go_num, by have := Hms.out; go_num, Lib.hid ⟨by have := Hm.out; omega, ?_⟩, ?_⟩
    ·rw [Hst3.out]
     exact Hrow3.out.mod ((Mod.refl (fun _ => False) _).drew) (fun f => f)
    ·exact ((((((hm.setCell (p := ⟨g, k * 3, none⟩) (fun _ => rfl) _).setCell (p := ⟨g, k * 3 + 1, none⟩) (fun _ => rfl) _).setCell (p := ⟨g, k * 3 + 2, none⟩) (fun _ => rfl) _).setCell (p := ⟨g, m * 3, none⟩) (fun _ => rfl) _).setCell (p := ⟨g, m * 3 + 1, none⟩) (fun _ => rfl) _).setCell (p := ⟨g, m * 3 + 2, none⟩) (fun _ => rfl) _).drew
   case measure => simp [intOf]; omega
  ·have hN2 := HK.out.1
   have Hk := Lib.hid (show N ≤ 2 * k + 1 by omega)
   go_wp2_with fail
   go_end0
   exact ⟨rfl, by rw [← Hall.out k HK.out.1 Hk.out]; exact HK.out.2, hm⟩
theorem revEd_none (ao : Option Addr) (cap : Nat) (w : World) : Calls Tryz.prog 100 #[.slice ao 0 cap] w fun e w' => e = .returned (.tuple #[]) ∧ w' = w := by
 go_enter Tryz.func100, Tryz.ntmps100
 go_wp2_with fail
 refine wp_loop_rounds 1 ?_
 rw [rounds_succ]
 go_wp2_with fail
 go_end0
 exact ⟨rfl, rfl⟩
theorem sortC_some (b off cap : Nat) (l : List Ed) (w : World) (hr : Reads w 3 (some ⟨b, off, none⟩) l.length (edE.cells l)) (h0 : 0 < l.length) (hn : l.length ≤ 19) :
  Calls Tryz.prog 48 #[.slice (some ⟨b, off, none⟩) l.length cap] w fun e w' => ∃ g c, e = .returned (.slice (some ⟨g, 0, none⟩) l.length c) ∧ w.heap.size ≤ g ∧ edE.Row w' g 59 (sorted lessE l) ∧ Ext w w' := by
 have Hc := Lib.hid (cloneEd_some b off cap l w hr h0 (by omega))
 have Hs := Lib.hid (fun g c w' (h : edE.Row w' g 59 l) => sortEd_any g c l w' h h0 hn)
 unfold Enc.New at Hc
 generalize sorted lessE l = S at *
 obtain ⟨N, hN⟩ : ∃ N, N = l.length := ⟨_, rfl⟩
 rw [← hN] at h0 hn Hc Hs ⊢
 clear hr hN
 go_enter Tryz.func48, Tryz.ntmps48
 go_wp2_with fail
 refine Hc.out.mono ?_
 rintro e w1 ⟨g, c, rfl, hown, hx1⟩
 have hrow1 := Enc.Row.of_owns (E := edE) hown
 have hg := (Enc.owns_block (E := edE) hown).1
 clear hown
 go_wp2_with fail
 refine (Hs.out g c w1 hrow1).mono ?_
 rintro e w2 ⟨rfl, hrow2, hm2⟩
 have hx2 : Ext w w2 := hx1.trans hm2 (fun i hi e => by omega)
 have Hrow := Lib.hid hrow2
 clear hrow1 hrow2 hm2 hx1 Hc Hs
 go_wp2_with fail
 go_ret
 exact ⟨g, c, rfl, hg, Hrow.out, hx2⟩
theorem sortC_none (cap : Nat) (w : World) : Calls Tryz.prog 48 #[.slice none 0 cap] w fun e w' => e = .returned (.slice none 0 0) ∧ w' = w := by
 go_enter Tryz.func48, Tryz.ntmps48
 go_wp2_with fail
 refine (cloneEd_nil cap w).mono ?_
 rintro e w1 ⟨rfl, rfl⟩
 go_wp2_with fail
 refine (sortEd_none none 0 w1).mono ?_
 rintro e w1 ⟨rfl, rfl⟩
 go_wp2_with fail
 go_ret
 exact ⟨rfl, rfl⟩
theorem spLen_any (x : Int × Int) (w : World) (h1 : -1000000000 ≤ x.2 - x.1) (h2 : x.2 - x.1 ≤ 1000000000) : Calls Tryz.prog 25 #[.agg #[.int .i64 x.1, .int .i64 x.2]] w fun e w' => e = .returned (.int .i64 (x.2 - x.1)) ∧ Ext w w' := by
 go_enter Tryz.func25, Tryz.ntmps25
 go_wp2_with fail
 go_ret
 exact ⟨rfl, (Mod.refl _ w).alloc _⟩
theorem fold_step {α β : Type} (f : β → α → β) (b : β) {l : List α} {k : Nat} {x : α} (hx : l[k]? = some x) : (l.take (k + 1)).foldl f b = f ((l.take k).foldl f b) x := by
 have hk := (List.getElem?_eq_some_iff.1 hx).1
 have he := (List.getElem?_eq_some_iff.1 hx).2
 rw [List.take_succ_eq_append_getElem hk, List.foldl_append, he]; rfl
theorem moveC_some (right : Bool) (o : Int) (b off cap : Nat) (l : List Ed) (w : World) (hr : Reads w 3 (some ⟨b, off, none⟩) l.length (edE.cells l)) (h0 : 0 < l.length) (hn : l.length ≤ 19) (hok : ∀ e ∈ l, EdOk e) (ho0 : 0 ≤ o) (ho1 : o ≤ 1000000000) :
  Calls Tryz.prog 68 #[.int .i64 o, .bool right, .slice (some ⟨b, off, none⟩) l.length cap] w fun e w' => e = .returned (.int .i64 (moveE right l o)) ∧ Ext w w' := by
 have Hs := Lib.hid (sortC_some b off cap l w hr h0 hn)
 have hRok : ∀ e ∈ (sorted lessE l).reverse, EdOk e := fun e he => hok e ((sorted_mem lessE l e).1 (List.mem_reverse.1 he))
 have hRl : (sorted lessE l).reverse.length = l.length := by rw [List.length_reverse, sorted_length]
 have hv := Lib.hid (fun g c w' (h : edE.Row w' g 59 (sorted lessE l)) => revEd_any g c (sorted lessE l) w' h (by rw [sorted_length]; omega))
 rw [sorted_length] at hv
 unfold moveE
 generalize sorted lessE l = S at *
 generalize S.reverse = R at *
 obtain ⟨N, hN⟩ : ∃ N, N = l.length := ⟨_, rfl⟩
 rw [← hN] at h0 hn hRl Hs hv ⊢
 have HRl := Lib.hid hRl
 have HRok := Lib.hid hRok
 clear hr hN hok hRl hRok
 obtain ⟨Z, hZ⟩ : ∃ Z, R.foldl (oneE right) o = Z := ⟨_, rfl⟩
 rw [hZ]
 have HZ := Lib.hid hZ
 clear hZ
 go_enter Tryz.func68, Tryz.ntmps68
 go_wp2_with fail
 refine Hs.out.mono ?_
 rintro e w1 ⟨g, c, rfl, hg, hrow1, hx1⟩
 clear Hs
 go_wp2_with fail
 refine (hv.out g c w1 hrow1).mono ?_
 rintro e w2 ⟨rfl, hrow2, hm2⟩
 have hx2 : Ext w w2 := hx1.trans hm2 (fun i hi e => by omega)
 have Hrow := Lib.hid hrow2
 have Hg := Lib.hid hg
 clear hrow1 hrow2 hm2 hx1 hv hg
 go_wp2_with fail
 go_loopw [0, 16] (fun s0 s16 wr => ∃ (k : Nat) (q : Int), k ≤ N ∧ s0 = .int .i64 q ∧ s16 = .int .i64 k ∧ 0 ≤ q ∧ q ≤ 1000000000 + k * 100000 ∧ Hid (edE.Row wr g 59 R ∧ (R.take k).foldl (oneE right) o = q) ∧ Ext w wr) (fun _ s16 _ => N - (intOf s16).toNat)
 case atStart => exact ⟨0, o, by omega, rfl, rfl, ho0, by omega, Lib.hid ⟨Hrow.out, rfl⟩, hx2⟩
 case round =>
  clear Hrow hx2
  obtain ⟨k, q, hk, rfl, rfl, hq0, hq1, HK, hx⟩ := hrel
  by_cases hlt : k < N
  ·have hlt' : (k : Int) < (N : Int) := by omega
   have hk0 : (0 : Int) ≤ (k : Int) := by omega
   have hkR : R[k]? = some (R[k]'(by rw [HRl.out]; exact hlt)) := List.getElem?_eq_getElem _
   obtain ⟨c0, c1, c2⟩ := EdRow_cell HK.out.1 hkR
   have hgl := HK.out.1.lt
   have hst := fold_step (oneE right) o hkR
   rw [HK.out.2] at hst
   have hxo := HRok.out _ (List.mem_of_getElem? hkR)
   have hbd := oneE_bd (right := right) hxo hq0 hq1 (by omega)
   generalize R[k]'(by rw [HRl.out]; exact hlt) = x at *
   have Hst := Lib.hid hst
   have Hbd := Lib.hid hbd
   obtain ⟨x0, x1, x2, x3⟩ := hxo
   have Hlt := Lib.hid hlt
   clear hst hkR hbd
   unfold oneE at Hbd
   have Hst2 := Lib.hid (show (R.take (k + 1)).foldl (oneE right) o = (if q < x.a then q else if x.b < q then q + ((x.t.size : Int) - (x.b - x.a)) else if right then x.a + x.t.size else x.a) from Hst.out)
   clear Hst
   by_cases h1 : q < x.a
   ·have b1 : decide (q < x.a) = true := decide_eq_true h1
    have H2 := Hst2.out
    have B2 := Hbd.out
    rw [if_pos h1] at H2 B2
    have H3 := Lib.hid H2
    have B3 := Lib.hid B2
    clear H2 B2 Hst2 Hbd
    go_wp2_with fail
    go_roundw
    case rel => exact ⟨k + 1, q, Hlt.out, rfl, by go_num, B3.out.1, by have := B3.out.2; omega, Lib.hid ⟨HK.out.1.alloc _, H3.out⟩, hx.alloc _⟩
    case measure => have := Hlt.out; simp [intOf]; omega
   ·have b1 : decide (q < x.a) = false := decide_eq_false h1
    by_cases h2 : x.b < q
    ·have b2 : decide (x.b < q) = true := decide_eq_true h2
     have H2 := Hst2.out
     have B2 := Hbd.out
     rw [if_neg h1, if_pos h2] at H2 B2
     have H3 := Lib.hid H2
     have B3 := Lib.hid B2
     clear H2 B2 Hst2 Hbd
     have e1 : IntKind.i64.wrap ((x.t.size : Int) - (x.b - x.a)) = (x.t.size : Int) - (x.b - x.a) := IntWalk.i64_in _ (by omega)
     have e2 : IntKind.i64.wrap (q + ((x.t.size : Int) - (x.b - x.a))) = q + ((x.t.size : Int) - (x.b - x.a)) := IntWalk.i64_in _ (by omega)
     have HL := Lib.hid (fun w' => spLen_any (x.a, x.b) w' (by simp only; omega) (by simp only; omega))
     go_wp2_with fail
     obtain ⟨u, hu⟩ : ∃ u, u = wr.alloc (.cells #[.int .i64 x.a, .int .i64 x.b, .string x.t] 59) := ⟨_, rfl⟩
     have hxu : Ext wr u := by rw [hu]; exact (Mod.refl _ wr).alloc _
     have hbu : Blk u wr.heap.size 59 #[.int .i64 x.a, .int .i64 x.b, .string x.t] := by rw [hu]; exact Blk.new _ _ _
     rw [← hu]
     clear c0 c1 c2 hgl hu
     have c0 : u.cell? ⟨wr.heap.size, 0, none⟩ = some (.int .i64 x.a) := hbu.cell 0
     have c1 : u.cell? ⟨wr.heap.size, 1, none⟩ = some (.int .i64 x.b) := hbu.cell 1
     have c2 : u.cell? ⟨wr.heap.size, 2, none⟩ = some (.string x.t) := hbu.cell 2
     have hgl := hbu.lt
     refine wp_region_ext_lit (by kernel_rfl) (by kernel_rfl) ?_
     repeat (go_big_quiet_step (exact Calls.ext_of (HL.out _)))
     refine wpQuiet_nil ?_
     intro we hxe
     have hxe2 := hxu.ext_trans hxe
     clear c0 c1 c2 hgl hbu e1 e2
     go_wp2_with fail
     go_roundw
     case rel => exact ⟨k + 1, _, Hlt.out, rfl, by go_num, B3.out.1, by have := B3.out.2; omega, Lib.hid ⟨HK.out.1.mod hxe2 (fun f => f), H3.out⟩, hx.ext_trans hxe2⟩
     case measure => have := Hlt.out; simp [intOf]; omega
    ·have b2 : decide (x.b < q) = false := decide_eq_false h2
     have H2 := Hst2.out
     have B2 := Hbd.out
     rw [if_neg h1, if_neg h2] at H2 B2
     have e1 : IntKind.i64.wrap (x.a + (x.t.size : Int)) = x.a + (x.t.size : Int) := IntWalk.i64_in _ (by omega)
     cases right with
     | true =>
      have H3 := Lib.hid (show (R.take (k + 1)).foldl (oneE true) o = x.a + x.t.size from H2)
      have B3 := Lib.hid (show 0 ≤ x.a + (x.t.size : Int) ∧ x.a + (x.t.size : Int) ≤ 1000000000 + k * 100000 + 100000 from B2)
      clear H2 B2 Hst2 Hbd e1
      go_wp2_with fail
      go_roundw
      case rel => exact ⟨k + 1, _, Hlt.out, rfl, by go_num, B3.out.1, by have := B3.out.2; omega, Lib.hid ⟨HK.out.1.alloc _, H3.out⟩, hx.alloc _⟩
      case measure => have := Hlt.out; simp [intOf]; omega
     | false =>
      have H3 := Lib.hid (show (R.take (k + 1)).foldl (oneE false) o = x.a from H2)
      have B3 := Lib.hid (show 0 ≤ x.a ∧ x.a ≤ 1000000000 + (k : Int) * 100000 + 100000 from B2)
      clear H2 B2 Hst2 Hbd e1
      go_wp2_with fail
      go_roundw
      case rel => exact ⟨k + 1, _, Hlt.out, rfl, by go_num, B3.out.1, by have := B3.out.2; omega, Lib.hid ⟨HK.out.1.alloc _, H3.out⟩, hx.alloc _⟩
      case measure => have := Hlt.out; simp [intOf]; omega
  ·have hlt' : ¬ (k : Int) < (N : Int) := by omega
   obtain rfl : k = N := by omega
   have hZ := HK.out.2
   rw [List.take_of_length_le (by rw [HRl.out]; exact Nat.le_refl _), HZ.out] at hZ
   subst hZ
   go_wp2_with fail
   go_ret
   exact ⟨rfl, hx⟩
theorem moveC_none (right : Bool) (o : Int) (cap : Nat) (w : World) : Calls Tryz.prog 68 #[.int .i64 o, .bool right, .slice none 0 cap] w fun e w' => e = .returned (.int .i64 o) ∧ Ext w w' := by
 go_enter Tryz.func68, Tryz.ntmps68
 go_wp2_with fail
 refine (sortC_none cap w).mono ?_
 rintro e w1 ⟨rfl, rfl⟩
 go_wp2_with fail
 refine (revEd_none none 0 w1).mono ?_
 rintro e w1 ⟨rfl, rfl⟩
 go_wp2_with fail
 refine wp_loop_rounds 1 ?_
 rw [rounds_succ]
 go_wp2_with fail
 go_ret
 exact ⟨rfl, Mod.refl _ _⟩
end Go.Proofs.YthlmgoagnfkhdaaGreat
namespace Go.Gim
open Go.RowKit
theorem reads_mod0 {S : Nat → Prop} {w w' : World} {size n : Nat} {ao : Option Addr} {xs : List Value} (h : Reads w size ao n xs) (hm : Mod S w w') (hS : 0 < n → ∀ a, ao = some a → ¬ S a.block) : Reads w' size ao n xs := by
 by_cases h0 : 0 < n
 ·exact h.mod hm (hS h0)
 ·exact ⟨h.1, fun h1 => absurd h1 h0⟩
end Go.Gim
namespace Go.Proofs.YthlmgoagnfkhdaaGreat
open Go.RowKit Go.Gim
theorem cloneEd_empty (a : Addr) (cap : Nat) (w : World) :
  Calls Tryz.prog 72 #[.slice (some a) 0 cap] w fun e w' => ∃ ao c, e = .returned (.slice ao 0 c) ∧ Ext w w' := by
 have hnil := fun w' => Lib.run_eql_slice_nil (P := Tryz.prog) w' 35 59 (some a) 0 cap 0 0 Tryz.underlying35
 have ha : Ext w (w.alloc (.cells #[] 59)) := (Mod.refl _ w).alloc _
 have hr2 : Reads (w.alloc (.cells #[] 59)) 3 (some a) 0 (edE.cells []) := Enc.reads_none (E := edE)
 go_enter Tryz.func72, Tryz.ntmps72
 go_wp2_with (at_builtin; refine wpList_append_reads rfl _ _ 35 rfl w.heap.size 59 _ 3 32 Tryz.info59 Tryz.underlying35 rfl (by decide) _ 0 [] rfl (World.ownsRow_lit w #[] 0 (Nat.le_refl _) (by unfold maxLen; omega) rfl) _ 0 cap (edE.cells []) rfl hr2 (edE.cells_one []) (by unfold maxLen; omega) (by omega) (by simp) ?_)
 intro v' w4 hown hm4 hbk
 obtain ⟨ao, c, rfl, _⟩ := ownsRow_shape hown
 have hx4 : Ext w w4 := ha.trans hm4 (fun i hi e => by cases e; exact absurd hi (Nat.lt_irrefl _))
 clear hm4 hbk hown
 go_wp2_with fail
 go_ret
 exact ⟨ao, c, rfl, hx4⟩
theorem sortC_empty (a : Addr) (cap : Nat) (w : World) : Calls Tryz.prog 48 #[.slice (some a) 0 cap] w fun e w' => ∃ ao c, e = .returned (.slice ao 0 c) ∧ Ext w w' := by
 go_enter Tryz.func48, Tryz.ntmps48
 go_wp2_with fail
 refine (cloneEd_empty a cap w).mono ?_
 rintro e w1 ⟨ao, c, rfl, hx⟩
 go_wp2_with fail
 refine (sortEd_none ao c w1).mono ?_
 rintro e w1 ⟨rfl, rfl⟩
 go_wp2_with fail
 go_ret
 exact ⟨ao, c, rfl, hx⟩
theorem moveC_empty (right : Bool) (o : Int) (a : Addr) (cap : Nat) (w : World) : Calls Tryz.prog 68 #[.int .i64 o, .bool right, .slice (some a) 0 cap] w fun e w' => e = .returned (.int .i64 o) ∧ Ext w w' := by
 go_enter Tryz.func68, Tryz.ntmps68
 go_wp2_with fail
 refine (sortC_empty a cap w).mono ?_
 rintro e w1 ⟨ao, c, rfl, hx⟩
 go_wp2_with fail
 refine (revEd_none ao c w1).mono ?_
 rintro e w1 ⟨rfl, rfl⟩
 go_wp2_with fail
 refine wp_loop_rounds 1 ?_
 rw [rounds_succ]
 go_wp2_with fail
 go_ret
 exact ⟨rfl, hx⟩
theorem moveC_all (right : Bool) (o : Int) (ao : Option Addr) (cap : Nat) (l : List Ed) (w : World) (hr : Reads w 3 ao l.length (edE.cells l)) (hn : l.length ≤ 19) (hok : ∀ e ∈ l, EdOk e) (ho0 : 0 ≤ o) (ho1 : o ≤ 1000000000) :
  Calls Tryz.prog 68 #[.int .i64 o, .bool right, .slice ao l.length cap] w fun e w' => e = .returned (.int .i64 (moveE right l o)) ∧ Ext w w' := by
 cases l with
 | nil =>
  cases ao with
  | none => exact moveC_none right o cap w
  | some a => exact moveC_empty right o a cap w
 | cons x r =>
  obtain ⟨b, off, rfl⟩ := hr.some (by simp)
  exact moveC_some right o b off cap (x :: r) w hr (by simp) hn hok ho0 ho1
end Go.Proofs.YthlmgoagnfkhdaaGreat

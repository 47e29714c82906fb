/- Sorting edits: what is compared, the library's insertion, the stable sort, Clone. Conditions: fewer than 20 elements. -/
import Derived.Test.YtffplppglicibaaGimCmpI
import Derived.Test.YtffplppglicibaaGimTailQ
import Derived.Test.YtffplppglicibaaGimRow
import Derived.Test.YtffplppglicibaaGimMoveP
import Derived.Deep.DeepCutAuto
namespace Go.Gim
open Go Go.RowKit
/-- A whole element is stored. -/
theorem EdRow_put {w : World} {g : Nat} {T : TypeId} {l : List Ed} (h : edE.Row w g T l) {i : Nat} {x : Ed} (hx : l[i]? = some x) (y : Ed) : edE.Row (((w.setCell ⟨g, i * 3, none⟩ (.int .i64 y.a)).setCell ⟨g, i * 3 + 1, none⟩ (.int .i64 y.b)).setCell ⟨g, i * 3 + 2, none⟩ (.string y.t)) g T (l.set i y) := by
  have hi := (List.getElem?_eq_some_iff.1 hx).1
  have h0 := Enc.Row.set (E := edE) h hx (j := 0) (by decide) (v := .int .i64 y.a) ⟨y.a, x.b, x.t⟩ rfl
  have h1 := Enc.Row.set2 (E := edE) h0 hi (j := 1) (by decide) (v := .int .i64 y.b) (y := ⟨y.a, y.b, x.t⟩) rfl
  have h2 := Enc.Row.set2 (E := edE) h1 hi (j := 2) (by decide) (v := .string y.t) (y := ⟨y.a, y.b, y.t⟩) rfl
  exact h2
theorem EdRow_cell {w : World} {g : Nat} {T : TypeId} {l : List Ed} (h : edE.Row w g T l) {i : Nat} {x : Ed} (hx : l[i]? = some x) : w.cell? ⟨g, i * 3, none⟩ = some (.int .i64 x.a) ∧ w.cell? ⟨g, i * 3 + 1, none⟩ = some (.int .i64 x.b) ∧ w.cell? ⟨g, i * 3 + 2, none⟩ = some (.string x.t) :=
  ⟨Enc.Row.cell (E := edE) (j := 0) h hx rfl, Enc.Row.cell (E := edE) (j := 1) h hx rfl, Enc.Row.cell (E := edE) (j := 2) h hx rfl⟩
end Go.Gim
namespace Go.Proofs.Ytffplppglicibaa
open Go.RowKit Go.Gim

theorem Try.info37 : (Try.prog.info? 37).map (fun i => (i.zero, i.size, i.bytes)) = some (some (.agg #[.int .i64 0, .int .i64 0, .string ByteArray.empty]), 3, 32) := by kernel_rfl
def cmpE (x y : Ed) : Int := cmpB (x.a, x.b) (y.a, y.b)
theorem lessEd_is (x y : Ed) : decide (cmpE x y < 0) = lessE x y := cmpB_less _ _
set_option maxHeartbeats 1600000 in
set_option maxRecDepth 1000000 in
theorem cmpEd_any (x y : Ed) (w : World) : Calls Try.prog 73 #[.agg #[.int .i64 x.a, .int .i64 x.b, .string x.t], .agg #[.int .i64 y.a, .int .i64 y.b, .string y.t]] w fun e w' => e = .returned (.int .i64 (cmpE x y)) ∧ Ext w w' := by
  go_enter Try.func73, Try.ntmps73
  go_wp2_with fail
  obtain ⟨wa, hwa⟩ : ∃ wa, wa = (w.alloc (.cells #[.int .i64 x.a, .int .i64 x.b, .string x.t] 37)).alloc (.cells #[.int .i64 y.a, .int .i64 y.b, .string y.t] 37) := ⟨_, rfl⟩
  have hxa : Ext w wa := by rw [hwa]; exact ((Mod.refl _ w).alloc _).alloc _
  have hb2 : Blk wa w.heap.size 37 #[.int .i64 x.a, .int .i64 x.b, .string x.t] := by rw [hwa]; exact (Blk.new _ _ _).alloc _
  have hb3 : Blk wa (w.heap.size + 1) 37 #[.int .i64 y.a, .int .i64 y.b, .string y.t] := by
    rw [hwa]; have := Blk.new (w.alloc (.cells #[.int .i64 x.a, .int .i64 x.b, .string x.t] 37)) 37 #[.int .i64 y.a, .int .i64 y.b, .string y.t]; simpa using this
  rw [← hwa]
  clear hwa
  have c0 : wa.cell? ⟨w.heap.size, 0, none⟩ = some (.int .i64 x.a) := hb2.cell 0
  have c1 : wa.cell? ⟨w.heap.size, 1, none⟩ = some (.int .i64 x.b) := hb2.cell 1
  have c2 : wa.cell? ⟨w.heap.size + 1, 0, none⟩ = some (.int .i64 y.a) := hb3.cell 0
  have c3 : wa.cell? ⟨w.heap.size + 1, 1, none⟩ = some (.int .i64 y.b) := hb3.cell 1
  have l2 := hb2.lt
  have l3 := hb3.lt
  refine wp_region_ext_tail 14 (by kernel_rfl) (by kernel_rfl) ?_
  simp only [List.take_succ_cons, List.take_zero, List.drop_succ_cons, List.drop_zero]
  repeat (go_big_quiet_step (exact Calls.ext_of_same (compare_any _ _ _)))
  refine wpQuiet_nil ?_
  intro we hxe
  go_wp2_with fail
  have hb := Blk.new we 3 #[.int .i64 (cmpI x.a y.a), .int .i64 (cmpI x.b y.b)]
  refine (or_two _ _ we.heap.size _ (hb.cell 0) (hb.cell 1)).mono ?_
  rintro e w' ⟨rfl, rfl⟩
  clear hb
  go_wp2_with fail
  go_ret
  exact ⟨rfl, (hxa.ext_trans hxe).alloc _⟩

set_option maxHeartbeats 3200000 in
set_option maxRecDepth 1000000 in
theorem insertEd_any (g cap : Nat) (l : List Ed) (w : World) (hr : edE.Row w g 37 l) (h0 : 0 < l.length) (hn : l.length ≤ 1000) :
    Calls Try.prog 101 #[.slice (some ⟨g, 0, none⟩) l.length cap, .int .i64 0, .int .i64 l.length, .func (.func 73) #[] #[]] w
      fun e w' => e = .returned (.tuple #[]) ∧ edE.Row w' g 37 (isort lessE l l.length) ∧ Mod (· = g) w w' := by
  have H1 := Lib.hid (show edE.Row w g 37 (isort lessE l 1) from hr)
  obtain ⟨N, hN⟩ : ∃ N, N = l.length := ⟨_, rfl⟩
  rw [← hN] at h0 hn ⊢
  have HN := Lib.hid hN
  clear hr hN
  go_enter Try.func101, Try.ntmps101
  go_wp2_with fail
  go_loopw [8] (fun s8 wr => ∃ k : Nat, 1 ≤ k ∧ k ≤ N ∧ s8 = .int .i64 k ∧ Hid (edE.Row wr g 37 (isort lessE l k)) ∧ Mod (· = g) w wr) (fun s8 _ => N - (intOf s8).toNat)
  case atStart => exact ⟨1, by omega, by omega, rfl, H1, Mod.refl _ _⟩
  case round =>
    obtain ⟨k, hk1, hk, rfl, HR, hm⟩ := hrel
    by_cases hlt : k < N
    · have hlt' : (k : Int) < (N : Int) := by omega
      obtain ⟨T, hT⟩ : ∃ T, isort lessE l (k + 1) = T := ⟨_, rfl⟩
      have HT := Lib.hid (show sink lessE (isort lessE l k) k = T from hT)
      have HL := Lib.hid (show (isort lessE l k).length = N by rw [isort_length]; exact HN.out.symm)
      go_wp2_with fail
      go_loopg [9] k (fun c s9 wi => ∃ (j : Nat) (cur : List Ed), j = c ∧ j ≤ k ∧ s9 = .int .i64 j ∧ Hid (edE.Row wi g 37 cur ∧ cur.length = N ∧ sink lessE cur j = T) ∧ Mod (· = g) w wi)
      case atStart => exact ⟨k, _, rfl, Nat.le_refl _, rfl, Lib.hid ⟨HR.out, HL.out, HT.out⟩, hm⟩
      case round =>
        obtain ⟨j, cur, hjc, hj, rfl, HC, hmi⟩ := hrel
        have Hjc := Lib.hid hjc
        clear hjc
        clear HR HT HL hm
        cases j with
        | zero =>
          have e1 : decide ((0 : Int) < 0) = false := rfl
          go_wp2_with fail
          go_quiet (fail)
          go_wp2_with fail
          go_roundw
          case rel => exact ⟨k + 1, by omega, by omega, by go_num, Lib.hid (by rw [hT, ← HC.out.2.2]; exact HC.out.1.mod ((Mod.refl (fun _ => False) _).drewN _) (fun f => f)), hmi.drewN _⟩
          case measure => simp [intOf]; omega
        | succ j =>
          have hj1 : (0 : Int) ≤ (j : Int) := by omega
          have e1 : decide ((0 : Int) < (j : Int) + 1) = true := decide_eq_true (by omega)
          have e2 : IntKind.i64.wrap ((j : Int) + 1 - 1) = (j : Int) := by rw [show (j : Int) + 1 - 1 = j from by omega]; exact IntWalk.i64_in _ (by omega)
          obtain ⟨hrow, hlen, hsk⟩ := HC.out
          have b1 : j + 1 < cur.length := by omega
          have b2 : j < cur.length := by omega
          obtain ⟨c0, c1, c2⟩ := EdRow_cell hrow (List.getElem?_eq_getElem b1)
          obtain ⟨c3, c4, c5⟩ := EdRow_cell hrow (List.getElem?_eq_getElem b2)
          have hgl := hrow.lt
          have hsk2 := hsk
          generalize hX : cur[j + 1] = X at *
          generalize hY : cur[j] = Y at *
          have b3 : (j : Int) + 1 < (N : Int) := by omega
          have b4 : (j : Int) < (N : Int) := by omega
          clear hsk2
          have hB := lessEd_is X Y
          cases hL : lessE X Y with
          | false =>
            rw [hL] at hB
            go_wp2_with fail
            refine wp_region_ext_lit (by kernel_rfl) (by kernel_rfl) ?_
            repeat (go_big_quiet_step (exact Calls.ext_of (cmpEd_any _ _ _)))
            refine wpQuiet_nil ?_
            intro we hxe
            go_wp2_with fail
            go_roundw
            case rel => exact ⟨k + 1, by omega, by omega, by go_num, Lib.hid (by rw [hT, ← hsk, sink_no lessE (hX ▸ List.getElem?_eq_getElem b1) (hY ▸ List.getElem?_eq_getElem b2) hL]; exact hrow.mod hxe (fun f => f)), hmi.trans hxe (fun _ _ f => f.elim)⟩
            case measure => simp [intOf]; omega
          | true =>
            rw [hL] at hB
            go_wp2_with fail
            refine wp_region_ext_lit (by kernel_rfl) (by kernel_rfl) ?_
            repeat (go_big_quiet_step (exact Calls.ext_of (cmpEd_any _ _ _)))
            refine wpQuiet_nil ?_
            intro we hxe
            have hrow2 := hrow.mod hxe (fun f => f)
            have Hl := Lib.hid hL
            have Hs := Lib.hid hsk
            clear c0 c1 c2 c3 c4 c5 hB hL hsk hgl hrow
            obtain ⟨c0, c1, c2⟩ := EdRow_cell hrow2 (show cur[j + 1]? = some X by rw [← hX]; exact List.getElem?_eq_getElem b1)
            obtain ⟨c3, c4, c5⟩ := EdRow_cell hrow2 (show cur[j]? = some Y by rw [← hY]; exact List.getElem?_eq_getElem b2)
            have f0 := hrow2.free ((j + 1) * 3)
            have f1 := hrow2.free ((j + 1) * 3 + 1)
            have f2 := hrow2.free ((j + 1) * 3 + 2)
            have f3 := hrow2.free (j * 3)
            have f4 := hrow2.free (j * 3 + 1)
            have f5 := hrow2.free (j * 3 + 2)
            have hgl := hrow2.lt
            go_wp2_with fail
            go_region
            have k1 : cur[j + 1]? = some X := by rw [← hX]; exact List.getElem?_eq_getElem b1
            have k2 : cur[j]? = some Y := by rw [← hY]; exact List.getElem?_eq_getElem b2
            have hrow3 := EdRow_put (EdRow_put hrow2 k1 Y) (i := j) (x := Y) (by rw [List.getElem?_set_ne (by omega)]; exact k2) X
            have Hrow3 := Lib.hid hrow3
            clear c0 c1 c2 c3 c4 c5 f0 f1 f2 f3 f4 f5 hrow3 hrow2
            go_wp2_with fail
            go_roundg (j)
            case rel =>
              refine ⟨j, _, rfl, by omega, by go_num, Lib.hid ⟨Hrow3.out.mod ((Mod.refl (fun _ => False) _).drew) (fun f => f), by simp [hlen], ?_⟩, ?_⟩
              · rw [← Hs.out, sink_yes lessE k1 k2 Hl.out]
              · exact (((((((hmi.trans hxe (fun _ _ f => f.elim)).setCell (p := ⟨g, (j + 1) * 3, none⟩) (fun _ => rfl) _).setCell (p := ⟨g, (j + 1) * 3 + 1, none⟩) (fun _ => rfl) _).setCell (p := ⟨g, (j + 1) * 3 + 2, none⟩) (fun _ => rfl) _).setCell (p := ⟨g, j * 3, none⟩) (fun _ => rfl) _).setCell (p := ⟨g, j * 3 + 1, none⟩) (fun _ => rfl) _).setCell (p := ⟨g, j * 3 + 2, none⟩) (fun _ => rfl) _).drew
            case measure => have := Hjc.out; omega
    · have hlt' : ¬ (k : Int) < (N : Int) := by omega
      obtain rfl : k = N := by omega
      go_wp2_with fail
      go_end0
      exact ⟨rfl, HR.out, hm⟩

set_option maxHeartbeats 1600000 in
set_option maxRecDepth 1000000 in
theorem stableEd_any (g cap : Nat) (l : List Ed) (w : World) (hr : edE.Row w g 37 l) (h0 : 0 < l.length) (hn : l.length ≤ 19) :
    Calls Try.prog 84 #[.slice (some ⟨g, 0, none⟩) l.length cap, .int .i64 l.length, .func (.func 73) #[] #[]] w
      fun e w' => e = .returned (.tuple #[]) ∧ edE.Row w' g 37 (sorted lessE l) ∧ Mod (· = g) w w' := by
  have hi := insertEd_any g cap l w hr h0 (by omega)
  rw [isort_all] at hi
  have Hi := Lib.hid hi
  have j1 : ¬ (20 : Int) ≤ (l.length : Int) := by omega
  have j2 : ¬ (20 : Int) < (l.length : Int) := by omega
  have j3 : ¬ 20 ≤ l.length := by omega
  have j4 : ¬ 20 < l.length := by omega
  clear hi hr h0 hn
  go_enter Try.func84, Try.ntmps84
  go_wp2_with fail
  refine wp_loop_rounds 1 ?_
  rw [rounds_succ]
  go_wp2_with fail
  refine Hi.out.mono ?_
  rintro e w1 ⟨rfl, hr, hm⟩
  go_wp2_with fail
  refine wp_loop_rounds 1 ?_
  rw [rounds_succ]
  go_wp2_with fail
  go_end0
  exact ⟨rfl, hr, hm⟩
set_option maxHeartbeats 800000 in
set_option maxRecDepth 1000000 in
theorem sortEd_any (g cap : Nat) (l : List Ed) (w : World) (hr : edE.Row w g 37 l) (h0 : 0 < l.length) (hn : l.length ≤ 19) :
    Calls Try.prog 72 #[.slice (some ⟨g, 0, none⟩) l.length cap, .func (.func 73) #[] #[]] w
      fun e w' => e = .returned (.tuple #[]) ∧ edE.Row w' g 37 (sorted lessE l) ∧ Mod (· = g) w w' := by
  have Hi := Lib.hid (stableEd_any g cap l w hr h0 hn)
  clear hr h0 hn
  go_enter Try.func72, Try.ntmps72
  go_wp2_with fail
  refine Hi.out.mono ?_
  rintro e w1 ⟨rfl, hr, hm⟩
  go_wp2_with fail
  go_end0
  exact ⟨rfl, hr, hm⟩
/-- None at all: whatever slice. -/
theorem insertEd_none (ao : Option Addr) (cap : Nat) (w : World) : Calls Try.prog 101 #[.slice ao 0 cap, .int .i64 0, .int .i64 0, .func (.func 73) #[] #[]] w fun e w' => e = .returned (.tuple #[]) ∧ w' = w := by
  go_enter Try.func101, Try.ntmps101
  go_wp2_with fail
  refine wp_loop_rounds 1 ?_
  rw [rounds_succ]
  go_wp2_with fail
  go_end0
  exact ⟨rfl, rfl⟩
theorem stableEd_none (ao : Option Addr) (cap : Nat) (w : World) : Calls Try.prog 84 #[.slice ao 0 cap, .int .i64 0, .func (.func 73) #[] #[]] w fun e w' => e = .returned (.tuple #[]) ∧ w' = w := by
  go_enter Try.func84, Try.ntmps84
  go_wp2_with fail
  refine wp_loop_rounds 1 ?_
  rw [rounds_succ]
  go_wp2_with fail
  refine (insertEd_none ao cap w).mono ?_
  rintro e w1 ⟨rfl, rfl⟩
  go_wp2_with fail
  refine wp_loop_rounds 1 ?_
  rw [rounds_succ]
  go_wp2_with fail
  go_end0
  exact ⟨rfl, rfl⟩
theorem sortEd_none (ao : Option Addr) (cap : Nat) (w : World) : Calls Try.prog 72 #[.slice ao 0 cap, .func (.func 73) #[] #[]] w fun e w' => e = .returned (.tuple #[]) ∧ w' = w := by
  go_enter Try.func72, Try.ntmps72
  go_wp2_with fail
  refine (stableEd_none ao cap w).mono ?_
  rintro e w1 ⟨rfl, rfl⟩
  go_wp2_with fail
  go_end0
  exact ⟨rfl, rfl⟩

set_option maxHeartbeats 800000 in
set_option maxRecDepth 1000000 in
theorem cloneEd_some (b off cap : Nat) (l : List Ed) (w : World) (hr : Reads w 3 (some ⟨b, off, none⟩) l.length (edE.cells l)) (h0 : 0 < l.length) (hn : l.length ≤ 1000000) :
    Calls Try.prog 71 #[.slice (some ⟨b, off, none⟩) l.length cap] w (edE.New 37 l w) := by
  have hnil := fun w' => Lib.run_eql_slice_nil (P := Try.prog) w' 47 37 (some ⟨b, off, none⟩) l.length cap 0 0 Try.underlying47
  have ha : Ext w (w.alloc (.cells #[] 37)) := (Mod.refl _ w).alloc _
  have hr2 := hr.mod ha (fun _ _ f => f)
  obtain ⟨N, hN⟩ : ∃ N, N = l.length := ⟨_, rfl⟩
  unfold Enc.New
  rw [← hN] at h0 hn hr2 hnil ⊢
  clear hN hr
  go_enter Try.func71, Try.ntmps71
  go_wp2_with (at_builtin; refine wpList_append_reads rfl _ _ 47 rfl w.heap.size 37 _ 3 32 Try.info37 Try.underlying47 rfl (by decide) _ 0 [] rfl (World.ownsRow_lit w #[] 0 (Nat.le_refl _) (by unfold maxLen; omega) rfl) _ N cap (edE.cells l) rfl hr2 (edE.cells_one l) (by unfold maxLen; omega) (by omega) (by simp) ?_)
  intro v' w4 hown hm4 hbk
  obtain ⟨g, cx', rfl⟩ := Enc.owns_some (E := edE) hown h0
  have hx4 : Ext w w4 := ha.trans hm4 (fun i hi e => by cases e; exact absurd hi (Nat.lt_irrefl _))
  have HO := Lib.hid hown
  clear hm4 hbk hown
  go_wp2_with fail
  go_ret
  exact ⟨g, cx', rfl, HO.out, hx4⟩
set_option maxHeartbeats 800000 in
set_option maxRecDepth 1000000 in
theorem cloneEd_nil (cap : Nat) (w : World) :
    Calls Try.prog 71 #[.slice none 0 cap] w fun e w' => e = .returned (.slice none 0 0) ∧ w' = w := by
  have hnil := fun w' => Lib.run_eql_slice_nil (P := Try.prog) w' 47 37 none 0 cap 0 0 Try.underlying47
  go_enter Try.func71, Try.ntmps71
  go_wp2_with fail
  go_ret
  exact ⟨rfl, rfl⟩
end Go.Proofs.Ytffplppglicibaa

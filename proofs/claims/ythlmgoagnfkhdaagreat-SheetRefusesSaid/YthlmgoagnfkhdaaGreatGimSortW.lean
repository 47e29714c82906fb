/- The library's stable sort of selections, whatever it comes to: a row of as many. Conditions: at most 70 selections. -/
import Derived.Test.YthlmgoagnfkhdaaGreatGimXSheetRefuses
import Derived.Test.YthlmgoagnfkhdaaGreatGimF30
set_option maxHeartbeats 6400000
set_option maxRecDepth 1000000
set_option linter.unusedVariables false
set_option linter.unusedSimpArgs false
namespace Go.Gim
open Go Go.RowKit
def WR (w : World) (g N : Nat) (T : TypeId) : Prop := ∃ l : List (Int × Int), l.length = N ∧ Row2 w g T l
theorem WR.mod {S : Nat → Prop} {w w' : World} {g N : Nat} {T : TypeId} (h : WR w g N T) (hm : Mod S w w') (hS : ¬ S g) : WR w' g N T := by
 obtain ⟨l, h1, h2⟩ := h
 exact ⟨l, h1, h2.mod hm hS⟩
theorem WR.lt {w : World} {g N : Nat} {T : TypeId} (h : WR w g N T) : g < w.heap.size := by
 obtain ⟨l, h1, h2⟩ := h
 exact h2.lt
def KeptW (g N : Nat) (T : TypeId) (w : World) (e : Ending) (w' : World) : Prop := e = .returned (.tuple #[]) ∧ WR w' g N T ∧ Mod (· = g) w w'
end Go.Gim
namespace Go.Proofs.YthlmgoagnfkhdaaGreat
open Go.RowKit Go.Gim
theorem insertW_any (g cap a b N : Nat) (w : World) (hr : WR w g N 47) (hab : a ≤ b) (hb : b ≤ N) (hn : N ≤ 1000) :
  Calls Tryz.prog 156 #[.slice (some ⟨g, 0, none⟩) N cap, .int .i64 a, .int .i64 b, .func (.func 87) #[] #[]] w (KeptW g N 47 w) := by
 have H1 := Lib.hid hr
 clear hr
 go_enter Tryz.func156, Tryz.ntmps156
 go_wp2_with fail
 go_loopw [8] (fun s8 wr => ∃ k : Nat, a + 1 ≤ k ∧ k ≤ b + 1 ∧ s8 = .int .i64 k ∧ Hid (WR wr g N 47) ∧ Mod (· = g) w wr) (fun s8 _ => b + 1 - (intOf s8).toNat)
 case atStart => exact ⟨a + 1, by omega, by omega, by go_num, H1, Mod.refl _ _⟩
 case round =>
  obtain ⟨k, hk1, hk, rfl, HR, hm⟩ := hrel
  by_cases hlt : k < b
  ·have hlt' : (k : Int) < (b : Int) := by omega
   go_wp2_with fail
   go_loopg [9] k (fun c s9 wi => ∃ j : Nat, j = c ∧ a ≤ j ∧ j ≤ k ∧ s9 = .int .i64 j ∧ Hid (WR wi g N 47) ∧ Mod (· = g) w wi)
   case atStart => exact ⟨k, rfl, by omega, Nat.le_refl _, rfl, HR, hm⟩
   case round =>
    obtain ⟨j, hjc, hja, hj, rfl, HC, hmi⟩ := hrel
    have Hjc := Lib.hid hjc
    clear hjc
    clear HR hm
    by_cases hz : j = a
    ·subst hz
     have e1 : decide ((j : Int) < (j : Int)) = false := decide_eq_false (by omega)
     go_wp2_with fail
     go_quiet (fail)
     go_wp2_with fail
     go_roundw
     case rel => exact ⟨k + 1, by omega, by omega, by go_num, Lib.hid (HC.out.mod ((Mod.refl (fun _ => False) _).drewN _) (fun f => f)), hmi.drewN _⟩
     case measure => simp [intOf]; omega
    ·obtain ⟨i, rfl⟩ : ∃ i, j = i + 1 := ⟨j - 1, by omega⟩
     have e0 : (a : Int) < (i : Int) + 1 := by omega
     have e1 : decide ((a : Int) < (i : Int) + 1) = true := decide_eq_true e0
     have e2 : IntKind.i64.wrap ((i : Int) + 1 - 1) = (i : Int) := by rw [show (i : Int) + 1 - 1 = i from by omega]; exact IntWalk.i64_in _ (by omega)
     obtain ⟨cur, hlen, hrow⟩ := HC.out
     have b1 : i + 1 < cur.length := by omega
     have b2 : i < cur.length := by omega
     obtain ⟨c0, c1⟩ := hrow.cell (List.getElem?_eq_getElem b1)
     obtain ⟨c2, c3⟩ := hrow.cell (List.getElem?_eq_getElem b2)
     have hgl := hrow.lt
     generalize cur[i + 1] = X at *
     generalize cur[i] = Y at *
     have b3 : (i : Int) + 1 < (N : Int) := by omega
     have b4 : (i : Int) < (N : Int) := by omega
     have b5 : (0 : Int) ≤ (i : Int) := by omega
     have hB := selLess X Y
     cases hL : lessS X Y with
     | false =>
      rw [hL] at hB
      go_wp2_with fail
      refine wp_region_ext_lit (by kernel_rfl) (by kernel_rfl) ?_
      repeat (go_big_quiet_step (exact Calls.ext_of (selCmp_any _ _ _)))
      refine wpQuiet_nil ?_
      intro we hxe
      go_wp2_with fail
      go_roundw
      case rel => exact ⟨k + 1, by omega, by omega, by go_num, Lib.hid (HC.out.mod hxe (fun f => f)), hmi.trans hxe (fun _ _ f => f.elim)⟩
      case measure => simp [intOf]; omega
     | true =>
      rw [hL] at hB
      go_wp2_with fail
      refine wp_region_ext_lit (by kernel_rfl) (by kernel_rfl) ?_
      repeat (go_big_quiet_step (exact Calls.ext_of (selCmp_any _ _ _)))
      refine wpQuiet_nil ?_
      intro we hxe
      have hrow2 := hrow.mod hxe (fun f => f)
      clear c0 c1 c2 c3 hB hL hgl hrow
      obtain ⟨c0, c1⟩ := hrow2.cell (List.getElem?_eq_getElem b1)
      obtain ⟨c2, c3⟩ := hrow2.cell (List.getElem?_eq_getElem b2)
      have f0 := hrow2.free ((i + 1) * 2)
      have f1 := hrow2.free ((i + 1) * 2 + 1)
      have f2 := hrow2.free (i * 2)
      have f3 := hrow2.free (i * 2 + 1)
      have hgl := hrow2.lt
      have Hrow3 := Lib.hid (fun X Y => (hrow2.set (i + 1) b1 Y).set i (by rw [List.length_set]; exact b2) X)
      generalize cur[i + 1] = X at *
      generalize cur[i] = Y at *
      go_wp2_with fail
      go_region
      clear c0 c1 c2 c3 f0 f1 f2 f3 hrow2
      go_wp2_with fail
      go_roundg (i)
      case rel =>
       refine ⟨i, rfl, by omega, by omega, by go_num, Lib.hid ⟨_, ?_, (Hrow3.out X Y).mod ((Mod.refl (fun _ => False) _).drew) (fun f => f)⟩, ?_⟩
       ·simp [hlen]
       ·exact (((((hmi.trans hxe (fun _ _ f => f.elim)).setCell (p := ⟨g, (i + 1) * 2, none⟩) (fun _ => rfl) _).setCell (p := ⟨g, (i + 1) * 2 + 1, none⟩) (fun _ => rfl) _).setCell (p := ⟨g, i * 2, none⟩) (fun _ => rfl) _).setCell (p := ⟨g, i * 2 + 1, none⟩) (fun _ => rfl) _).drew
      case measure => have := Hjc.out; omega
  ·have hlt' : ¬ (k : Int) < (b : Int) := by omega
   go_wp2_with fail
   go_end0
   exact ⟨rfl, HR.out, hm⟩
end Go.Proofs.YthlmgoagnfkhdaaGreat

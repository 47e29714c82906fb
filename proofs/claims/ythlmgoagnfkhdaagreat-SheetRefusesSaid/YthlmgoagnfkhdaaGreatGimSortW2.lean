/- The library's swapping of stretches of selections, whatever they are. Conditions: at most 1000 selections. -/
import Derived.Test.YthlmgoagnfkhdaaGreatGimXSheetRefuses
import Derived.Test.YthlmgoagnfkhdaaGreatGimSortW
import Derived.Test.YthlmgoagnfkhdaaGreatGimF07
set_option maxHeartbeats 6400000
set_option maxRecDepth 1000000
set_option linter.unusedVariables false
set_option linter.unusedSimpArgs false
namespace Go.Proofs.YthlmgoagnfkhdaaGreat
open Go.RowKit Go.Gim
theorem swapW_any (g cap a b n N : Nat) (w : World) (hr : WR w g N 47) (hab : a + n ≤ b) (hb : b + n ≤ N) (hn : N ≤ 1000) (v : Value) :
  Calls Tryz.prog 197 #[.slice (some ⟨g, 0, none⟩) N cap, .int .i64 a, .int .i64 b, .int .i64 n, v] w (KeptW g N 47 w) := by
 have H1 := Lib.hid hr
 clear hr
 go_enter Tryz.func197, Tryz.ntmps197
 go_wp2_with fail
 go_loopw [10] (fun s8 wr => ∃ k : Nat, k ≤ n ∧ s8 = .int .i64 k ∧ Hid (WR wr g N 47) ∧ Mod (· = g) w wr) (fun s8 _ => n - (intOf s8).toNat)
 case atStart => exact ⟨0, by omega, rfl, H1, Mod.refl _ _⟩
 case round =>
  obtain ⟨k, hk, rfl, HR, hm⟩ := hrel
  by_cases hlt : k < n
  ·have hlt' : (k : Int) < (n : Int) := by omega
   obtain ⟨cur, hlen, hrow⟩ := HR.out
   have b1 : a + k < cur.length := by omega
   have b2 : b + k < cur.length := by omega
   have hX : cur[a + k]? = some cur[a + k] := List.getElem?_eq_getElem b1
   have hY : cur[b + k]? = some cur[b + k] := List.getElem?_eq_getElem b2
   have hlen' : ∀ X Y : Int × Int, ((cur.set (a + k) X).set (b + k) Y).length = N := fun X Y => by simp [hlen]
   have Hlen := Lib.hid hlen'
   generalize cur[a + k] = X at *
   generalize cur[b + k] = Y at *
   have w1 : IntKind.i64.wrap ((a : Int) + (k : Int)) = ((a + k : Nat) : Int) := by rw [show (a : Int) + (k : Int) = ((a + k : Nat) : Int) by omega]; exact IntWalk.i64_in _ (by omega)
   have w2 : IntKind.i64.wrap ((b : Int) + (k : Int)) = ((b + k : Nat) : Int) := by rw [show (b : Int) + (k : Int) = ((b + k : Nat) : Int) by omega]; exact IntWalk.i64_in _ (by omega)
   have w3 : wrap64 ((a : Int) + (k : Int)) = ((a + k : Nat) : Int) := by rw [← IntWalk.i64_left]; exact w1
   have w4 : wrap64 ((b : Int) + (k : Int)) = ((b + k : Nat) : Int) := by rw [← IntWalk.i64_left]; exact w2
   have b3 : ((a + k : Nat) : Int) < (N : Int) := by omega
   have b4 : ((b + k : Nat) : Int) < (N : Int) := by omega
   have b5 : (0 : Int) ≤ ((a + k : Nat) : Int) := by omega
   have b6 : (0 : Int) ≤ ((b + k : Nat) : Int) := by omega
   have hkn : k + 1 ≤ n := by omega
   have Hkn := Lib.hid hkn
   have hne : a + k ≠ b + k := by omega
   generalize a + k = p at *
   generalize b + k = q at *
   have hsh : Row2 wr g 47 cur := hrow
   have Hcell := Lib.hid (fun w' (h' : Ext wr w') => (⟨(hsh.mod h' (fun f => f)).cell hX, (hsh.mod h' (fun f => f)).cell hY⟩ : (w'.cell? ⟨g, p * 2, none⟩ = some (.int .i64 X.1) ∧ w'.cell? ⟨g, p * 2 + 1, none⟩ = some (.int .i64 X.2)) ∧ (w'.cell? ⟨g, q * 2, none⟩ = some (.int .i64 Y.1) ∧ w'.cell? ⟨g, q * 2 + 1, none⟩ = some (.int .i64 Y.2))))
   have HR := Lib.hid hsh
   have Hb := Lib.hid (And.intro b1 b2)
   clear hrow hlen hlen' b1 b2 hkn hX hY hsh
   go_upto_region 3 with fail
   refine wp_region_N (fun _ => True) (by kernel_rfl) ?_
   refine wpN_take 0 16 (v := ?_) rfl rfl (by kernel_rfl) (by kernel_rfl) (by kernel_rfl) (fun _ _ _ h => h) (by first | exact mod_draw _ | assumption) rfl ?_ ?_
   rotate_left
   ·intro w' hw'
    refine qat_value ?_
    go_simp
    rfl
   simp only [fr1, fr2, fr3, fr4]
   refine wpN_take 1 17 (v := ?_) rfl rfl (by kernel_rfl) (by kernel_rfl) (by kernel_rfl) (fun _ _ _ h => h) (by first | exact mod_draw _ | assumption) rfl ?_ ?_
   rotate_left
   ·intro w' hw'
    refine qat_value ?_
    go_simp
    rfl
   simp only [fr1, fr2, fr3, fr4]
   refine wpN_take 2 18 (v := ?_) rfl rfl (by kernel_rfl) (by kernel_rfl) (by kernel_rfl) (fun _ _ _ h => h) (by first | exact mod_draw _ | assumption) rfl ?_ ?_
   rotate_left
   ·intro w' hw'
    refine qat_value ?_
    go_simp
    rfl
   simp only [fr1, fr2, fr3, fr4]
   refine wpN_take 3 19 (v := ?_) rfl rfl (by kernel_rfl) (by kernel_rfl) (by kernel_rfl) (fun _ _ _ h => h) (by first | exact mod_draw _ | assumption) rfl ?_ ?_
   rotate_left
   ·intro w' hw'
    refine qat_value ?_
    go_simp
    rfl
   simp only [fr1, fr2, fr3, fr4]
   refine wpN_take 4 20 (v := ?_) rfl rfl (by kernel_rfl) (by kernel_rfl) (by kernel_rfl) (fun _ _ _ h => h) (by first | exact mod_draw _ | assumption) rfl ?_ ?_
   rotate_left
   ·intro w' hw'
    refine qat_value ?_
    go_simp
    rfl
   simp only [fr1, fr2, fr3, fr4]
   refine wpN_take 5 21 (v := ?_) rfl rfl (by kernel_rfl) (by kernel_rfl) (by kernel_rfl) (fun _ _ _ h => h) (by first | exact mod_draw _ | assumption) rfl ?_ ?_
   rotate_left
   ·intro w' hw'
    refine qat_value ?_
    go_simp
    rfl
   simp only [fr1, fr2, fr3, fr4]
   refine wpN_take 6 22 (v := ?_) rfl rfl (by kernel_rfl) (by kernel_rfl) (by kernel_rfl) (fun _ _ _ h => h) (by first | exact mod_draw _ | assumption) rfl ?_ ?_
   rotate_left
   ·intro w' hw'
    refine qat_value ?_
    go_simp
    rfl
   simp only [fr1, fr2, fr3, fr4]
   refine wpN_take 7 23 (v := ?_) rfl rfl (by kernel_rfl) (by kernel_rfl) (by kernel_rfl) (fun _ _ _ h => h) (by first | exact mod_draw _ | assumption) rfl ?_ ?_
   rotate_left
   ·intro w' hw'
    refine qat_value ?_
    go_simp
    rfl
   simp only [fr1, fr2, fr3, fr4]
   refine wpN_take 8 24 (v := ?_) rfl rfl (by kernel_rfl) (by kernel_rfl) (by kernel_rfl) (fun _ _ _ h => h) (by first | exact mod_draw _ | assumption) rfl ?_ ?_
   rotate_left
   ·intro w' hw'
    refine qat_value ?_
    go_simp
    rfl
   simp only [fr1, fr2, fr3, fr4]
   refine wpN_take 9 25 (v := ?_) rfl rfl (by kernel_rfl) (by kernel_rfl) (by kernel_rfl) (fun _ _ _ h => h) (by first | exact mod_draw _ | assumption) rfl ?_ ?_
   rotate_left
   ·intro w' hw'
    refine qat_value ?_
    go_simp
    rfl
   simp only [fr1, fr2, fr3, fr4]
   refine wpN_take 10 26 (v := ?_) rfl rfl (by kernel_rfl) (by kernel_rfl) (by kernel_rfl) (fun _ _ _ h => h) (by first | exact mod_draw _ | assumption) rfl ?_ ?_
   rotate_left
   ·intro w' hw'
    refine qat_value ?_
    go_simp
    rfl
   simp only [fr1, fr2, fr3, fr4]
   refine wpN_take 11 27 (v := ?_) rfl rfl (by kernel_rfl) (by kernel_rfl) (by kernel_rfl) (fun _ _ _ h => h) (by first | exact mod_draw _ | assumption) rfl ?_ ?_
   rotate_left
   ·intro w' hw'
    refine qat_value ?_
    go_simp
    rfl
   simp only [fr1, fr2, fr3, fr4]
   refine wpN_take 12 28 (v := ?_) rfl rfl (by kernel_rfl) (by kernel_rfl) (by kernel_rfl) (fun _ _ _ h => h) (by first | exact mod_draw _ | assumption) rfl ?_ ?_
   rotate_left
   ·intro w' hw'
    refine qat_value ?_
    go_simp
    rfl
   simp only [fr1, fr2, fr3, fr4]
   refine wpN_take 14 30 (v := ?_) rfl rfl (by kernel_rfl) (by kernel_rfl) (by kernel_rfl) (fun _ _ _ h => h) (by first | exact mod_draw _ | assumption) rfl ?_ ?_
   rotate_left
   ·intro w' hw'
    refine qat_value ?_
    go_simp
    rfl
   simp only [fr1, fr2, fr3, fr4]
   refine wpN_take 15 31 (v := ?_) rfl rfl (by kernel_rfl) (by kernel_rfl) (by kernel_rfl) (fun _ _ _ h => h) (by first | exact mod_draw _ | assumption) rfl ?_ ?_
   rotate_left
   ·intro w' hw'
    refine qat_value ?_
    go_simp
    rfl
   simp only [fr1, fr2, fr3, fr4]
   refine wpN_take 16 32 (v := ?_) rfl rfl (by kernel_rfl) (by kernel_rfl) (by kernel_rfl) (fun _ _ _ h => h) (by first | exact mod_draw _ | assumption) rfl ?_ ?_
   rotate_left
   ·intro w' hw'
    refine qat_value ?_
    go_simp
    rfl
   simp only [fr1, fr2, fr3, fr4]
   refine wpN_take 17 33 (v := ?_) rfl rfl (by kernel_rfl) (by kernel_rfl) (by kernel_rfl) (fun _ _ _ h => h) (by first | exact mod_draw _ | assumption) rfl ?_ ?_
   rotate_left
   ·intro w' hw'
    refine qat_value ?_
    go_simp
    rfl
   simp only [fr1, fr2, fr3, fr4]
   refine wpN_take 18 34 (v := ?_) rfl rfl (by kernel_rfl) (by kernel_rfl) (by kernel_rfl) (fun _ _ _ h => h) (by first | exact mod_draw _ | assumption) rfl ?_ ?_
   rotate_left
   ·intro w' hw'
    refine qat_value ?_
    go_simp
    rfl
   simp only [fr1, fr2, fr3, fr4]
   refine wpN_loads2 13 19 29 35 (vi := .agg #[.int .i64 Y.1, .int .i64 Y.2]) (vj := .agg #[.int .i64 X.1, .int .i64 X.2]) rfl rfl rfl rfl rfl rfl (by kernel_rfl) (by kernel_rfl) (by kernel_rfl) ?_ ?_ ?_ ?_ (by decide) (by decide) (mod_draw _) ?_
   ·intro w' hw'
    obtain ⟨⟨c0, c1⟩, c2, c3⟩ := Hcell.out w' ((ext_draw wr).ext_trans hw')
    go_simp
    done
   ·intro w' hw'
    obtain ⟨⟨c0, c1⟩, c2, c3⟩ := Hcell.out w' ((ext_draw wr).ext_trans hw')
    go_simp
    done
   ·intro w' hw'
    obtain ⟨⟨c0, c1⟩, c2, c3⟩ := Hcell.out w' ((ext_draw wr).ext_trans hw')
    simp only [fr1, fr2, fr3, fr4]
    go_simp
    done
   ·intro w' hw'
    obtain ⟨⟨c0, c1⟩, c2, c3⟩ := Hcell.out w' ((ext_draw wr).ext_trans hw')
    simp only [fr1, fr2, fr3, fr4]
    go_simp
    done
   intro w1 hw1
   have hy1 := (ext_draw wr).ext_trans hw1
   simp only [fr1, fr2, fr3, fr4]
   have hm1 : Mod (fun _ => True) wr w1 := hy1.any
   refine wpN_take 20 36 (v := ?_) rfl rfl (by kernel_rfl) (by kernel_rfl) (by kernel_rfl) (fun _ _ _ h => h) (by first | exact mod_draw _ | assumption) rfl ?_ ?_
   rotate_left
   ·intro w' hw'
    refine qat_value ?_
    go_simp
    rfl
   simp only [fr1, fr2, fr3, fr4]
   refine wpN_put 21 rfl rfl rfl (by kernel_rfl) fun w2 hw2 => ?_
   have hy2 := hy1.ext_trans hw2
   have hr2 := HR.out.mod hy2 (fun f => f)
   have f0 := hr2.free (p * 2)
   have f1 := hr2.free (p * 2 + 1)
   have hgl := hr2.lt
   obtain ⟨⟨c0, c1⟩, -, -⟩ := Hcell.out w2 hy2
   have hr3 := hr2.set p Hb.out.1 Y
   have hm2 := (hm.then hy2)
   refine ⟨(w2.setCell ⟨g, p * 2, none⟩ (.int .i64 Y.1)).setCell ⟨g, p * 2 + 1, none⟩ (.int .i64 Y.2), by first | (go_simp; done) | (go_simp; rfl), ((hy2.any).setCell (p := ⟨g, p * 2, none⟩) (fun _ => trivial) _).setCell (p := ⟨g, p * 2 + 1, none⟩) (fun _ => trivial) _, ?_⟩
   have hm3 : Mod (fun _ => True) wr ((w2.setCell ⟨g, p * 2, none⟩ (.int .i64 Y.1)).setCell ⟨g, p * 2 + 1, none⟩ (.int .i64 Y.2)) := ((hy2.any).setCell (p := ⟨g, p * 2, none⟩) (fun _ => trivial) _).setCell (p := ⟨g, p * 2 + 1, none⟩) (fun _ => trivial) _
   have hm4 := (hm2.setCell (p := ⟨g, p * 2, none⟩) (fun _ => rfl) (.int .i64 Y.1)).setCell (p := ⟨g, p * 2 + 1, none⟩) (fun _ => rfl) (.int .i64 Y.2)
   clear f0 f1 hgl hr2 hm1 hm2 c0 c1
   generalize (w2.setCell ⟨g, p * 2, none⟩ (.int .i64 Y.1)).setCell ⟨g, p * 2 + 1, none⟩ (.int .i64 Y.2) = w3 at *
   refine wpN_take 22 37 (v := ?_) rfl rfl (by kernel_rfl) (by kernel_rfl) (by kernel_rfl) (fun _ _ _ h => h) (by first | exact mod_draw _ | assumption) rfl ?_ ?_
   rotate_left
   ·intro w' hw'
    refine qat_value ?_
    go_simp
    rfl
   simp only [fr1, fr2, fr3, fr4]
   refine wpN_put 23 rfl rfl rfl (by kernel_rfl) fun w4 hw4 => ?_
   have hr4 := hr3.mod hw4 (fun f => f)
   have f0 := hr4.free (q * 2)
   have f1 := hr4.free (q * 2 + 1)
   have hgl := hr4.lt
   obtain ⟨c0, c1⟩ := hr4.cell (List.getElem?_eq_getElem (show q < (cur.set p Y).length by rw [List.length_set]; exact Hb.out.2))
   have hr5 := hr4.set q (by rw [List.length_set]; exact Hb.out.2) X
   refine ⟨(w4.setCell ⟨g, q * 2, none⟩ (.int .i64 X.1)).setCell ⟨g, q * 2 + 1, none⟩ (.int .i64 X.2), by first | (go_simp; done) | (go_simp; rfl), ((hm3.then hw4).setCell (p := ⟨g, q * 2, none⟩) (fun _ => trivial) _).setCell (p := ⟨g, q * 2 + 1, none⟩) (fun _ => trivial) _, ?_⟩
   have hm5 := ((hm4.then hw4).setCell (p := ⟨g, q * 2, none⟩) (fun _ => rfl) (.int .i64 X.1)).setCell (p := ⟨g, q * 2 + 1, none⟩) (fun _ => rfl) (.int .i64 X.2)
   clear f0 f1 hgl hr4 hm3 hm4 hr3 c0 c1
   generalize (w4.setCell ⟨g, q * 2, none⟩ (.int .i64 X.1)).setCell ⟨g, q * 2 + 1, none⟩ (.int .i64 X.2) = w5 at *
   refine wpN_done (by kernel_rfl) (fun w6 hw6 => ?_) _
   have Hw := Lib.hid (show WR w6 g N 47 from ⟨_, Hlen.out Y X, hr5.mod hw6 (fun f => f)⟩)
   have hm6 := hm5.then hw6
   clear hr5 hm5 hw6
   go_wp2_with fail
   go_roundw
   case rel => exact ⟨k + 1, Hkn.out, by go_num, Hw, hm6⟩
   case measure => have := Hkn.out; simp [intOf]; omega
  ·have hlt' : ¬ (k : Int) < (n : Int) := by omega
   go_wp2_with fail
   go_end0
   exact ⟨rfl, HR.out, hm⟩
end Go.Proofs.YthlmgoagnfkhdaaGreat

/- The library's merging of two stretches of selections in place, whatever it comes to. Conditions: at most 1000 selections. -/
import Derived.Test.YthlmgoagnfkhdaaGreatGimXSheetRefuses
import Derived.Test.YthlmgoagnfkhdaaGreatGimSortW3
set_option maxHeartbeats 6400000
set_option maxRecDepth 1000000
set_option linter.unusedVariables false
set_option linter.unusedSimpArgs false
namespace Go.Gim
open Go Go.RowKit
theorem half_opq {y : Nat} (h : y ≤ 1000000) : ∃ d : Nat, 2 * d ≤ y ∧ y ≤ 2 * d + 1 ∧ Hid (wrap64 (IntKind.u64.wrap (y : Int) / 2) = (d : Int)) := by
 refine ⟨y / 2, by omega, by omega, Lib.hid ?_⟩
 rw [IntWalk.u64_in _ ⟨by omega, by omega⟩, IntWalk.wrap64_in _ ⟨by omega, by omega⟩]
 omega
theorem inc_opq {a : Nat} (h : a ≤ 1000000) : ∃ d : Nat, d = a + 1 ∧ Hid (wrap64 ((a : Int) + 1) = (d : Int)) := by
 refine ⟨a + 1, rfl, Lib.hid ?_⟩
 rw [IntWalk.wrap64_in _ ⟨by omega, by omega⟩]
 omega
theorem dec_opq {a : Nat} (h0 : 0 < a) (h : a ≤ 1000000) : ∃ d : Nat, d + 1 = a ∧ Hid (wrap64 ((a : Int) - 1) = (d : Int)) := by
 refine ⟨a - 1, by omega, Lib.hid ?_⟩
 rw [IntWalk.wrap64_in _ ⟨by omega, by omega⟩]
 omega
theorem meas_lo {x : Int} {i h' j : Nat} (hx : x = (h' : Int)) (h : i < h' ∧ h' ≤ j) : (intOf (.int .i64 (j : Int))).toNat - (intOf (.int .i64 x)).toNat < (intOf (.int .i64 (j : Int))).toNat - (intOf (.int .i64 (i : Int))).toNat := by
 subst hx
 simp only [intOf, Int.toNat_natCast]
 omega
theorem meas_hi {x : Int} {i h j : Nat} (hx : x = (h : Int)) (hh : i ≤ h ∧ h < j) : (intOf (.int .i64 x)).toNat - (intOf (.int .i64 (i : Int))).toNat < (intOf (.int .i64 (j : Int))).toNat - (intOf (.int .i64 (i : Int))).toNat := by
 subst hx
 simp only [intOf, Int.toNat_natCast]
 omega
theorem WR.two {w : World} {g N : Nat} {T : TypeId} (h : WR w g N T) {i j : Nat} (hi : i < N) (hj : j < N) : ∃ X Y : Int × Int, w.cell? ⟨g, i * 2, none⟩ = some (.int .i64 X.1) ∧ w.cell? ⟨g, i * 2 + 1, none⟩ = some (.int .i64 X.2) ∧ w.cell? ⟨g, j * 2, none⟩ = some (.int .i64 Y.1) ∧ w.cell? ⟨g, j * 2 + 1, none⟩ = some (.int .i64 Y.2) := by
 obtain ⟨l, rfl, hr⟩ := h
 obtain ⟨c0, c1⟩ := hr.cell (List.getElem?_eq_getElem hi)
 obtain ⟨c2, c3⟩ := hr.cell (List.getElem?_eq_getElem hj)
 exact ⟨_, _, c0, c1, c2, c3⟩
theorem WR.free {w : World} {g N : Nat} {T : TypeId} (h : WR w g N T) (k : Nat) : w.frozen? ⟨g, k, none⟩ = false := by
 obtain ⟨l, _, hr⟩ := h
 exact hr.free k
theorem WR.put {w : World} {g N : Nat} {T : TypeId} (h : WR w g N T) {k : Nat} (hk : k < N) (x : Int × Int) : WR ((w.setCell ⟨g, k * 2, none⟩ (.int .i64 x.1)).setCell ⟨g, k * 2 + 1, none⟩ (.int .i64 x.2)) g N T := by
 obtain ⟨l, rfl, hr⟩ := h
 exact ⟨l.set k x, by rw [List.length_set], hr.set k hk x⟩
end Go.Gim
namespace Go.Proofs.YthlmgoagnfkhdaaGreat
open Go.RowKit Go.Gim
theorem symW_one (g cap N f a m b : Nat) (hn : N ≤ 1000)  (h1 : b - a ≤ f + 1) (h2 : a < m) (h3 : m < b) (h4 : b ≤ N) (w : World) (hr : WR w g N 47) (hc : m - a = 1) :
  Calls Tryz.prog 157 #[.slice (some ⟨g, 0, none⟩) N cap, .int .i64 a, .int .i64 m, .int .i64 b, .func (.func 87) #[] #[]] w (KeptW g N 47 w) := by
 have H1 := Lib.hid hr
 have Hb := Lib.hid (And.intro h1 (And.intro h2 (And.intro h3 h4)))
 have Hn := Lib.hid hn
 have hgl := hr.lt
 obtain ⟨i0, hi0, W1⟩ := sub_opq (a := m) (b := a) (by omega) (by omega)
 have c1 : i0 = 1 := by omega
 clear hr h1 h2 h3 h4 hn hc
 have w1 := W1.out
 go_enter Tryz.func157, Tryz.ntmps157
 subst c1
 rw [show (((1 : Nat) : Nat) : Int) = 1 from rfl] at w1
 clear hi0
 go_wp2_with fail
 go_loopw [10, 11] (fun s8 s9 wr => ∃ i j : Nat, s8 = .int .i64 i ∧ s9 = .int .i64 j ∧ Hid (m ≤ i ∧ i ≤ j ∧ j ≤ b) ∧ Hid (WR wr g N 47) ∧ Mod (· = g) w wr) (fun s8 s9 _ => (intOf s9).toNat - (intOf s8).toNat)
 case atStart => exact ⟨m, b, rfl, rfl, Lib.hid (by have := Hb.out; omega), H1, Mod.refl _ _⟩
 case round =>
  clear w1 H1 hgl
  obtain ⟨i, j, rfl, rfl, HI, HR, hm⟩ := hrel
  have hI := HI.out
  have hB := Hb.out
  have hn := Hn.out
  by_cases hij : i < j
  ·have e1 : (i : Int) < (j : Int) := by omega
   obtain ⟨y, hy, W2⟩ := add_opq (a := i) (b := j) (by omega)
   obtain ⟨h, hh1, hh2, W3⟩ := half_opq (y := y) (by omega)
   obtain ⟨h', hh3, W4⟩ := inc_opq (a := h) (by omega)
   obtain ⟨X, Y, c0, c1, c2, c3⟩ := HR.out.two (i := h) (j := a) (by omega) (by omega)
   have b1 : (h : Int) < (N : Int) := by omega
   have b2 : (a : Int) < (N : Int) := by omega
   have b3 : (0 : Int) ≤ (h : Int) := by omega
   have b4 : (0 : Int) ≤ (a : Int) := by omega
   have hgl := HR.out.lt
   have Hh := Lib.hid (show i ≤ h ∧ h < j ∧ h' = h + 1 by omega)
   have Hij := Lib.hid (And.intro hI hij)
   clear hI hB hn hy hij hh1 hh2 hh3
   have w2 := W2.out
   have w3 := W3.out
   have w4 := W4.out
   have hB := selLess X Y
   cases hL : lessS X Y with
   | true =>
    rw [hL] at hB
    go_wp2_with fail
    refine wp_region_ext_lit (by kernel_rfl) (by kernel_rfl) ?_
    repeat (go_big_quiet_step (exact Calls.ext_of (selCmp_any _ _ _)))
    refine wpQuiet_nil ?_
    intro we hxe
    go_wp2_with fail
    go_roundw
    case rel => exact ⟨h', j, by first | with_reducible rfl | with_reducible exact congrArg _ w4, rfl, Lib.hid (by have := Hh.out; have := Hij.out; omega), Lib.hid (HR.out.mod hxe (fun f => f)), hm.trans hxe (fun _ _ f => f.elim)⟩
    case measure => exact meas_lo w4 (by have := Hh.out; omega)
   | false =>
    rw [hL] at hB
    go_wp2_with fail
    refine wp_region_ext_lit (by kernel_rfl) (by kernel_rfl) ?_
    repeat (go_big_quiet_step (exact Calls.ext_of (selCmp_any _ _ _)))
    refine wpQuiet_nil ?_
    intro we hxe
    go_wp2_with fail
    go_roundw
    case rel => exact ⟨i, h, rfl, by first | with_reducible rfl | with_reducible exact congrArg _ w3, Lib.hid (by have := Hh.out; have := Hij.out; omega), Lib.hid (HR.out.mod hxe (fun f => f)), hm.trans hxe (fun _ _ f => f.elim)⟩
    case measure => exact meas_hi w3 (by have := Hh.out; omega)
  ·have e1 : ¬ (i : Int) < (j : Int) := by omega
   obtain ⟨d, hd, W2⟩ := dec_opq (a := i) (by omega) (by omega)
   have Hd := Lib.hid (show d + 1 = i ∧ i ≤ b by omega)
   clear hI hB hn hij hd
   have w2 := W2.out
   go_wp2_with fail
   go_loopw [13] (fun s8 wz => ∃ k : Nat, s8 = .int .i64 k ∧ Hid (k ≤ b) ∧ Hid (WR wz g N 47) ∧ Mod (· = g) w wz) (fun s8 _ => b - (intOf s8).toNat)
   case atStart => exact ⟨a, rfl, Lib.hid (by have := Hb.out; omega), HR, hm⟩
   case round =>
    clear HR hm
    obtain ⟨k, rfl, HK, HR, hm⟩ := hrel
    by_cases hkd : k < d
    ·have e2 : (k : Int) < (d : Int) := by omega
     have hB := Hb.out
     have hn := Hn.out
     have hD := Hd.out
     obtain ⟨k', hk', W4⟩ := inc_opq (a := k) (by omega)
     have W5 := Lib.hid (show IntKind.i64.wrap ((k : Int) + 1) = (k' : Int) by rw [IntWalk.i64_left]; exact W4.out)
     obtain ⟨X, Y, c0, c1, c2, c3⟩ := HR.out.two (i := k) (j := k') (by omega) (by omega)
     have b1 : (k : Int) < (N : Int) := by omega
     have b2 : (k' : Int) < (N : Int) := by omega
     have b3 : (0 : Int) ≤ (k : Int) := by omega
     have b4 : (0 : Int) ≤ (k' : Int) := by omega
     have f0 := HR.out.free (k * 2)
     have f1 := HR.out.free (k * 2 + 1)
     have f2 := HR.out.free (k' * 2)
     have f3 := HR.out.free (k' * 2 + 1)
     have hgl := HR.out.lt
     have Hrow := Lib.hid ((HR.out.put (k := k) (by omega) Y).put (k := k') (by omega) X)
     have hne : ¬ k = k' := by omega
     have Hk := Lib.hid (show k' = k + 1 ∧ k' ≤ b by omega)
     clear hB hn hD hk' hkd HR
     have w4 := W4.out
     have w5 := W5.out
     go_wp2_with fail
     go_region
     clear c0 c1 c2 c3 f0 f1 f2 f3
     go_wp2_with fail
     go_roundw
     case rel => exact ⟨k', by first | with_reducible rfl | with_reducible exact congrArg _ w4, Lib.hid Hk.out.2, Lib.hid (Hrow.out.mod ((Mod.refl (fun _ => False) _).drew) (fun f => f)), ((((hm.setCell (p := ⟨g, k * 2, none⟩) (fun _ => rfl) _).setCell (p := ⟨g, k * 2 + 1, none⟩) (fun _ => rfl) _).setCell (p := ⟨g, k' * 2, none⟩) (fun _ => rfl) _).setCell (p := ⟨g, k' * 2 + 1, none⟩) (fun _ => rfl) _).drew⟩
     case measure =>
      have h8 := Hk.out
      simp only [intOf, w4, Int.toNat_natCast]
      clear w4 w5
      omega
    ·have e2 : ¬ (k : Int) < (d : Int) := by omega
     clear hkd
     go_wp2_with fail
     go_end0
     exact ⟨rfl, HR.out, hm⟩
theorem symW_last (g cap N f a m b : Nat) (hn : N ≤ 1000)  (h1 : b - a ≤ f + 1) (h2 : a < m) (h3 : m < b) (h4 : b ≤ N) (w : World) (hr : WR w g N 47) (hc1 : ¬ m - a = 1) (hc : b - m = 1) :
  Calls Tryz.prog 157 #[.slice (some ⟨g, 0, none⟩) N cap, .int .i64 a, .int .i64 m, .int .i64 b, .func (.func 87) #[] #[]] w (KeptW g N 47 w) := by
 have H1 := Lib.hid hr
 have Hb := Lib.hid (And.intro h1 (And.intro h2 (And.intro h3 h4)))
 have Hn := Lib.hid hn
 have hgl := hr.lt
 obtain ⟨i0, hi0, W1⟩ := sub_opq (a := m) (b := a) (by omega) (by omega)
 have e0 : ((i0 : Int) == 1) = false := by simp; omega
 have e0' : ¬ (i0 : Int) = 1 := by omega
 obtain ⟨j0, hj0, W2⟩ := sub_opq (a := b) (b := m) (by omega) (by omega)
 have Hi0 := Lib.hid (show 1 < i0 ∧ i0 + a = m by omega)
 have c2 : j0 = 1 := by omega
 clear hr h1 h2 h3 h4 hn hc hc1
 have w1 := W1.out
 have w2 := W2.out
 go_enter Tryz.func157, Tryz.ntmps157
 subst c2
 rw [show (((1 : Nat) : Nat) : Int) = 1 from rfl] at w2
 clear hi0 hj0
 go_wp2_with fail
 go_loopw [14, 15] (fun s8 s9 wr => ∃ i j : Nat, s8 = .int .i64 i ∧ s9 = .int .i64 j ∧ Hid (a ≤ i ∧ i ≤ j ∧ j ≤ m) ∧ Hid (WR wr g N 47) ∧ Mod (· = g) w wr) (fun s8 s9 _ => (intOf s9).toNat - (intOf s8).toNat)
 case atStart => exact ⟨a, m, rfl, rfl, Lib.hid (by have := Hb.out; omega), H1, Mod.refl _ _⟩
 case round =>
  clear w1 w2 H1 hgl e0 e0'
  obtain ⟨i, j, rfl, rfl, HI, HR, hm⟩ := hrel
  have hI := HI.out
  have hB := Hb.out
  have hn := Hn.out
  by_cases hij : i < j
  ·have e1 : (i : Int) < (j : Int) := by omega
   obtain ⟨y, hy, W2⟩ := add_opq (a := i) (b := j) (by omega)
   obtain ⟨h, hh1, hh2, W3⟩ := half_opq (y := y) (by omega)
   obtain ⟨h', hh3, W4⟩ := inc_opq (a := h) (by omega)
   obtain ⟨X, Y, c0, c1, c2, c3⟩ := HR.out.two (i := m) (j := h) (by omega) (by omega)
   have b1 : (h : Int) < (N : Int) := by omega
   have b2 : (m : Int) < (N : Int) := by omega
   have b3 : (0 : Int) ≤ (h : Int) := by omega
   have b4 : (0 : Int) ≤ (m : Int) := by omega
   have hgl := HR.out.lt
   have Hh := Lib.hid (show i ≤ h ∧ h < j ∧ h' = h + 1 by omega)
   have Hij := Lib.hid (And.intro hI hij)
   clear hI hB hn hy hij hh1 hh2 hh3
   have w2 := W2.out
   have w3 := W3.out
   have w4 := W4.out
   have hB := selLess X Y
   cases hL : lessS X Y with
   | false =>
    rw [hL] at hB
    go_wp2_with fail
    refine wp_region_ext_lit (by kernel_rfl) (by kernel_rfl) ?_
    repeat (go_big_quiet_step (exact Calls.ext_of (selCmp_any _ _ _)))
    refine wpQuiet_nil ?_
    intro we hxe
    go_wp2_with fail
    go_roundw
    case rel => exact ⟨h', j, by first | with_reducible rfl | with_reducible exact congrArg _ w4, rfl, Lib.hid (by have := Hh.out; have := Hij.out; omega), Lib.hid (HR.out.mod hxe (fun f => f)), hm.trans hxe (fun _ _ f => f.elim)⟩
    case measure => exact meas_lo w4 (by have := Hh.out; omega)
   | true =>
    rw [hL] at hB
    go_wp2_with fail
    refine wp_region_ext_lit (by kernel_rfl) (by kernel_rfl) ?_
    repeat (go_big_quiet_step (exact Calls.ext_of (selCmp_any _ _ _)))
    refine wpQuiet_nil ?_
    intro we hxe
    go_wp2_with fail
    go_roundw
    case rel => exact ⟨i, h, rfl, by first | with_reducible rfl | with_reducible exact congrArg _ w3, Lib.hid (by have := Hh.out; have := Hij.out; omega), Lib.hid (HR.out.mod hxe (fun f => f)), hm.trans hxe (fun _ _ f => f.elim)⟩
    case measure => exact meas_hi w3 (by have := Hh.out; omega)
  ·have e1 : ¬ (i : Int) < (j : Int) := by omega
   have Hd := Lib.hid (show a ≤ i ∧ i ≤ m by omega)
   clear hI hB hn hij
   go_wp2_with fail
   go_loopw [17] (fun s8 wz => ∃ k : Nat, s8 = .int .i64 k ∧ Hid (k ≤ m) ∧ Hid (WR wz g N 47) ∧ Mod (· = g) w wz) (fun s8 _ => (intOf s8).toNat)
   case atStart => exact ⟨m, rfl, Lib.hid (Nat.le_refl _), HR, hm⟩
   case round =>
    clear HR hm
    obtain ⟨k, rfl, HK, HR, hm⟩ := hrel
    by_cases hkd : i < k
    ·have e2 : (i : Int) < (k : Int) := by omega
     have hB := Hb.out
     have hn := Hn.out
     have hD := Hd.out
     have hK := HK.out
     obtain ⟨k', hk', W4⟩ := dec_opq (a := k) (by omega) (by omega)
     have W5 := Lib.hid (show IntKind.i64.wrap ((k : Int) - 1) = (k' : Int) by rw [IntWalk.i64_left]; exact W4.out)
     obtain ⟨X, Y, c0, c1, c2, c3⟩ := HR.out.two (i := k) (j := k') (by omega) (by omega)
     have b1 : (k : Int) < (N : Int) := by omega
     have b2 : (k' : Int) < (N : Int) := by omega
     have b3 : (0 : Int) ≤ (k : Int) := by omega
     have b4 : (0 : Int) ≤ (k' : Int) := by omega
     have f0 := HR.out.free (k * 2)
     have f1 := HR.out.free (k * 2 + 1)
     have f2 := HR.out.free (k' * 2)
     have f3 := HR.out.free (k' * 2 + 1)
     have hgl := HR.out.lt
     have Hrow := Lib.hid ((HR.out.put (k := k) (by omega) Y).put (k := k') (by omega) X)
     have hne : ¬ k = k' := by omega
     have Hk := Lib.hid (show k' + 1 = k ∧ k' ≤ m by omega)
     clear hB hn hD hK hk' hkd HR
     have w4 := W4.out
     have w5 := W5.out
     go_wp2_with fail
     go_region
     clear c0 c1 c2 c3 f0 f1 f2 f3
     go_wp2_with fail
     go_roundw
     case rel => exact ⟨k', by first | with_reducible rfl | with_reducible exact congrArg _ w4, Lib.hid Hk.out.2, Lib.hid (Hrow.out.mod ((Mod.refl (fun _ => False) _).drew) (fun f => f)), ((((hm.setCell (p := ⟨g, k * 2, none⟩) (fun _ => rfl) _).setCell (p := ⟨g, k * 2 + 1, none⟩) (fun _ => rfl) _).setCell (p := ⟨g, k' * 2, none⟩) (fun _ => rfl) _).setCell (p := ⟨g, k' * 2 + 1, none⟩) (fun _ => rfl) _).drew⟩
     case measure =>
      have h8 := Hk.out
      simp only [intOf, w4, Int.toNat_natCast]
      clear w4 w5
      omega
    ·have e2 : ¬ (i : Int) < (k : Int) := by omega
     clear hkd
     go_wp2_with fail
     go_end0
     exact ⟨rfl, HR.out, hm⟩
end Go.Proofs.YthlmgoagnfkhdaaGreat

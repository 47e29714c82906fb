/- The library's stable sort of selections, however many, whatever it comes to. Conditions: at most 1000 selections. -/
import Derived.Test.YthlmgoagnfkhdaaGreatGimXSheetRefuses
import Derived.Test.YthlmgoagnfkhdaaGreatGimSortW4
import Derived.Test.YthlmgoagnfkhdaaGreatGimSortW6
set_option maxHeartbeats 6400000
set_option maxRecDepth 1000000
set_option linter.unusedVariables false
set_option linter.unusedSimpArgs false
namespace Go.Gim
open Go Go.RowKit
theorem dbl_opq {a : Nat} (h : a ≤ 1000000) : ∃ d : Nat, d = 2 * a ∧ Hid (wrap64 (2 * (a : Int)) = (d : Int)) ∧ Hid (wrap64 ((a : Int) * 2) = (d : Int)) := by
 refine ⟨2 * a, rfl, Lib.hid ?_, Lib.hid ?_⟩
 ·rw [IntWalk.wrap64_in _ ⟨by omega, by omega⟩]; omega
 ·rw [IntWalk.wrap64_in _ ⟨by omega, by omega⟩]; omega
theorem meas_up {x : Int} {c b b' : Nat} (hx : x = (b' : Int)) (h : b < b' ∧ b < c) : c - (intOf (.int .i64 x)).toNat < c - (intOf (.int .i64 (b : Int))).toNat := by
 subst hx
 simp only [intOf, Int.toNat_natCast]
 omega
end Go.Gim
namespace Go.Proofs.YthlmgoagnfkhdaaGreat
open Go.RowKit Go.Gim
theorem symW_any (g cap N : Nat) (hn : N ≤ 1000) : ∀ (f a m b : Nat), b - a ≤ f → a < m → m < b → b ≤ N → ∀ w, WR w g N 47 →
  Calls Tryz.prog 157 #[.slice (some ⟨g, 0, none⟩) N cap, .int .i64 a, .int .i64 m, .int .i64 b, .func (.func 87) #[] #[]] w (KeptW g N 47 w) := by
 intro f
 induction f with
 | zero => intro a m b h1 h2 h3; omega
 | succ f ih =>
  intro a m b h1 h2 h3 h4 w hr
  by_cases c1 : m - a = 1
  ·exact symW_one g cap N f a m b hn h1 h2 h3 h4 w hr c1
  ·by_cases c2 : b - m = 1
   ·exact symW_last g cap N f a m b hn h1 h2 h3 h4 w hr c1 c2
   ·exact symW_mid g cap N f a m b hn ih h1 h2 h3 h4 w hr c1 c2
theorem stableW_any (g cap N : Nat) (w : World) (hr : WR w g N 47) (hn : N ≤ 1000) :
  Calls Tryz.prog 121 #[.slice (some ⟨g, 0, none⟩) N cap, .int .i64 N, .func (.func 87) #[] #[]] w (KeptW g N 47 w) := by
 have H1 := Lib.hid hr
 have Hn := Lib.hid hn
 clear hr hn
 go_enter Tryz.func121, Tryz.ntmps121
 go_wp2_with fail
 go_loopw [7, 8] (fun s7 s8 wr => ∃ a b : Nat, s7 = .int .i64 a ∧ s8 = .int .i64 b ∧ Hid (b = a + 20 ∧ a ≤ N) ∧ Hid (WR wr g N 47) ∧ Mod (· = g) w wr) (fun _ s8 _ => N + 1 - (intOf s8).toNat)
 case atStart => exact ⟨0, 20, rfl, rfl, Lib.hid (by omega), H1, Mod.refl _ _⟩
 case round =>
  clear H1
  obtain ⟨a, b, rfl, rfl, HI, HR, hm⟩ := hrel
  by_cases hlt : b ≤ N
  ·have e1 : (b : Int) ≤ (N : Int) := by omega
   have hI := HI.out
   have hn := Hn.out
   obtain ⟨b', hb', W1⟩ := add_opq (a := b) (b := 20) (by omega)
   have HS := Lib.hid (insertW_any g cap a b N _ HR.out (by omega) hlt hn)
   unfold KeptW at HS
   have HI2 := Lib.hid (show b' = b + 20 ∧ b ≤ N by omega)
   have HM := Lib.hid (show b < b' ∧ b < N + 1 by omega)
   clear hI hn hb' hlt
   have w1 := W1.out
   rw [show (((20 : Nat) : Nat) : Int) = 20 from rfl] at w1
   go_wp2_with fail
   refine HS.out.mono ?_
   rintro e wq ⟨rfl, h1, h2⟩
   have H2 := Lib.hid h1
   clear h1
   go_wp2_with fail
   go_roundw
   case rel => exact ⟨b, b', rfl, by first | with_reducible rfl | with_reducible exact congrArg _ w1, HI2, H2, hm.trans h2 (fun _ _ e => e)⟩
   case measure => exact meas_up w1 HM.out
  ·have e1 : ¬ (b : Int) ≤ (N : Int) := by omega
   have hI := HI.out
   have HS := Lib.hid (insertW_any g cap a N N _ HR.out (by omega) (Nat.le_refl _) Hn.out)
   unfold KeptW at HS
   clear hI hlt
   go_wp2_with fail
   refine HS.out.mono ?_
   rintro e wq ⟨rfl, h1, h2⟩
   have H2 := Lib.hid h1
   have hm2 := hm.trans h2 (fun _ _ e => e)
   clear h1 h2 HR hm
   go_wp2_with fail
   go_loopw [6] (fun s6 wr => ∃ bs : Nat, s6 = .int .i64 bs ∧ Hid (20 ≤ bs ∧ bs ≤ 2000) ∧ Hid (WR wr g N 47) ∧ Mod (· = g) w wr) (fun s6 _ => N - (intOf s6).toNat)
   case atStart => exact ⟨20, rfl, Lib.hid (by omega), H2, hm2⟩
   case round =>
    clear H2 hm2 HI e1
    obtain ⟨bs, rfl, HI, HR, hm⟩ := hrel
    by_cases hlt : bs < N
    ·have e1 : (bs : Int) < (N : Int) := by omega
     have hI := HI.out
     have hn := Hn.out
     obtain ⟨d, hd, W1, W2⟩ := dbl_opq (a := bs) (by omega)
     have HD := Lib.hid (show d = 2 * bs ∧ 20 ≤ bs ∧ bs < N ∧ N ≤ 1000 by omega)
     have HI2 := Lib.hid (show 20 ≤ d ∧ d ≤ 2000 by omega)
     have HM := Lib.hid (show bs < d ∧ bs < N by omega)
     clear hI hn hd hlt HI
     have w1 := W1.out
     go_wp2_with fail
     rw [w1]
     clear w1
     go_loopw [7, 8] (fun s7 s8 wz => ∃ a b : Nat, s7 = .int .i64 a ∧ s8 = .int .i64 b ∧ Hid (b = a + d ∧ a ≤ N) ∧ Hid (WR wz g N 47) ∧ Mod (· = g) w wz) (fun _ s8 _ => N + 1 - (intOf s8).toNat)
     case atStart => exact ⟨0, d, rfl, rfl, Lib.hid (by omega), HR, hm⟩
     case round =>
      clear HR hm e1
      obtain ⟨a, b, rfl, rfl, HJ, HR, hm⟩ := hrel
      have hJ := HJ.out
      have hD := HD.out
      by_cases hlt : b ≤ N
      ·have e1 : (b : Int) ≤ (N : Int) := by omega
       obtain ⟨b', hb', W3⟩ := add_opq (a := b) (b := d) (by omega)
       obtain ⟨m, hm1, W4⟩ := add_opq (a := a) (b := bs) (by omega)
       have HS := Lib.hid (symW_any g cap N (by omega) (b - a) a m b (Nat.le_refl _) (by omega) (by omega) hlt _ HR.out)
       unfold KeptW at HS
       have HJ2 := Lib.hid (show b' = b + d ∧ b ≤ N by omega)
       have HM := Lib.hid (show b < b' ∧ b < N + 1 by omega)
       clear hJ hD hb' hlt hm1
       have w1 := W1.out
       have w3 := W3.out
       have w4 := W4.out
       go_wp2_with fail
       refine HS.out.mono ?_
       rintro e wq ⟨rfl, h1, h2⟩
       have H2 := Lib.hid h1
       clear h1
       go_wp2_with fail
       go_roundw
       case rel => exact ⟨b, b', rfl, by first | with_reducible rfl | with_reducible exact congrArg _ w3, HJ2, H2, hm.trans h2 (fun _ _ e => e)⟩
       case measure => exact meas_up w3 HM.out
      ·have e1 : ¬ (b : Int) ≤ (N : Int) := by omega
       obtain ⟨m, hm1, W4⟩ := add_opq (a := a) (b := bs) (by omega)
       by_cases hmn : m < N
       ·have e2 : (m : Int) < (N : Int) := by omega
        have HS := Lib.hid (symW_any g cap N (by omega) (N - a) a m N (Nat.le_refl _) (by omega) hmn (Nat.le_refl _) _ HR.out)
        unfold KeptW at HS
        clear hJ hD hlt hm1 hmn
        have w2 := W2.out
        have w4 := W4.out
        go_wp2_with fail
        refine HS.out.mono ?_
        rintro e wq ⟨rfl, h1, h2⟩
        have H2 := Lib.hid h1
        clear h1
        go_wp2_with fail
        go_roundw
        case rel => exact ⟨d, by first | with_reducible rfl | with_reducible exact congrArg _ w2, HI2, H2, hm.trans h2 (fun _ _ e => e)⟩
        case measure => exact meas_up w2 HM.out
       ·have e2 : ¬ (m : Int) < (N : Int) := by omega
        clear hJ hD hlt hm1 hmn
        have w2 := W2.out
        have w4 := W4.out
        go_wp2_with fail
        go_roundw
        case rel => exact ⟨d, by first | with_reducible rfl | with_reducible exact congrArg _ w2, HI2, HR, hm⟩
        case measure => exact meas_up w2 HM.out
    ·have e1 : ¬ (bs : Int) < (N : Int) := by omega
     clear hlt
     go_wp2_with fail
     go_end0
     exact ⟨rfl, HR.out, hm⟩
theorem sortW_any (g cap N : Nat) (w : World) (hr : WR w g N 47) (hn : N ≤ 1000) :
  Calls Tryz.prog 86 #[.slice (some ⟨g, 0, none⟩) N cap, .func (.func 87) #[] #[]] w (KeptW g N 47 w) := by
 have Hi := Lib.hid (stableW_any g cap N w hr hn)
 unfold KeptW at Hi ⊢
 clear hr hn
 go_enter Tryz.func86, Tryz.ntmps86
 go_wp2_with fail
 refine Hi.out.mono ?_
 rintro e w1 ⟨rfl, hr, hm⟩
 go_wp2_with fail
 go_end0
 exact ⟨rfl, hr, hm⟩
end Go.Proofs.YthlmgoagnfkhdaaGreat

/- The library's merging in place, both stretches of more than one selection. Conditions: at most 1000 selections. -/
import Derived.Test.YthlmgoagnfkhdaaGreatGimXSheetRefuses
import Derived.Test.YthlmgoagnfkhdaaGreatGimSortW4
set_option maxHeartbeats 6400000
set_option maxRecDepth 1000000
set_option linter.unusedVariables false
set_option linter.unusedSimpArgs false
namespace Go.Proofs.YthlmgoagnfkhdaaGreat
open Go.RowKit Go.Gim
theorem symW_mid (g cap N f a m b : Nat) (hn : N ≤ 1000) (ih : ∀ (a m b : Nat), b - a ≤ f → a < m → m < b → b ≤ N → ∀ w, WR w g N 47 → Calls Tryz.prog 157 #[.slice (some ⟨g, 0, none⟩) N cap, .int .i64 a, .int .i64 m, .int .i64 b, .func (.func 87) #[] #[]] w (KeptW g N 47 w)) (h1 : b - a ≤ f + 1) (h2 : a < m) (h3 : m < b) (h4 : b ≤ N) (w : World) (hr : WR w g N 47) (hc1 : ¬ m - a = 1) (hc2 : ¬ b - m = 1) :
  Calls Tryz.prog 157 #[.slice (some ⟨g, 0, none⟩) N cap, .int .i64 a, .int .i64 m, .int .i64 b, .func (.func 87) #[] #[]] w (KeptW g N 47 w) := by
 have IH := Lib.hid ih
 have H1 := Lib.hid hr
 have Hb := Lib.hid (And.intro h1 (And.intro h2 (And.intro h3 h4)))
 have Hn := Lib.hid hn
 have hgl := hr.lt
 obtain ⟨i0, hi0, W1⟩ := sub_opq (a := m) (b := a) (by omega) (by omega)
 have e0 : ((i0 : Int) == 1) = false := by simp; omega
 have e0' : ¬ (i0 : Int) = 1 := by omega
 obtain ⟨j0, hj0, W2⟩ := sub_opq (a := b) (b := m) (by omega) (by omega)
 have Hi0 := Lib.hid (show 1 < i0 ∧ i0 + a = m by omega)
 have e3 : ((j0 : Int) == 1) = false := by simp; omega
 have e3' : ¬ (j0 : Int) = 1 := by omega
 obtain ⟨y, hy, W3⟩ := add_opq (a := a) (b := b) (by omega)
 obtain ⟨mid, hm1, hm2, W4⟩ := half_opq (y := y) (by omega)
 obtain ⟨n, hnn, W5⟩ := add_opq (a := mid) (b := m) (by omega)
 obtain ⟨p, hp, W7⟩ := dec_opq (a := n) (by omega) (by omega)
 have Hmd := Lib.hid (show 2 * mid ≤ a + b ∧ a + b ≤ 2 * mid + 1 ∧ n = mid + m ∧ p + 1 = n by omega)
 clear hr ih h1 h2 h3 h4 hn hc1 hc2 hi0 hj0 hy hm1 hm2 hnn hp
 have w1 := W1.out
 have w2 := W2.out
 have w3 := W3.out
 have w4 := W4.out
 have w5 := W5.out
 have w7 := W7.out
 go_enter Tryz.func157, Tryz.ntmps157
 go_upto_if 140 with fail
 go_cut [18, 19, 20, 21] (fun v18 v19 v20 v21 wx => ∃ (st r : Nat), v18 = .int .i64 mid ∧ v19 = .int .i64 n ∧ v20 = .int .i64 st ∧ v21 = .int .i64 r ∧ w = wx ∧ Hid (a ≤ st ∧ st ≤ r ∧ r ≤ n ∧ n ≤ st + b ∧ r ≤ b))
 case first =>
  by_cases c3 : mid < m
  ·have q1 : (mid : Int) < (m : Int) := by omega
   have q2 : decide ((mid : Int) < (m : Int)) = true := decide_eq_true q1
   have hM := Hmd.out
   have hB := Hb.out
   have hn := Hn.out
   obtain ⟨s0, hs0, W6⟩ := sub_opq (a := n) (b := b) (by omega) (by omega)
   have Hr := Lib.hid (show a ≤ s0 ∧ s0 ≤ mid ∧ mid ≤ n ∧ n ≤ s0 + b ∧ mid ≤ b by omega)
   clear hs0 hM hB hn c3
   have w6 := W6.out
   go_wp2_with fail
   go_meet
   case rel => exact ⟨s0, mid, by first | with_reducible rfl | with_reducible exact congrArg _ w4, by first | with_reducible rfl | with_reducible exact congrArg _ w5, by first | with_reducible rfl | with_reducible exact congrArg _ w6, by first | with_reducible rfl | with_reducible exact congrArg _ w4, rfl, Hr⟩
  ·have q1 : ¬ (mid : Int) < (m : Int) := by omega
   have q2 : decide ((mid : Int) < (m : Int)) = false := decide_eq_false q1
   have Hr := Lib.hid (show a ≤ a ∧ a ≤ m ∧ m ≤ n ∧ n ≤ a + b ∧ m ≤ b by have := Hmd.out; have := Hb.out; omega)
   clear c3
   go_wp2_with fail
   go_meet
   case rel => exact ⟨a, m, by first | with_reducible rfl | with_reducible exact congrArg _ w4, by first | with_reducible rfl | with_reducible exact congrArg _ w5, rfl, rfl, rfl, Hr⟩
 case rest =>
  obtain ⟨st0, r0, rfl, rfl, rfl, rfl, rfl, HI⟩ := hcut
  go_wp2_with fail
  go_loopw [20, 21] (fun s8 s9 wr => ∃ i j : Nat, s8 = .int .i64 i ∧ s9 = .int .i64 j ∧ Hid (a ≤ i ∧ i ≤ j ∧ j ≤ n ∧ n ≤ i + b ∧ j ≤ b) ∧ Hid (WR wr g N 47) ∧ Mod (· = g) w wr) (fun s8 s9 _ => (intOf s9).toNat - (intOf s8).toNat)
  case atStart => exact ⟨st0, r0, rfl, rfl, HI, H1, Mod.refl _ _⟩
  case round =>
   clear w1 w2 w3 w4 w5 w7 H1 hgl e0 e0' e3 e3' HI
   obtain ⟨i, j, rfl, rfl, HI, HR, hm⟩ := hrel
   have hI := HI.out
   have hB := Hb.out
   have hn := Hn.out
   have hM := Hmd.out
   by_cases hij : i < j
   ·have e1 : (i : Int) < (j : Int) := by omega
    obtain ⟨y1, hy1, W2⟩ := add_opq (a := i) (b := j) (by omega)
    obtain ⟨h, hh1, hh2, W3⟩ := half_opq (y := y1) (by omega)
    obtain ⟨h', hh3, W4⟩ := inc_opq (a := h) (by omega)
    obtain ⟨pc, hpc, W8⟩ := sub_opq (a := p) (b := h) (by omega) (by omega)
    have W9 := Lib.hid (show IntKind.i64.wrap ((p : Int) - (h : Int)) = (pc : Int) by rw [IntWalk.i64_left]; exact W8.out)
    obtain ⟨X, Y, c0, c1, c2, c3⟩ := HR.out.two (i := pc) (j := h) (by omega) (by omega)
    have b1 : (h : Int) < (N : Int) := by omega
    have b2 : (pc : Int) < (N : Int) := by omega
    have b3 : (0 : Int) ≤ (h : Int) := by omega
    have b4 : (0 : Int) ≤ (pc : Int) := by omega
    have hgl := HR.out.lt
    have Hh := Lib.hid (show i ≤ h ∧ h < j ∧ h' = h + 1 by omega)
    have HIa := Lib.hid (show a ≤ h' ∧ h' ≤ j ∧ j ≤ n ∧ n ≤ h' + b ∧ j ≤ b by omega)
    have HIb := Lib.hid (show a ≤ i ∧ i ≤ h ∧ h ≤ n ∧ n ≤ i + b ∧ h ≤ b by omega)
    have HMa := Lib.hid (show i < h' ∧ h' ≤ j by omega)
    have HMb := Lib.hid (show i ≤ h ∧ h < j by omega)
    have Hij := Lib.hid (And.intro hI hij)
    clear hI hB hn hy1 hij hh1 hh2 hh3 hM hpc
    have w7 := W7.out
    have w2 := W2.out
    have w3 := W3.out
    have w4 := W4.out
    have w8 := W8.out
    have w9 := W9.out
    have hB := selLess X Y
    cases hL : lessS X Y with
    | false =>
     rw [hL] at hB
     go_wp2_with fail
     refine wp_region_ext_lit (by kernel_rfl) (by kernel_rfl) ?_
     repeat (go_big_quiet_step (exact Calls.ext_of (selCmp_any _ _ _)))
     refine wpQuiet_nil ?_
     intro we hxe
     go_wp2_with fail
     go_roundw
     case rel => exact ⟨h', j, by first | with_reducible rfl | with_reducible exact congrArg _ w4, rfl, HIa, Lib.hid (HR.out.mod hxe (fun f => f)), hm.trans hxe (fun _ _ f => f.elim)⟩
     case measure => exact meas_lo w4 HMa.out
    | true =>
     rw [hL] at hB
     go_wp2_with fail
     refine wp_region_ext_lit (by kernel_rfl) (by kernel_rfl) ?_
     repeat (go_big_quiet_step (exact Calls.ext_of (selCmp_any _ _ _)))
     refine wpQuiet_nil ?_
     intro we hxe
     go_wp2_with fail
     go_roundw
     case rel => exact ⟨i, h, rfl, by first | with_reducible rfl | with_reducible exact congrArg _ w3, HIb, Lib.hid (HR.out.mod hxe (fun f => f)), hm.trans hxe (fun _ _ f => f.elim)⟩
     case measure => exact meas_hi w3 HMb.out
   ·have e1 : ¬ (i : Int) < (j : Int) := by omega
    obtain ⟨st, hst⟩ : ∃ st, st = i := ⟨_, rfl⟩
    rw [← hst] at e1 hI ⊢
    obtain ⟨en, hen, W8⟩ := sub_opq (a := n) (b := st) (by omega) (by omega)
    have HZ := Lib.hid (show a ≤ st ∧ en + st = n ∧ n = mid + m ∧ 2 * mid ≤ a + b ∧ a + b ≤ 2 * mid + 1 ∧ a < m ∧ m < b ∧ b ≤ N ∧ en ≤ b ∧ b - a ≤ f + 1 by omega)
    clear hI hB hn hij hM hst hen
    have w8 := W8.out
    by_cases s1 : st < m
    ·by_cases s2 : m < en
     ·have q1 : (st : Int) < (m : Int) := by omega
      have q2 : decide ((st : Int) < (m : Int)) = true := decide_eq_true q1
      have q3 : (m : Int) < (en : Int) := by omega
      have q4 : decide ((m : Int) < (en : Int)) = true := decide_eq_true q3
      have HS := Lib.hid (rotateW_any g cap st m en N wr HR.out s1 s2 (by have := HZ.out; omega) Hn.out (.func (.func 87) #[] #[]))
      unfold KeptW at HS
      clear s1 s2
      go_wp2_with fail
      refine HS.out.mono ?_
      rintro e wq ⟨rfl, h1, h2⟩
      have HR := Lib.hid h1
      have hm := hm.trans h2 (fun _ _ e => e)
      clear h1 h2 HS q1 q2 q3 q4 e1
      by_cases s3 : a < st
      ·by_cases s4 : st < mid
       ·have q1 : (a : Int) < (st : Int) := by omega
        have q2 : decide ((a : Int) < (st : Int)) = true := decide_eq_true q1
        have q3 : (st : Int) < (mid : Int) := by omega
        have q4 : decide ((st : Int) < (mid : Int)) = true := decide_eq_true q3
        have HS := Lib.hid (IH.out a st mid (by have := HZ.out; omega) s3 s4 (by have := HZ.out; omega) _ HR.out)
        unfold KeptW at HS
        clear s3 s4
        go_wp2_with fail
        refine HS.out.mono ?_
        rintro e wq ⟨rfl, h1, h2⟩
        have HR := Lib.hid h1
        have hm := hm.trans h2 (fun _ _ e => e)
        clear h1 h2 HS q1 q2 q3 q4
        by_cases s5 : mid < en
        ·by_cases s6 : en < b
         ·have q1 : (mid : Int) < (en : Int) := by omega
          have q2 : decide ((mid : Int) < (en : Int)) = true := decide_eq_true q1
          have q3 : (en : Int) < (b : Int) := by omega
          have q4 : decide ((en : Int) < (b : Int)) = true := decide_eq_true q3
          have HS := Lib.hid (IH.out mid en b (by have := HZ.out; omega) s5 s6 (by have := HZ.out; omega) _ HR.out)
          unfold KeptW at HS
          clear s5 s6
          go_wp2_with fail
          refine HS.out.mono ?_
          rintro e wq2 ⟨rfl, h1, h2⟩
          go_wp2_with fail
          go_end0
          exact ⟨rfl, h1, hm.trans h2 (fun _ _ e => e)⟩
         ·have q1 : (mid : Int) < (en : Int) := by omega
          have q2 : decide ((mid : Int) < (en : Int)) = true := decide_eq_true q1
          have q3 : ¬ (en : Int) < (b : Int) := by omega
          have q4 : decide ((en : Int) < (b : Int)) = false := decide_eq_false q3
          clear s5 s6
          go_wp2_with fail
          go_end0
          exact ⟨rfl, HR.out, hm⟩
        ·have q1 : ¬ (mid : Int) < (en : Int) := by omega
         have q2 : decide ((mid : Int) < (en : Int)) = false := decide_eq_false q1
         clear s5
         go_wp2_with fail
         go_end0
         exact ⟨rfl, HR.out, hm⟩
       ·have q1 : (a : Int) < (st : Int) := by omega
        have q2 : decide ((a : Int) < (st : Int)) = true := decide_eq_true q1
        have q3 : ¬ (st : Int) < (mid : Int) := by omega
        have q4 : decide ((st : Int) < (mid : Int)) = false := decide_eq_false q3
        clear s3 s4
        go_upto_region 43 with fail
        clear q1 q2 q3 q4
        by_cases s5 : mid < en
        ·by_cases s6 : en < b
         ·have q1 : (mid : Int) < (en : Int) := by omega
          have q2 : decide ((mid : Int) < (en : Int)) = true := decide_eq_true q1
          have q3 : (en : Int) < (b : Int) := by omega
          have q4 : decide ((en : Int) < (b : Int)) = true := decide_eq_true q3
          have HS := Lib.hid (IH.out mid en b (by have := HZ.out; omega) s5 s6 (by have := HZ.out; omega) _ HR.out)
          unfold KeptW at HS
          clear s5 s6
          go_wp2_with fail
          refine HS.out.mono ?_
          rintro e wq2 ⟨rfl, h1, h2⟩
          go_wp2_with fail
          go_end0
          exact ⟨rfl, h1, hm.trans h2 (fun _ _ e => e)⟩
         ·have q1 : (mid : Int) < (en : Int) := by omega
          have q2 : decide ((mid : Int) < (en : Int)) = true := decide_eq_true q1
          have q3 : ¬ (en : Int) < (b : Int) := by omega
          have q4 : decide ((en : Int) < (b : Int)) = false := decide_eq_false q3
          clear s5 s6
          go_wp2_with fail
          go_end0
          exact ⟨rfl, HR.out, hm⟩
        ·have q1 : ¬ (mid : Int) < (en : Int) := by omega
         have q2 : decide ((mid : Int) < (en : Int)) = false := decide_eq_false q1
         clear s5
         go_wp2_with fail
         go_end0
         exact ⟨rfl, HR.out, hm⟩
      ·have q1 : ¬ (a : Int) < (st : Int) := by omega
       have q2 : decide ((a : Int) < (st : Int)) = false := decide_eq_false q1
       clear s3
       go_upto_region 43 with fail
       clear q1 q2
       by_cases s5 : mid < en
       ·by_cases s6 : en < b
        ·have q1 : (mid : Int) < (en : Int) := by omega
         have q2 : decide ((mid : Int) < (en : Int)) = true := decide_eq_true q1
         have q3 : (en : Int) < (b : Int) := by omega
         have q4 : decide ((en : Int) < (b : Int)) = true := decide_eq_true q3
         have HS := Lib.hid (IH.out mid en b (by have := HZ.out; omega) s5 s6 (by have := HZ.out; omega) _ HR.out)
         unfold KeptW at HS
         clear s5 s6
         go_wp2_with fail
         refine HS.out.mono ?_
         rintro e wq2 ⟨rfl, h1, h2⟩
         go_wp2_with fail
         go_end0
         exact ⟨rfl, h1, hm.trans h2 (fun _ _ e => e)⟩
        ·have q1 : (mid : Int) < (en : Int) := by omega
         have q2 : decide ((mid : Int) < (en : Int)) = true := decide_eq_true q1
         have q3 : ¬ (en : Int) < (b : Int) := by omega
         have q4 : decide ((en : Int) < (b : Int)) = false := decide_eq_false q3
         clear s5 s6
         go_wp2_with fail
         go_end0
         exact ⟨rfl, HR.out, hm⟩
       ·have q1 : ¬ (mid : Int) < (en : Int) := by omega
        have q2 : decide ((mid : Int) < (en : Int)) = false := decide_eq_false q1
        clear s5
        go_wp2_with fail
        go_end0
        exact ⟨rfl, HR.out, hm⟩
     ·have q1 : (st : Int) < (m : Int) := by omega
      have q2 : decide ((st : Int) < (m : Int)) = true := decide_eq_true q1
      have q3 : ¬ (m : Int) < (en : Int) := by omega
      have q4 : decide ((m : Int) < (en : Int)) = false := decide_eq_false q3
      clear s1 s2
      go_upto_region 41 with fail
      clear q1 q2 q3 q4 e1
      by_cases s3 : a < st
      ·by_cases s4 : st < mid
       ·have q1 : (a : Int) < (st : Int) := by omega
        have q2 : decide ((a : Int) < (st : Int)) = true := decide_eq_true q1
        have q3 : (st : Int) < (mid : Int) := by omega
        have q4 : decide ((st : Int) < (mid : Int)) = true := decide_eq_true q3
        have HS := Lib.hid (IH.out a st mid (by have := HZ.out; omega) s3 s4 (by have := HZ.out; omega) _ HR.out)
        unfold KeptW at HS
        clear s3 s4
        go_wp2_with fail
        refine HS.out.mono ?_
        rintro e wq ⟨rfl, h1, h2⟩
        have HR := Lib.hid h1
        have hm := hm.trans h2 (fun _ _ e => e)
        clear h1 h2 HS q1 q2 q3 q4
        by_cases s5 : mid < en
        ·by_cases s6 : en < b
         ·have q1 : (mid : Int) < (en : Int) := by omega
          have q2 : decide ((mid : Int) < (en : Int)) = true := decide_eq_true q1
          have q3 : (en : Int) < (b : Int) := by omega
          have q4 : decide ((en : Int) < (b : Int)) = true := decide_eq_true q3
          have HS := Lib.hid (IH.out mid en b (by have := HZ.out; omega) s5 s6 (by have := HZ.out; omega) _ HR.out)
          unfold KeptW at HS
          clear s5 s6
          go_wp2_with fail
          refine HS.out.mono ?_
          rintro e wq2 ⟨rfl, h1, h2⟩
          go_wp2_with fail
          go_end0
          exact ⟨rfl, h1, hm.trans h2 (fun _ _ e => e)⟩
         ·have q1 : (mid : Int) < (en : Int) := by omega
          have q2 : decide ((mid : Int) < (en : Int)) = true := decide_eq_true q1
          have q3 : ¬ (en : Int) < (b : Int) := by omega
          have q4 : decide ((en : Int) < (b : Int)) = false := decide_eq_false q3
          clear s5 s6
          go_wp2_with fail
          go_end0
          exact ⟨rfl, HR.out, hm⟩
        ·have q1 : ¬ (mid : Int) < (en : Int) := by omega
         have q2 : decide ((mid : Int) < (en : Int)) = false := decide_eq_false q1
         clear s5
         go_wp2_with fail
         go_end0
         exact ⟨rfl, HR.out, hm⟩
       ·have q1 : (a : Int) < (st : Int) := by omega
        have q2 : decide ((a : Int) < (st : Int)) = true := decide_eq_true q1
        have q3 : ¬ (st : Int) < (mid : Int) := by omega
        have q4 : decide ((st : Int) < (mid : Int)) = false := decide_eq_false q3
        clear s3 s4
        go_upto_region 43 with fail
        clear q1 q2 q3 q4
        by_cases s5 : mid < en
        ·by_cases s6 : en < b
         ·have q1 : (mid : Int) < (en : Int) := by omega
          have q2 : decide ((mid : Int) < (en : Int)) = true := decide_eq_true q1
          have q3 : (en : Int) < (b : Int) := by omega
          have q4 : decide ((en : Int) < (b : Int)) = true := decide_eq_true q3
          have HS := Lib.hid (IH.out mid en b (by have := HZ.out; omega) s5 s6 (by have := HZ.out; omega) _ HR.out)
          unfold KeptW at HS
          clear s5 s6
          go_wp2_with fail
          refine HS.out.mono ?_
          rintro e wq2 ⟨rfl, h1, h2⟩
          go_wp2_with fail
          go_end0
          exact ⟨rfl, h1, hm.trans h2 (fun _ _ e => e)⟩
         ·have q1 : (mid : Int) < (en : Int) := by omega
          have q2 : decide ((mid : Int) < (en : Int)) = true := decide_eq_true q1
          have q3 : ¬ (en : Int) < (b : Int) := by omega
          have q4 : decide ((en : Int) < (b : Int)) = false := decide_eq_false q3
          clear s5 s6
          go_wp2_with fail
          go_end0
          exact ⟨rfl, HR.out, hm⟩
        ·have q1 : ¬ (mid : Int) < (en : Int) := by omega
         have q2 : decide ((mid : Int) < (en : Int)) = false := decide_eq_false q1
         clear s5
         go_wp2_with fail
         go_end0
         exact ⟨rfl, HR.out, hm⟩
      ·have q1 : ¬ (a : Int) < (st : Int) := by omega
       have q2 : decide ((a : Int) < (st : Int)) = false := decide_eq_false q1
       clear s3
       go_upto_region 43 with fail
       clear q1 q2
       by_cases s5 : mid < en
       ·by_cases s6 : en < b
        ·have q1 : (mid : Int) < (en : Int) := by omega
         have q2 : decide ((mid : Int) < (en : Int)) = true := decide_eq_true q1
         have q3 : (en : Int) < (b : Int) := by omega
         have q4 : decide ((en : Int) < (b : Int)) = true := decide_eq_true q3
         have HS := Lib.hid (IH.out mid en b (by have := HZ.out; omega) s5 s6 (by have := HZ.out; omega) _ HR.out)
         unfold KeptW at HS
         clear s5 s6
         go_wp2_with fail
         refine HS.out.mono ?_
         rintro e wq2 ⟨rfl, h1, h2⟩
         go_wp2_with fail
         go_end0
         exact ⟨rfl, h1, hm.trans h2 (fun _ _ e => e)⟩
        ·have q1 : (mid : Int) < (en : Int) := by omega
         have q2 : decide ((mid : Int) < (en : Int)) = true := decide_eq_true q1
         have q3 : ¬ (en : Int) < (b : Int) := by omega
         have q4 : decide ((en : Int) < (b : Int)) = false := decide_eq_false q3
         clear s5 s6
         go_wp2_with fail
         go_end0
         exact ⟨rfl, HR.out, hm⟩
       ·have q1 : ¬ (mid : Int) < (en : Int) := by omega
        have q2 : decide ((mid : Int) < (en : Int)) = false := decide_eq_false q1
        clear s5
        go_wp2_with fail
        go_end0
        exact ⟨rfl, HR.out, hm⟩
    ·have q1 : ¬ (st : Int) < (m : Int) := by omega
     have q2 : decide ((st : Int) < (m : Int)) = false := decide_eq_false q1
     clear s1
     go_upto_region 41 with fail
     clear q1 q2 e1
     by_cases s3 : a < st
     ·by_cases s4 : st < mid
      ·have q1 : (a : Int) < (st : Int) := by omega
       have q2 : decide ((a : Int) < (st : Int)) = true := decide_eq_true q1
       have q3 : (st : Int) < (mid : Int) := by omega
       have q4 : decide ((st : Int) < (mid : Int)) = true := decide_eq_true q3
       have HS := Lib.hid (IH.out a st mid (by have := HZ.out; omega) s3 s4 (by have := HZ.out; omega) _ HR.out)
       unfold KeptW at HS
       clear s3 s4
       go_wp2_with fail
       refine HS.out.mono ?_
       rintro e wq ⟨rfl, h1, h2⟩
       have HR := Lib.hid h1
       have hm := hm.trans h2 (fun _ _ e => e)
       clear h1 h2 HS q1 q2 q3 q4
       by_cases s5 : mid < en
       ·by_cases s6 : en < b
        ·have q1 : (mid : Int) < (en : Int) := by omega
         have q2 : decide ((mid : Int) < (en : Int)) = true := decide_eq_true q1
         have q3 : (en : Int) < (b : Int) := by omega
         have q4 : decide ((en : Int) < (b : Int)) = true := decide_eq_true q3
         have HS := Lib.hid (IH.out mid en b (by have := HZ.out; omega) s5 s6 (by have := HZ.out; omega) _ HR.out)
         unfold KeptW at HS
         clear s5 s6
         go_wp2_with fail
         refine HS.out.mono ?_
         rintro e wq2 ⟨rfl, h1, h2⟩
         go_wp2_with fail
         go_end0
         exact ⟨rfl, h1, hm.trans h2 (fun _ _ e => e)⟩
        ·have q1 : (mid : Int) < (en : Int) := by omega
         have q2 : decide ((mid : Int) < (en : Int)) = true := decide_eq_true q1
         have q3 : ¬ (en : Int) < (b : Int) := by omega
         have q4 : decide ((en : Int) < (b : Int)) = false := decide_eq_false q3
         clear s5 s6
         go_wp2_with fail
         go_end0
         exact ⟨rfl, HR.out, hm⟩
       ·have q1 : ¬ (mid : Int) < (en : Int) := by omega
        have q2 : decide ((mid : Int) < (en : Int)) = false := decide_eq_false q1
        clear s5
        go_wp2_with fail
        go_end0
        exact ⟨rfl, HR.out, hm⟩
      ·have q1 : (a : Int) < (st : Int) := by omega
       have q2 : decide ((a : Int) < (st : Int)) = true := decide_eq_true q1
       have q3 : ¬ (st : Int) < (mid : Int) := by omega
       have q4 : decide ((st : Int) < (mid : Int)) = false := decide_eq_false q3
       clear s3 s4
       go_upto_region 43 with fail
       clear q1 q2 q3 q4
       by_cases s5 : mid < en
       ·by_cases s6 : en < b
        ·have q1 : (mid : Int) < (en : Int) := by omega
         have q2 : decide ((mid : Int) < (en : Int)) = true := decide_eq_true q1
         have q3 : (en : Int) < (b : Int) := by omega
         have q4 : decide ((en : Int) < (b : Int)) = true := decide_eq_true q3
         have HS := Lib.hid (IH.out mid en b (by have := HZ.out; omega) s5 s6 (by have := HZ.out; omega) _ HR.out)
         unfold KeptW at HS
         clear s5 s6
         go_wp2_with fail
         refine HS.out.mono ?_
         rintro e wq2 ⟨rfl, h1, h2⟩
         go_wp2_with fail
         go_end0
         exact ⟨rfl, h1, hm.trans h2 (fun _ _ e => e)⟩
        ·have q1 : (mid : Int) < (en : Int) := by omega
         have q2 : decide ((mid : Int) < (en : Int)) = true := decide_eq_true q1
         have q3 : ¬ (en : Int) < (b : Int) := by omega
         have q4 : decide ((en : Int) < (b : Int)) = false := decide_eq_false q3
         clear s5 s6
         go_wp2_with fail
         go_end0
         exact ⟨rfl, HR.out, hm⟩
       ·have q1 : ¬ (mid : Int) < (en : Int) := by omega
        have q2 : decide ((mid : Int) < (en : Int)) = false := decide_eq_false q1
        clear s5
        go_wp2_with fail
        go_end0
        exact ⟨rfl, HR.out, hm⟩
     ·have q1 : ¬ (a : Int) < (st : Int) := by omega
      have q2 : decide ((a : Int) < (st : Int)) = false := decide_eq_false q1
      clear s3
      go_upto_region 43 with fail
      clear q1 q2
      by_cases s5 : mid < en
      ·by_cases s6 : en < b
       ·have q1 : (mid : Int) < (en : Int) := by omega
        have q2 : decide ((mid : Int) < (en : Int)) = true := decide_eq_true q1
        have q3 : (en : Int) < (b : Int) := by omega
        have q4 : decide ((en : Int) < (b : Int)) = true := decide_eq_true q3
        have HS := Lib.hid (IH.out mid en b (by have := HZ.out; omega) s5 s6 (by have := HZ.out; omega) _ HR.out)
        unfold KeptW at HS
        clear s5 s6
        go_wp2_with fail
        refine HS.out.mono ?_
        rintro e wq2 ⟨rfl, h1, h2⟩
        go_wp2_with fail
        go_end0
        exact ⟨rfl, h1, hm.trans h2 (fun _ _ e => e)⟩
       ·have q1 : (mid : Int) < (en : Int) := by omega
        have q2 : decide ((mid : Int) < (en : Int)) = true := decide_eq_true q1
        have q3 : ¬ (en : Int) < (b : Int) := by omega
        have q4 : decide ((en : Int) < (b : Int)) = false := decide_eq_false q3
        clear s5 s6
        go_wp2_with fail
        go_end0
        exact ⟨rfl, HR.out, hm⟩
      ·have q1 : ¬ (mid : Int) < (en : Int) := by omega
       have q2 : decide ((mid : Int) < (en : Int)) = false := decide_eq_false q1
       clear s5
       go_wp2_with fail
       go_end0
       exact ⟨rfl, HR.out, hm⟩
end Go.Proofs.YthlmgoagnfkhdaaGreat

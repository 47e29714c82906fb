/- What is erased is what is selected, and a character at each caret, each just once; no selection is left that has bytes: the walk. Conditions: none. -/
import Derived.Test.YthlmgoagnfkhdaaGreatGimSheetTyped
import Derived.Test.YthlmgoagnfkhdaaGreatGimF45
import Derived.Test.YthlmgoagnfkhdaaGreatGimF10
import Derived.Test.YthlmgoagnfkhdaaGreatGimF07
set_option maxHeartbeats 6400000
set_option maxRecDepth 1000000
set_option linter.unusedVariables false
set_option linter.unusedSimpArgs false
namespace Go.Gim
def liesB (ES : List Ed) (x : Int × Int) (k : Nat) : Bool := decide ((spanI x).1 = (spanI x).2) || (ES.take k).any fun e => withinS (spanI x) (e.a, e.b)
theorem lies_step {ES : List Ed} {x : Int × Int} {k : Nat} {e : Ed} (h : ES[k]? = some e) : liesB ES x (k + 1) = (liesB ES x k || withinS (spanI x) (e.a, e.b)) := by
 obtain ⟨hk, rfl⟩ := List.getElem?_eq_some_iff.1 h
 unfold liesB
 rw [List.take_succ_eq_append_getElem hk, List.any_append, Bool.or_assoc]
 simp
theorem lies_zero (ES : List Ed) (x : Int × Int) : liesB ES x 0 = decide ((spanI x).1 = (spanI x).2) := by unfold liesB; simp
theorem lies_all {ES : List Ed} {x : Int × Int} (h : x.1 ≠ x.2 → ∃ e ∈ ES, e.a ≤ (spanI x).1 ∧ (spanI x).2 ≤ e.b) : liesB ES x ES.length = true := by
 unfold liesB
 rw [List.take_length]
 by_cases hx : x.1 = x.2
 ·have : (spanI x).1 = (spanI x).2 := by unfold spanI; simp only; omega
  rw [decide_eq_true this]; rfl
 ·obtain ⟨e, he, h1, h2⟩ := h hx
  rw [Bool.or_eq_true]
  refine .inr (List.any_eq_true.2 ⟨e, he, ?_⟩)
  unfold withinS
  exact decide_eq_true ⟨h1, h2⟩
end Go.Gim
namespace Go.Proofs.YthlmgoagnfkhdaaGreat
open Go.RowKit Go.Gim
theorem sheetErased_any (w : World) (s : ByteArray) (ao : Option Addr) (cap : Nat) (L : List (Int × Int)) (forth : Bool) (hs : s.size ≤ 80) (hr : Reads w 2 ao L.length (prCells L)) (hn0 : 0 < L.length) (hn : L.length ≤ 8) :
  Calls Tryz.prog 5 #[.string s, .slice ao L.length cap, .bool forth] w fun e w' => e = .returned (.bool true) ∧ Ext w w' := by
 have HP := Lib.hid (fun w' (h' : Ext w w') => picksN_any s.size ao cap L w' (hr.mod h' (fun _ _ f => f)) (by omega) (by omega))
 have Hz := Lib.hid (norm_picks (n := s.size) hn0 (show L.length ≤ 64 by omega))
 have Hl := Lib.hid (picksN_len s.size L)
 generalize hl : picksN s.size L = l at *
 obtain ⟨M, hM⟩ : ∃ M, M = L.length := ⟨_, rfl⟩
 rw [← hM] at HP Hl hn0 hn ⊢
 have i1 : ¬ (80 : Int) < (s.size : Int) := by omega
 have i2 : decide ((80 : Int) < (s.size : Int)) = false := decide_eq_false i1
 have i3 : ¬ (M : Int) = 0 := by omega
 have i4 : decide ((M : Int) = 0) = false := decide_eq_false i3
 have i5 : ¬ (8 : Int) < (M : Int) := by omega
 have i6 : decide ((8 : Int) < (M : Int)) = false := decide_eq_false i5
 clear hr hl hM
 go_enter Tryz.func5, Tryz.ntmps5
 go_wp2_with fail
 refine (dice_lit _ [5] #[.int .u32 5] rfl (by simp) (by simp)).mono ?_
 rintro e u1 ⟨D, rfl, hD⟩
 go_wp2_with fail
 refine (snew_any D s u1 hD.dice (by omega)).mono ?_
 rintro e u2 ⟨S, rfl, h1, h2, h3, h4, h5, -, h6, h7⟩
 have HA := Lib.hid (Alone.start (m := 8) hD.ext hD.d h1 h3 h4 h5 h6 h7 (by omega))
 have H2 := Lib.hid h2
 have HP2 := Lib.hid (HP.out u2 HA.out.ext)
 clear hD h1 h2 h3 h4 h5 h6 h7 HP i1 i2 i3 i4 i5 i6
 go_wp2_with fail
 refine HP2.out.mono ?_
 rintro e w3 ⟨v, rfl, ho3, hx3⟩
 rw [← Hl.out] at ho3
 obtain ⟨a3, c3, rfl, hr3⟩ := owns_reads ho3
 have HA3 := Lib.hid (HA.out.on hx3)
 have HS := Lib.hid (sselect_any S a3 c3 l w3 HA3.out.sh hr3 (by rw [Hl.out]; omega))
 rw [H2.out, Hz.out, if_pos rfl] at HS
 have Hin := Lib.hid (orderN_inT Hz.out)
 have Hp0 := Lib.hid (orderN_pos (normE_ok Hz.out).1)
 have Hp1 := Lib.hid (show (orderN l).length ≤ 8 by have := orderN_len l; have := Hl.out; omega)
 clear HP2 ho3 hr3 hx3 HA
 rw [← Hl.out]
 go_wp2_with fail
 refine HS.out.mono ?_
 rintro e w4 ⟨S1, rfl, hd, e1, e2, e3, e4⟩
 generalize orderN l = Q at *
 have HA4 := Lib.hid (HA3.out.pick hd (by rw [e1, H2.out]) e2 e3 (by rw [e4]; exact Hp0.out) (by rw [e4]; exact Hp1.out) (by rw [e4, H2.out]; exact Hin.out))
 have E1 := Lib.hid e1
 have E4 := Lib.hid e4
 have hsb := hd.sb
 have HSe := Lib.hid (ssels_any S1 w4 HA4.out.sh HA4.out.q0 (by have := HA4.out.q1; omega))
 unfold NewRow at HSe
 rw [e4, hsb] at HSe
 have Hsb := Lib.hid hsb
 clear HS hd e1 e2 e3 e4 HA3 H2
 go_wp2_with fail
 refine HSe.out.mono ?_
 rintro e w5 ⟨g5, c5, rfl, ho5, hx5⟩
 have HA5 := Lib.hid (HA4.out.on hx5)
 have Hwas := Lib.hid (Reads.own ho5)
 have HEr := Lib.hid (serased_any S1 forth w5 HA5.out.sh HA5.out.q0 (by have := HA5.out.q1; omega) HA5.out.inq)
 unfold Enc.Out at HEr
 rw [E4.out, E1.out, hsb] at HEr
 have hIn : InT (s.data.toList.length : Nat) Q := Hin.out
 have Hmay := Lib.hid (erased_may (s := s) (forth := forth) Hin.out (by omega))
 have Hasc := Lib.hid (erased_asc (forth := forth) hIn)
 have Hein := Lib.hid (erased_in (forth := forth) hIn)
 have Hwi := Lib.hid (erased_within (forth := forth) hIn)
 have Hca := Lib.hid (erased_carets (forth := forth) hIn)
 have Hel := Lib.hid (erasedL_len s.data.toList forth Q)
 clear HSe ho5 hx5 hsb HA4 hIn
 generalize erasedL s.data.toList forth Q = ES at *
 go_wp2_with fail
 refine HEr.out.mono ?_
 rintro e w6 ⟨v, rfl, ho, hx6⟩
 have Ho := Lib.hid ho
 obtain ⟨az, cz, rfl, hrz⟩ := Enc.owns_reads (E := edE) ho
 have HA6 := Lib.hid (HA5.out.on hx6)
 have Hwas6 := Lib.hid (Hwas.out.mod hx6 (fun _ _ f => f))
 have Hrz := Lib.hid hrz
 have Hfar := Lib.hid (HA5.out.free Ho.out (Nat.le_refl _))
 obtain ⟨K, hK⟩ : ∃ K, K = ES.length := ⟨_, rfl⟩
 have HK := Lib.hid hK
 have hk8 : K ≤ 8 := by have := Hel.out; have := Hp1.out; omega
 rw [← hK] at Hrz ⊢
 clear HEr ho hrz hx6 Hwas HA5 hK
 go_wp2_with fail
 go_loopw [11, 12] (fun g i wr => ∃ k : Nat, k ≤ K ∧ i = .int .i64 k ∧ g = .int .i64 (goneE (ES.take k)) ∧ Ext w6 wr) (fun _ i _ => K - (intOf i).toNat)
 case atStart => exact ⟨0, by omega, rfl, rfl, Mod.refl _ _⟩
 case round =>
  obtain ⟨k, hk, rfl, rfl, hx⟩ := hrel
  by_cases hlt : k < K
  ·have hlt' : (k : Int) < (K : Int) := by omega
   have hk0 : (0 : Int) ≤ (k : Int) := by omega
   obtain ⟨b, off, rfl⟩ := Hrz.out.some (by omega)
   have hlk : k < ES.length := by rw [← HK.out]; exact hlt
   have hgt := goneE_in Hein.out k (by omega)
   have hst := goneE_step (List.getElem?_eq_getElem hlk)
   obtain ⟨p0, p1, p2, p3⟩ := Hein.out _ (List.getElem_mem hlk)
   have hsl : s.data.toList.length = s.size := rfl
   have hcc := fun w' (h' : Ext wr w') => reads_ed (Hrz.out.mod (hx.ext_trans h') (fun _ _ f => f)) (List.getElem?_eq_getElem hlk)
   have hpw := fun j (hj : j < k) => List.pairwise_iff_getElem.1 Hasc.out.2 j k (by omega) hlk hj
   have hcell := fun j (hj : j < k) w' (h' : Ext wr w') => reads_ed (Hrz.out.mod (hx.ext_trans h') (fun _ _ f => f)) (List.getElem?_eq_getElem (show j < ES.length by omega))
   generalize ES[k] = y at *
   obtain ⟨ya, yb, yt⟩ := y
   simp only at hcc p0 p1 p2 p3 hst hpw
   subst p3
   have hkn : (k : Int) * (s.data.toList.length : Int) ≤ 8 * 80 := by
    have h1 : k * s.data.toList.length ≤ 8 * 80 := Nat.mul_le_mul (by omega) (by omega)
    have h2 : ((k * s.data.toList.length : Nat) : Int) ≤ ((8 * 80 : Nat) : Int) := Int.ofNat_le.2 h1
    rw [Int.natCast_mul] at h2
    omega
   have HSp := Lib.hid (fun w' => spLen_any (ya, yb) w' (by simp only; omega) (by simp only; omega))
   have l1 : ¬ yb ≤ ya := by omega
   have l2 : decide (yb ≤ ya) = false := decide_eq_false l1
   have l3 : ((⟨#[]⟩ : ByteArray).toList != (⟨#[]⟩ : ByteArray).toList) = false := by rw [bne_self_eq_false]
   have l4 : wrap64 (goneE (ES.take k) + (yb - ya)) = goneE (ES.take (k + 1)) := by rw [hst]; exact IntWalk.wrap64_in _ ⟨by omega, by omega⟩
   have HL := Lib.hid hlt
   generalize goneE (ES.take k) = G at *
   generalize hG2 : goneE (ES.take (k + 1)) = G' at *
   have HG2 := Lib.hid hG2
   clear hst hgt hkn hsl hG2
   by_cases hz : k = 0
   ·have l5 : ¬ (0 : Int) < (k : Int) := by omega
    have l6 : decide ((0 : Int) < (k : Int)) = false := decide_eq_false l5
    have l5n : ¬ 0 < k := by omega
    have l6n : decide (0 < k) = false := decide_eq_false l5n
    clear hcell hpw hz
    have HS := Lib.hid (fun w' (h' : Ext wr w') => (⟨(hcc w' h').1, (hcc w' h').2.1, (hcc w' h').2.2, trivial⟩ : w'.cell? ⟨b, off + k * 3, none⟩ = some (.int .i64 ya) ∧ w'.cell? ⟨b, off + k * 3 + 1, none⟩ = some (.int .i64 yb) ∧ w'.cell? ⟨b, off + k * 3 + 2, none⟩ = some (.string ⟨#[]⟩) ∧ True))
    clear hcc
    go_upto_region 12 with fail
    refine wp_region_N (fun _ => False) (by kernel_rfl) ?_
    refine wpN_take 0 67 (v := ?_) rfl rfl (by kernel_rfl) (by kernel_rfl) (by kernel_rfl) (fun _ _ _ h => h) (by first | exact mod_draw _ | assumption) rfl ?_ ?_
    rotate_left
    ·intro w' hw'
     refine qat_value ?_
     go_simp
     rfl
    simp only [fr1, fr2, fr3, fr4]
    refine wpN_take 1 68 (v := ?_) rfl rfl (by kernel_rfl) (by kernel_rfl) (by kernel_rfl) (fun _ _ _ h => h) (by first | exact mod_draw _ | assumption) rfl ?_ ?_
    rotate_left
    ·intro w' hw'
     refine qat_value ?_
     go_simp
     rfl
    simp only [fr1, fr2, fr3, fr4]
    refine wpN_take 2 69 (v := ?_) rfl rfl (by kernel_rfl) (by kernel_rfl) (by kernel_rfl) (fun _ _ _ h => h) (by first | exact mod_draw _ | assumption) rfl ?_ ?_
    rotate_left
    ·intro w' hw'
     refine qat_value ?_
     go_simp
     rfl
    simp only [fr1, fr2, fr3, fr4]
    refine wpN_take 3 70 (v := ?_) rfl rfl (by kernel_rfl) (by kernel_rfl) (by kernel_rfl) (fun _ _ _ h => h) (by first | exact mod_draw _ | assumption) rfl ?_ ?_
    rotate_left
    ·intro w' hw'
     refine qat_value ?_
     go_simp
     rfl
    simp only [fr1, fr2, fr3, fr4]
    refine wpN_take 4 71 (v := ?_) rfl rfl (by kernel_rfl) (by kernel_rfl) (by kernel_rfl) (fun _ _ _ h => h) (by first | exact mod_draw _ | assumption) rfl ?_ ?_
    rotate_left
    ·intro w' hw'
     refine qat_value ?_
     go_simp
     rfl
    simp only [fr1, fr2, fr3, fr4]
    refine wpN_take 5 72 (v := ?_) rfl rfl (by kernel_rfl) (by kernel_rfl) (by kernel_rfl) (fun _ _ _ h => h) (by first | exact mod_draw _ | assumption) rfl ?_ ?_
    rotate_left
    ·intro w' hw'
     obtain ⟨r0, r1, r2, r3⟩ := HS.out w' hw'
     refine qat_value ?_
     go_simp
     rfl
    simp only [fr1, fr2, fr3, fr4]
    refine wpN_take 6 73 (v := ?_) rfl rfl (by kernel_rfl) (by kernel_rfl) (by kernel_rfl) (fun _ _ _ h => h) (by first | exact mod_draw _ | assumption) rfl ?_ ?_
    rotate_left
    ·intro w' hw'
     refine qat_value ?_
     go_simp
     rfl
    simp only [fr1, fr2, fr3, fr4]
    refine wpN_take 7 74 (v := ?_) rfl rfl (by kernel_rfl) (by kernel_rfl) (by kernel_rfl) (fun _ _ _ h => h) (by first | exact mod_draw _ | assumption) rfl ?_ ?_
    rotate_left
    ·intro w' hw'
     refine qat_value ?_
     go_simp
     rfl
    simp only [fr1, fr2, fr3, fr4]
    refine wpN_take 8 75 (v := ?_) rfl rfl (by kernel_rfl) (by kernel_rfl) (by kernel_rfl) (fun _ _ _ h => h) (by first | exact mod_draw _ | assumption) rfl ?_ ?_
    rotate_left
    ·intro w' hw'
     refine qat_value ?_
     go_simp
     rfl
    simp only [fr1, fr2, fr3, fr4]
    refine wpN_take 9 76 (v := ?_) rfl rfl (by kernel_rfl) (by kernel_rfl) (by kernel_rfl) (fun _ _ _ h => h) (by first | exact mod_draw _ | assumption) rfl ?_ ?_
    rotate_left
    ·intro w' hw'
     refine qat_value ?_
     go_simp
     rfl
    simp only [fr1, fr2, fr3, fr4]
    refine wpN_take 10 77 (v := ?_) rfl rfl (by kernel_rfl) (by kernel_rfl) (by kernel_rfl) (fun _ _ _ h => h) (by first | exact mod_draw _ | assumption) rfl ?_ ?_
    rotate_left
    ·intro w' hw'
     refine qat_value ?_
     go_simp
     rfl
    simp only [fr1, fr2, fr3, fr4]
    refine wpN_take 11 78 (v := ?_) rfl rfl (by kernel_rfl) (by kernel_rfl) (by kernel_rfl) (fun _ _ _ h => h) (by first | exact mod_draw _ | assumption) rfl ?_ ?_
    rotate_left
    ·intro w' hw'
     obtain ⟨r0, r1, r2, r3⟩ := HS.out w' hw'
     refine qat_value ?_
     go_simp
     rfl
    simp only [fr1, fr2, fr3, fr4]
    refine wpN_take 12 79 (v := ?_) rfl rfl (by kernel_rfl) (by kernel_rfl) (by kernel_rfl) (fun _ _ _ h => h) (by first | exact mod_draw _ | assumption) rfl ?_ ?_
    rotate_left
    ·intro w' hw'
     refine qat_value ?_
     go_simp
     rfl
    simp only [fr1, fr2, fr3, fr4]
    refine wpN_take 13 80 (v := ?_) rfl rfl (by kernel_rfl) (by kernel_rfl) (by kernel_rfl) (fun _ _ _ h => h) (by first | exact mod_draw _ | assumption) rfl ?_ ?_
    rotate_left
    ·intro w' hw'
     refine qat_value ?_
     go_simp
     rfl
    simp only [fr1, fr2, fr3, fr4]
    refine wpN_take 14 81 (v := ?_) rfl rfl (by kernel_rfl) (by kernel_rfl) (by kernel_rfl) (fun _ _ _ h => h) (by first | exact mod_draw _ | assumption) rfl ?_ ?_
    rotate_left
    ·intro w' hw'
     refine qat_value ?_
     go_simp
     rfl
    simp only [fr1, fr2, fr3, fr4]
    refine wpN_take 15 82 (v := ?_) rfl rfl (by kernel_rfl) (by kernel_rfl) (by kernel_rfl) (fun _ _ _ h => h) (by first | exact mod_draw _ | assumption) rfl ?_ ?_
    rotate_left
    ·intro w' hw'
     refine qat_value ?_
     go_simp
     rfl
    simp only [fr1, fr2, fr3, fr4]
    refine wpN_take 16 83 (v := ?_) rfl rfl (by kernel_rfl) (by kernel_rfl) (by kernel_rfl) (fun _ _ _ h => h) (by first | exact mod_draw _ | assumption) rfl ?_ ?_
    rotate_left
    ·intro w' hw'
     refine qat_value ?_
     go_simp
     rfl
    simp only [fr1, fr2, fr3, fr4]
    refine wpN_take 17 84 (v := ?_) rfl rfl (by kernel_rfl) (by kernel_rfl) (by kernel_rfl) (fun _ _ _ h => h) (by first | exact mod_draw _ | assumption) rfl ?_ ?_
    rotate_left
    ·intro w' hw'
     refine qat_value ?_
     go_simp
     rfl
    simp only [fr1, fr2, fr3, fr4]
    refine wpN_take 18 85 (v := ?_) rfl rfl (by kernel_rfl) (by kernel_rfl) (by kernel_rfl) (fun _ _ _ h => h) (by first | exact mod_draw _ | assumption) rfl ?_ ?_
    rotate_left
    ·intro w' hw'
     obtain ⟨r0, r1, r2, r3⟩ := HS.out w' hw'
     refine qat_value ?_
     go_simp
     rfl
    simp only [fr1, fr2, fr3, fr4]
    refine wpN_take 19 86 (v := ?_) rfl rfl (by kernel_rfl) (by kernel_rfl) (by kernel_rfl) (fun _ _ _ h => h) (by first | exact mod_draw _ | assumption) rfl ?_ ?_
    rotate_left
    ·intro w' hw'
     refine qat_value ?_
     go_simp
     rfl
    simp only [fr1, fr2, fr3, fr4]
    refine wpN_take 20 87 (v := ?_) rfl rfl (by kernel_rfl) (by kernel_rfl) (by kernel_rfl) (fun _ _ _ h => h) (by first | exact mod_draw _ | assumption) rfl ?_ ?_
    rotate_left
    ·intro w' hw'
     refine qat_value ?_
     go_simp
     rfl
    simp only [fr1, fr2, fr3, fr4]
    refine wpN_take 21 88 (v := ?_) rfl rfl (by kernel_rfl) (by kernel_rfl) (by kernel_rfl) (fun _ _ _ h => h) (by first | exact mod_draw _ | assumption) rfl ?_ ?_
    rotate_left
    ·intro w' hw'
     refine qat_value ?_
     go_simp
     rfl
    simp only [fr1, fr2, fr3, fr4]
    refine wpN_take 22 89 (v := ?_) rfl rfl (by kernel_rfl) (by kernel_rfl) (by kernel_rfl) (fun _ _ _ h => h) (by first | exact mod_draw _ | assumption) rfl ?_ ?_
    rotate_left
    ·intro w' hw'
     refine qat_value ?_
     go_simp
     rfl
    simp only [fr1, fr2, fr3, fr4]
    refine wpN_take 23 90 (v := ?_) rfl rfl (by kernel_rfl) (by kernel_rfl) (by kernel_rfl) (fun _ _ _ h => h) (by first | exact mod_draw _ | assumption) rfl ?_ ?_
    rotate_left
    ·intro w' hw'
     refine qat_value ?_
     go_simp
     rfl
    simp only [fr1, fr2, fr3, fr4]
    refine wpN_take 24 91 (v := ?_) rfl rfl (by kernel_rfl) (by kernel_rfl) (by kernel_rfl) (fun _ _ _ h => h) (by first | exact mod_draw _ | assumption) rfl ?_ ?_
    rotate_left
    ·intro w' hw'
     refine qat_value ?_
     go_simp
     rfl
    simp only [fr1, fr2, fr3, fr4]
    refine wpN_skip 25 92 rfl rfl (by kernel_rfl) (by kernel_rfl) (by kernel_rfl) (fun _ _ _ h => h) (by first | exact mod_draw _ | assumption) rfl ?_
    simp only [fr1, fr2, fr3, fr4]
    refine wpN_skip 26 93 rfl rfl (by kernel_rfl) (by kernel_rfl) (by kernel_rfl) (fun _ _ _ h => h) (by first | exact mod_draw _ | assumption) rfl ?_
    simp only [fr1, fr2, fr3, fr4]
    refine wpN_skip 27 94 rfl rfl (by kernel_rfl) (by kernel_rfl) (by kernel_rfl) (fun _ _ _ h => h) (by first | exact mod_draw _ | assumption) rfl ?_
    simp only [fr1, fr2, fr3, fr4]
    refine wpN_skip 28 95 rfl rfl (by kernel_rfl) (by kernel_rfl) (by kernel_rfl) (fun _ _ _ h => h) (by first | exact mod_draw _ | assumption) rfl ?_
    simp only [fr1, fr2, fr3, fr4]
    refine wpN_skip 29 96 rfl rfl (by kernel_rfl) (by kernel_rfl) (by kernel_rfl) (fun _ _ _ h => h) (by first | exact mod_draw _ | assumption) rfl ?_
    simp only [fr1, fr2, fr3, fr4]
    refine wpN_skip 30 97 rfl rfl (by kernel_rfl) (by kernel_rfl) (by kernel_rfl) (fun _ _ _ h => h) (by first | exact mod_draw _ | assumption) rfl ?_
    simp only [fr1, fr2, fr3, fr4]
    refine wpN_skip 31 98 rfl rfl (by kernel_rfl) (by kernel_rfl) (by kernel_rfl) (fun _ _ _ h => h) (by first | exact mod_draw _ | assumption) rfl ?_
    simp only [fr1, fr2, fr3, fr4]
    refine wpN_skip 32 99 rfl rfl (by kernel_rfl) (by kernel_rfl) (by kernel_rfl) (fun _ _ _ h => h) (by first | exact mod_draw _ | assumption) rfl ?_
    simp only [fr1, fr2, fr3, fr4]
    refine wpN_skip 33 100 rfl rfl (by kernel_rfl) (by kernel_rfl) (by kernel_rfl) (fun _ _ _ h => h) (by first | exact mod_draw _ | assumption) rfl ?_
    simp only [fr1, fr2, fr3, fr4]
    refine wpN_skip 34 101 rfl rfl (by kernel_rfl) (by kernel_rfl) (by kernel_rfl) (fun _ _ _ h => h) (by first | exact mod_draw _ | assumption) rfl ?_
    simp only [fr1, fr2, fr3, fr4]
    refine wpN_skip 35 102 rfl rfl (by kernel_rfl) (by kernel_rfl) (by kernel_rfl) (fun _ _ _ h => h) (by first | exact mod_draw _ | assumption) rfl ?_
    simp only [fr1, fr2, fr3, fr4]
    refine wpN_skip 36 103 rfl rfl (by kernel_rfl) (by kernel_rfl) (by kernel_rfl) (fun _ _ _ h => h) (by first | exact mod_draw _ | assumption) rfl ?_
    simp only [fr1, fr2, fr3, fr4]
    refine wpN_skip 37 104 rfl rfl (by kernel_rfl) (by kernel_rfl) (by kernel_rfl) (fun _ _ _ h => h) (by first | exact mod_draw _ | assumption) rfl ?_
    simp only [fr1, fr2, fr3, fr4]
    refine wpN_skip 38 105 rfl rfl (by kernel_rfl) (by kernel_rfl) (by kernel_rfl) (fun _ _ _ h => h) (by first | exact mod_draw _ | assumption) rfl ?_
    simp only [fr1, fr2, fr3, fr4]
    refine wpN_take 39 106 (v := ?_) rfl rfl (by kernel_rfl) (by kernel_rfl) (by kernel_rfl) (fun _ _ _ h => h) (by first | exact mod_draw _ | assumption) rfl ?_ ?_
    rotate_left
    ·intro w' hw'
     refine qat_value ?_
     go_simp
     rfl
    simp only [fr1, fr2, fr3, fr4]
    refine wpN_take 40 107 (v := ?_) rfl rfl (by kernel_rfl) (by kernel_rfl) (by kernel_rfl) (fun _ _ _ h => h) (by first | exact mod_draw _ | assumption) rfl ?_ ?_
    rotate_left
    ·intro w' hw'
     refine qat_value ?_
     go_simp
     rfl
    simp only [fr1, fr2, fr3, fr4]
    refine wpN_done (by kernel_rfl) (fun wk hwk => ?_) _
    have hyk := hx.ext_trans ((ext_draw wr).ext_trans hwk)
    obtain ⟨c0, c1, c2, -⟩ := HS.out wk ((ext_draw wr).ext_trans hwk)
    have hbl := World.block_lt_of_cell? wk _ c0
    clear hwk HS
    go_wp2_with fail
    refine (HSp.out _).mono ?_
    rintro e we ⟨rfl, hxe⟩
    have hye := hyk.ext_trans hxe
    clear c0 c1 c2 hbl hxe HSp hyk
    go_wp2_with fail
    go_roundw
    case rel => exact ⟨k + 1, HL.out, by go_num, congrArg _ (l4.trans HG2.out.symm), hye⟩
    case measure => have := HL.out; simp [intOf]; omega
   ·obtain ⟨j, hj⟩ : ∃ j, k = j + 1 := ⟨k - 1, by omega⟩
    have hpw := hpw j (by omega)
    have hcell := hcell j (by omega)
    have l5 : (0 : Int) < (k : Int) := by omega
    have l6 : decide ((0 : Int) < (k : Int)) = true := decide_eq_true l5
    have l5n : 0 < k := by omega
    have l6n : decide (0 < k) = true := decide_eq_true l5n
    have l9 : IntKind.i64.wrap ((k : Int) - 1) = (j : Int) := by rw [show (k : Int) - 1 = j from by omega]; exact IntWalk.i64_in _ (by omega)
    have lc : (0 : Int) ≤ (j : Int) := by omega
    have ld : (j : Int) < (K : Int) := by omega
    have HS := Lib.hid (fun w' (h' : Ext wr w') => (⟨(hcc w' h').1, (hcc w' h').2.1, (hcc w' h').2.2, (hcell w' h').2.1⟩ : w'.cell? ⟨b, off + k * 3, none⟩ = some (.int .i64 ya) ∧ w'.cell? ⟨b, off + k * 3 + 1, none⟩ = some (.int .i64 yb) ∧ w'.cell? ⟨b, off + k * 3 + 2, none⟩ = some (.string ⟨#[]⟩) ∧ w'.cell? ⟨b, off + j * 3 + 1, none⟩ = some (.int .i64 (ES[j]'(by omega)).b)))
    clear hcc hcell
    generalize (ES[j]'(by omega)).b = zb at *
    have la : ¬ ya ≤ zb := by omega
    have lb : decide (ya ≤ zb) = false := decide_eq_false la
    clear hpw hz hj
    go_upto_region 12 with fail
    refine wp_region_N (fun _ => False) (by kernel_rfl) ?_
    refine wpN_take 0 67 (v := ?_) rfl rfl (by kernel_rfl) (by kernel_rfl) (by kernel_rfl) (fun _ _ _ h => h) (by first | exact mod_draw _ | assumption) rfl ?_ ?_
    rotate_left
    ·intro w' hw'
     refine qat_value ?_
     go_simp
     rfl
    simp only [fr1, fr2, fr3, fr4]
    refine wpN_take 1 68 (v := ?_) rfl rfl (by kernel_rfl) (by kernel_rfl) (by kernel_rfl) (fun _ _ _ h => h) (by first | exact mod_draw _ | assumption) rfl ?_ ?_
    rotate_left
    ·intro w' hw'
     refine qat_value ?_
     go_simp
     rfl
    simp only [fr1, fr2, fr3, fr4]
    refine wpN_take 2 69 (v := ?_) rfl rfl (by kernel_rfl) (by kernel_rfl) (by kernel_rfl) (fun _ _ _ h => h) (by first | exact mod_draw _ | assumption) rfl ?_ ?_
    rotate_left
    ·intro w' hw'
     refine qat_value ?_
     go_simp
     rfl
    simp only [fr1, fr2, fr3, fr4]
    refine wpN_take 3 70 (v := ?_) rfl rfl (by kernel_rfl) (by kernel_rfl) (by kernel_rfl) (fun _ _ _ h => h) (by first | exact mod_draw _ | assumption) rfl ?_ ?_
    rotate_left
    ·intro w' hw'
     refine qat_value ?_
     go_simp
     rfl
    simp only [fr1, fr2, fr3, fr4]
    refine wpN_take 4 71 (v := ?_) rfl rfl (by kernel_rfl) (by kernel_rfl) (by kernel_rfl) (fun _ _ _ h => h) (by first | exact mod_draw _ | assumption) rfl ?_ ?_
    rotate_left
    ·intro w' hw'
     refine qat_value ?_
     go_simp
     rfl
    simp only [fr1, fr2, fr3, fr4]
    refine wpN_take 5 72 (v := ?_) rfl rfl (by kernel_rfl) (by kernel_rfl) (by kernel_rfl) (fun _ _ _ h => h) (by first | exact mod_draw _ | assumption) rfl ?_ ?_
    rotate_left
    ·intro w' hw'
     obtain ⟨r0, r1, r2, r3⟩ := HS.out w' hw'
     refine qat_value ?_
     go_simp
     rfl
    simp only [fr1, fr2, fr3, fr4]
    refine wpN_take 6 73 (v := ?_) rfl rfl (by kernel_rfl) (by kernel_rfl) (by kernel_rfl) (fun _ _ _ h => h) (by first | exact mod_draw _ | assumption) rfl ?_ ?_
    rotate_left
    ·intro w' hw'
     refine qat_value ?_
     go_simp
     rfl
    simp only [fr1, fr2, fr3, fr4]
    refine wpN_take 7 74 (v := ?_) rfl rfl (by kernel_rfl) (by kernel_rfl) (by kernel_rfl) (fun _ _ _ h => h) (by first | exact mod_draw _ | assumption) rfl ?_ ?_
    rotate_left
    ·intro w' hw'
     refine qat_value ?_
     go_simp
     rfl
    simp only [fr1, fr2, fr3, fr4]
    refine wpN_take 8 75 (v := ?_) rfl rfl (by kernel_rfl) (by kernel_rfl) (by kernel_rfl) (fun _ _ _ h => h) (by first | exact mod_draw _ | assumption) rfl ?_ ?_
    rotate_left
    ·intro w' hw'
     refine qat_value ?_
     go_simp
     rfl
    simp only [fr1, fr2, fr3, fr4]
    refine wpN_take 9 76 (v := ?_) rfl rfl (by kernel_rfl) (by kernel_rfl) (by kernel_rfl) (fun _ _ _ h => h) (by first | exact mod_draw _ | assumption) rfl ?_ ?_
    rotate_left
    ·intro w' hw'
     refine qat_value ?_
     go_simp
     rfl
    simp only [fr1, fr2, fr3, fr4]
    refine wpN_take 10 77 (v := ?_) rfl rfl (by kernel_rfl) (by kernel_rfl) (by kernel_rfl) (fun _ _ _ h => h) (by first | exact mod_draw _ | assumption) rfl ?_ ?_
    rotate_left
    ·intro w' hw'
     refine qat_value ?_
     go_simp
     rfl
    simp only [fr1, fr2, fr3, fr4]
    refine wpN_take 11 78 (v := ?_) rfl rfl (by kernel_rfl) (by kernel_rfl) (by kernel_rfl) (fun _ _ _ h => h) (by first | exact mod_draw _ | assumption) rfl ?_ ?_
    rotate_left
    ·intro w' hw'
     obtain ⟨r0, r1, r2, r3⟩ := HS.out w' hw'
     refine qat_value ?_
     go_simp
     rfl
    simp only [fr1, fr2, fr3, fr4]
    refine wpN_take 12 79 (v := ?_) rfl rfl (by kernel_rfl) (by kernel_rfl) (by kernel_rfl) (fun _ _ _ h => h) (by first | exact mod_draw _ | assumption) rfl ?_ ?_
    rotate_left
    ·intro w' hw'
     refine qat_value ?_
     go_simp
     rfl
    simp only [fr1, fr2, fr3, fr4]
    refine wpN_take 13 80 (v := ?_) rfl rfl (by kernel_rfl) (by kernel_rfl) (by kernel_rfl) (fun _ _ _ h => h) (by first | exact mod_draw _ | assumption) rfl ?_ ?_
    rotate_left
    ·intro w' hw'
     refine qat_value ?_
     go_simp
     rfl
    simp only [fr1, fr2, fr3, fr4]
    refine wpN_take 14 81 (v := ?_) rfl rfl (by kernel_rfl) (by kernel_rfl) (by kernel_rfl) (fun _ _ _ h => h) (by first | exact mod_draw _ | assumption) rfl ?_ ?_
    rotate_left
    ·intro w' hw'
     refine qat_value ?_
     go_simp
     rfl
    simp only [fr1, fr2, fr3, fr4]
    refine wpN_take 15 82 (v := ?_) rfl rfl (by kernel_rfl) (by kernel_rfl) (by kernel_rfl) (fun _ _ _ h => h) (by first | exact mod_draw _ | assumption) rfl ?_ ?_
    rotate_left
    ·intro w' hw'
     refine qat_value ?_
     go_simp
     rfl
    simp only [fr1, fr2, fr3, fr4]
    refine wpN_take 16 83 (v := ?_) rfl rfl (by kernel_rfl) (by kernel_rfl) (by kernel_rfl) (fun _ _ _ h => h) (by first | exact mod_draw _ | assumption) rfl ?_ ?_
    rotate_left
    ·intro w' hw'
     refine qat_value ?_
     go_simp
     rfl
    simp only [fr1, fr2, fr3, fr4]
    refine wpN_take 17 84 (v := ?_) rfl rfl (by kernel_rfl) (by kernel_rfl) (by kernel_rfl) (fun _ _ _ h => h) (by first | exact mod_draw _ | assumption) rfl ?_ ?_
    rotate_left
    ·intro w' hw'
     refine qat_value ?_
     go_simp
     rfl
    simp only [fr1, fr2, fr3, fr4]
    refine wpN_take 18 85 (v := ?_) rfl rfl (by kernel_rfl) (by kernel_rfl) (by kernel_rfl) (fun _ _ _ h => h) (by first | exact mod_draw _ | assumption) rfl ?_ ?_
    rotate_left
    ·intro w' hw'
     obtain ⟨r0, r1, r2, r3⟩ := HS.out w' hw'
     refine qat_value ?_
     go_simp
     rfl
    simp only [fr1, fr2, fr3, fr4]
    refine wpN_take 19 86 (v := ?_) rfl rfl (by kernel_rfl) (by kernel_rfl) (by kernel_rfl) (fun _ _ _ h => h) (by first | exact mod_draw _ | assumption) rfl ?_ ?_
    rotate_left
    ·intro w' hw'
     refine qat_value ?_
     go_simp
     rfl
    simp only [fr1, fr2, fr3, fr4]
    refine wpN_take 20 87 (v := ?_) rfl rfl (by kernel_rfl) (by kernel_rfl) (by kernel_rfl) (fun _ _ _ h => h) (by first | exact mod_draw _ | assumption) rfl ?_ ?_
    rotate_left
    ·intro w' hw'
     refine qat_value ?_
     go_simp
     rfl
    simp only [fr1, fr2, fr3, fr4]
    refine wpN_take 21 88 (v := ?_) rfl rfl (by kernel_rfl) (by kernel_rfl) (by kernel_rfl) (fun _ _ _ h => h) (by first | exact mod_draw _ | assumption) rfl ?_ ?_
    rotate_left
    ·intro w' hw'
     refine qat_value ?_
     go_simp
     rfl
    simp only [fr1, fr2, fr3, fr4]
    refine wpN_take 22 89 (v := ?_) rfl rfl (by kernel_rfl) (by kernel_rfl) (by kernel_rfl) (fun _ _ _ h => h) (by first | exact mod_draw _ | assumption) rfl ?_ ?_
    rotate_left
    ·intro w' hw'
     refine qat_value ?_
     go_simp
     rfl
    simp only [fr1, fr2, fr3, fr4]
    refine wpN_take 23 90 (v := ?_) rfl rfl (by kernel_rfl) (by kernel_rfl) (by kernel_rfl) (fun _ _ _ h => h) (by first | exact mod_draw _ | assumption) rfl ?_ ?_
    rotate_left
    ·intro w' hw'
     refine qat_value ?_
     go_simp
     rfl
    simp only [fr1, fr2, fr3, fr4]
    refine wpN_take 24 91 (v := ?_) rfl rfl (by kernel_rfl) (by kernel_rfl) (by kernel_rfl) (fun _ _ _ h => h) (by first | exact mod_draw _ | assumption) rfl ?_ ?_
    rotate_left
    ·intro w' hw'
     refine qat_value ?_
     go_simp
     rfl
    simp only [fr1, fr2, fr3, fr4]
    refine wpN_take 25 92 (v := ?_) rfl rfl (by kernel_rfl) (by kernel_rfl) (by kernel_rfl) (fun _ _ _ h => h) (by first | exact mod_draw _ | assumption) rfl ?_ ?_
    rotate_left
    ·intro w' hw'
     refine qat_value ?_
     go_simp
     rfl
    simp only [fr1, fr2, fr3, fr4]
    refine wpN_take 26 93 (v := ?_) rfl rfl (by kernel_rfl) (by kernel_rfl) (by kernel_rfl) (fun _ _ _ h => h) (by first | exact mod_draw _ | assumption) rfl ?_ ?_
    rotate_left
    ·intro w' hw'
     refine qat_value ?_
     go_simp
     rfl
    simp only [fr1, fr2, fr3, fr4]
    refine wpN_take 27 94 (v := ?_) rfl rfl (by kernel_rfl) (by kernel_rfl) (by kernel_rfl) (fun _ _ _ h => h) (by first | exact mod_draw _ | assumption) rfl ?_ ?_
    rotate_left
    ·intro w' hw'
     refine qat_value ?_
     go_simp
     rfl
    simp only [fr1, fr2, fr3, fr4]
    refine wpN_take 28 95 (v := ?_) rfl rfl (by kernel_rfl) (by kernel_rfl) (by kernel_rfl) (fun _ _ _ h => h) (by first | exact mod_draw _ | assumption) rfl ?_ ?_
    rotate_left
    ·intro w' hw'
     refine qat_value ?_
     go_simp
     rfl
    simp only [fr1, fr2, fr3, fr4]
    refine wpN_take 29 96 (v := ?_) rfl rfl (by kernel_rfl) (by kernel_rfl) (by kernel_rfl) (fun _ _ _ h => h) (by first | exact mod_draw _ | assumption) rfl ?_ ?_
    rotate_left
    ·intro w' hw'
     refine qat_value ?_
     go_simp
     rfl
    simp only [fr1, fr2, fr3, fr4]
    refine wpN_take 30 97 (v := ?_) rfl rfl (by kernel_rfl) (by kernel_rfl) (by kernel_rfl) (fun _ _ _ h => h) (by first | exact mod_draw _ | assumption) rfl ?_ ?_
    rotate_left
    ·intro w' hw'
     obtain ⟨r0, r1, r2, r3⟩ := HS.out w' hw'
     refine qat_value ?_
     go_simp
     rfl
    simp only [fr1, fr2, fr3, fr4]
    refine wpN_take 31 98 (v := ?_) rfl rfl (by kernel_rfl) (by kernel_rfl) (by kernel_rfl) (fun _ _ _ h => h) (by first | exact mod_draw _ | assumption) rfl ?_ ?_
    rotate_left
    ·intro w' hw'
     refine qat_value ?_
     go_simp
     rfl
    simp only [fr1, fr2, fr3, fr4]
    refine wpN_take 32 99 (v := ?_) rfl rfl (by kernel_rfl) (by kernel_rfl) (by kernel_rfl) (fun _ _ _ h => h) (by first | exact mod_draw _ | assumption) rfl ?_ ?_
    rotate_left
    ·intro w' hw'
     refine qat_value ?_
     go_simp
     rfl
    simp only [fr1, fr2, fr3, fr4]
    refine wpN_take 33 100 (v := ?_) rfl rfl (by kernel_rfl) (by kernel_rfl) (by kernel_rfl) (fun _ _ _ h => h) (by first | exact mod_draw _ | assumption) rfl ?_ ?_
    rotate_left
    ·intro w' hw'
     refine qat_value ?_
     go_simp
     rfl
    simp only [fr1, fr2, fr3, fr4]
    refine wpN_take 34 101 (v := ?_) rfl rfl (by kernel_rfl) (by kernel_rfl) (by kernel_rfl) (fun _ _ _ h => h) (by first | exact mod_draw _ | assumption) rfl ?_ ?_
    rotate_left
    ·intro w' hw'
     refine qat_value ?_
     go_simp
     rfl
    simp only [fr1, fr2, fr3, fr4]
    refine wpN_take 35 102 (v := ?_) rfl rfl (by kernel_rfl) (by kernel_rfl) (by kernel_rfl) (fun _ _ _ h => h) (by first | exact mod_draw _ | assumption) rfl ?_ ?_
    rotate_left
    ·intro w' hw'
     refine qat_value ?_
     go_simp
     rfl
    simp only [fr1, fr2, fr3, fr4]
    refine wpN_take 36 103 (v := ?_) rfl rfl (by kernel_rfl) (by kernel_rfl) (by kernel_rfl) (fun _ _ _ h => h) (by first | exact mod_draw _ | assumption) rfl ?_ ?_
    rotate_left
    ·intro w' hw'
     refine qat_value ?_
     go_simp
     rfl
    simp only [fr1, fr2, fr3, fr4]
    refine wpN_take 37 104 (v := ?_) rfl rfl (by kernel_rfl) (by kernel_rfl) (by kernel_rfl) (fun _ _ _ h => h) (by first | exact mod_draw _ | assumption) rfl ?_ ?_
    rotate_left
    ·intro w' hw'
     obtain ⟨r0, r1, r2, r3⟩ := HS.out w' hw'
     refine qat_value ?_
     go_simp
     rfl
    simp only [fr1, fr2, fr3, fr4]
    refine wpN_take 38 105 (v := ?_) rfl rfl (by kernel_rfl) (by kernel_rfl) (by kernel_rfl) (fun _ _ _ h => h) (by first | exact mod_draw _ | assumption) rfl ?_ ?_
    rotate_left
    ·intro w' hw'
     refine qat_value ?_
     go_simp
     rfl
    simp only [fr1, fr2, fr3, fr4]
    refine wpN_take 39 106 (v := ?_) rfl rfl (by kernel_rfl) (by kernel_rfl) (by kernel_rfl) (fun _ _ _ h => h) (by first | exact mod_draw _ | assumption) rfl ?_ ?_
    rotate_left
    ·intro w' hw'
     refine qat_value ?_
     go_simp
     rfl
    simp only [fr1, fr2, fr3, fr4]
    refine wpN_take 40 107 (v := ?_) rfl rfl (by kernel_rfl) (by kernel_rfl) (by kernel_rfl) (fun _ _ _ h => h) (by first | exact mod_draw _ | assumption) rfl ?_ ?_
    rotate_left
    ·intro w' hw'
     refine qat_value ?_
     go_simp
     rfl
    simp only [fr1, fr2, fr3, fr4]
    refine wpN_done (by kernel_rfl) (fun wk hwk => ?_) _
    have hyk := hx.ext_trans ((ext_draw wr).ext_trans hwk)
    obtain ⟨c0, c1, c2, -⟩ := HS.out wk ((ext_draw wr).ext_trans hwk)
    have hbl := World.block_lt_of_cell? wk _ c0
    clear hwk HS
    go_wp2_with fail
    refine (HSp.out _).mono ?_
    rintro e we ⟨rfl, hxe⟩
    have hye := hyk.ext_trans hxe
    clear c0 c1 c2 hbl hxe HSp hyk
    go_wp2_with fail
    go_roundw
    case rel => exact ⟨k + 1, HL.out, by go_num, congrArg _ (l4.trans HG2.out.symm), hye⟩
    case measure => have := HL.out; simp [intOf]; omega
  ·have hlt' : ¬ (k : Int) < (K : Int) := by omega
   obtain rfl : K = k := by omega
   rw [HK.out, List.take_length, ← HK.out]
   have Hg := Lib.hid (goneE_in Hein.out ES.length (Nat.le_refl _))
   rw [List.take_length] at Hg
   have Hgr := Lib.hid (grownE_gone s.size (es := ES) (fun e he => (Hein.out e he).2.2.2))
   generalize goneE ES = G at *
   obtain ⟨N, hN⟩ : ∃ N, N = Q.length := ⟨_, rfl⟩
   have HN := Lib.hid hN
   have hn8 : N ≤ 8 := by rw [hN]; exact Hp1.out
   rw [← hN]
   clear hlt' hlt hk hN
   have Hx6 := Lib.hid hx
   clear hx
   go_wp2_with fail
   go_loopw [13] (fun i wp => ∃ j : Nat, j ≤ N ∧ i = .int .i64 j ∧ Ext w6 wp) (fun i _ => N - (intOf i).toNat)
   case atStart => exact ⟨0, by omega, rfl, Hx6.out⟩
   case round =>
    obtain ⟨j, hj, rfl, hx⟩ := hrel
    by_cases hlt : j < N
    ·have hlt' : (j : Int) < (N : Int) := by omega
     have hj0 : (0 : Int) ≤ (j : Int) := by omega
     have HL := Lib.hid hlt
     have hlq : j < Q.length := by rw [← HN.out]; exact hlt
     have hgx : Q[j]? = some Q[j] := List.getElem?_eq_getElem hlq
     have Hla := Lib.hid (lies_all (Hwi.out _ (List.getElem_mem hlq)))
     have Hl0 := Lib.hid (lies_zero ES Q[j])
     have Hls := Lib.hid (fun k e h => lies_step (ES := ES) (x := Q[j]) (k := k) (e := e) h)
     generalize Q[j] = x at *
     have HSp := Lib.hid (fun w' => span_any x w')
     have Hrx := Lib.hid (fun w' (h' : Ext w6 w') => reads_pair (Hwas6.out.mod h' (fun _ _ f => f)) hgx)
     generalize spanI x = y at *
     obtain ⟨p, q⟩ := x
     obtain ⟨y1, y2⟩ := y
     simp only [Nat.zero_add] at HSp Hrx Hls Hl0
     have HS := Lib.hid (fun w' (h' : Ext wr w') => (⟨(Hrx.out w' (hx.ext_trans h')).1, (Hrx.out w' (hx.ext_trans h')).2, trivial, trivial⟩ : w'.cell? ⟨g5, j * 2, none⟩ = some (.int .i64 p) ∧ w'.cell? ⟨g5, j * 2 + 1, none⟩ = some (.int .i64 q) ∧ True ∧ True))
     clear hgx hlq
     go_upto_region 18 with fail
     refine wp_region_E (by kernel_rfl) ?_
     refine wpE_t 0 122 (v := ?_) (fun w' hw' => qat_value ?_) ?_
     rotate_left
     ·go_simp
      rfl
     simp only [fr1, fr2, fr3, fr4]
     refine wpE_t 1 123 (v := ?_) (fun w' hw' => qat_value ?_) ?_
     rotate_left
     ·go_simp
      rfl
     simp only [fr1, fr2, fr3, fr4]
     refine wpE_t 2 124 (v := ?_) (fun w' hw' => qat_value ?_) ?_
     rotate_left
     ·go_simp
      rfl
     simp only [fr1, fr2, fr3, fr4]
     refine wpE_t 3 125 (v := ?_) (fun w' hw' => ?_) ?_
     rotate_left
     ·obtain ⟨r0, r1, r2, r3⟩ := HS.out w' hw'
      refine qat_value ?_
      go_simp
      rfl
     simp only [fr1, fr2, fr3, fr4]
     refine wpE_t 4 126 (v := ?_) (fun w' hw' => ?_) ?_
     rotate_left
     ·refine qat_enter (by go_simp; exact ⟨rfl, rfl⟩) ?_
      exact HSp.out _
     simp only [fr1, fr2, fr3, fr4]
     refine wpE_t 5 127 (v := ?_) (fun w' hw' => qat_value ?_) ?_
     rotate_left
     ·go_simp
      rfl
     simp only [fr1, fr2, fr3, fr4]
     refine wpE_t 6 128 (v := ?_) (fun w' hw' => qat_value ?_) ?_
     rotate_left
     ·go_simp
      rfl
     simp only [fr1, fr2, fr3, fr4]
     refine wpE_t 7 129 (v := ?_) (fun w' hw' => qat_value ?_) ?_
     rotate_left
     ·go_simp
      rfl
     simp only [fr1, fr2, fr3, fr4]
     refine wpE_t 8 130 (v := ?_) (fun w' hw' => qat_value ?_) ?_
     rotate_left
     ·go_simp
      rfl
     simp only [fr1, fr2, fr3, fr4]
     refine wpE_t 9 131 (v := ?_) (fun w' hw' => ?_) ?_
     rotate_left
     ·obtain ⟨r0, r1, r2, r3⟩ := HS.out w' hw'
      refine qat_value ?_
      go_simp
      rfl
     simp only [fr1, fr2, fr3, fr4]
     refine wpE_t 10 132 (v := ?_) (fun w' hw' => ?_) ?_
     rotate_left
     ·refine qat_enter (by go_simp; exact ⟨rfl, rfl⟩) ?_
      exact HSp.out _
     simp only [fr1, fr2, fr3, fr4]
     refine wpE_t 11 133 (v := ?_) (fun w' hw' => qat_value ?_) ?_
     rotate_left
     ·go_simp
      rfl
     simp only [fr1, fr2, fr3, fr4]
     refine wpE_t 12 134 (v := ?_) (fun w' hw' => qat_value ?_) ?_
     rotate_left
     ·go_simp
      rfl
     simp only [fr1, fr2, fr3, fr4]
     refine wpE_t 13 14 (v := ?_) (fun w' hw' => qat_value ?_) ?_
     rotate_left
     ·go_simp
      rfl
     simp only [fr1, fr2, fr3, fr4]
     refine wpE_done (by kernel_rfl) (fun wj hwj => ?_) _
     have hyj := hx.ext_trans ((ext_draw wr).ext_trans hwj)
     clear hx hwj HS hj0
     go_wp2_with fail
     go_loopw [14, 15] (fun v i wr => ∃ t : Nat, t ≤ K ∧ i = .int .i64 t ∧ v = .bool (liesB ES (p, q) t) ∧ Ext w6 wr) (fun _ i _ => K - (intOf i).toNat)
     case atStart => exact ⟨0, by omega, rfl, by rw [Hl0.out]; first | rfl | exact congrArg Value.bool (by simp [beq_eq_decide]), hyj⟩
     case round =>
      clear hyj
      obtain ⟨t, ht, rfl, rfl, hx⟩ := hrel
      by_cases hlt : t < K
      ·have hlt' : (t : Int) < (K : Int) := by omega
       have ht0 : (0 : Int) ≤ (t : Int) := by omega
       have HLt := Lib.hid hlt
       obtain ⟨b, off, rfl⟩ := Hrz.out.some (by omega)
       have hlk : t < ES.length := by rw [← HK.out]; exact hlt
       have hge : ES[t]? = some ES[t] := List.getElem?_eq_getElem hlk
       generalize ES[t] = z at *
       have hst := Hls.out t z hge
       cases hb : liesB ES (p, q) t with
       | true =>
        rw [hb, Bool.true_or] at hst
        have Hst := Lib.hid hst
        clear hst hge hlk
        go_wp2_with (go_quiet (fail))
        go_roundw
        case rel => exact ⟨t + 1, HLt.out, by go_num, by rw [Hst.out], hx.drewN _⟩
        case measure => have := HLt.out; simp [intOf]; omega
       | false =>
        rw [hb, Bool.false_or] at hst
        obtain ⟨za, zb, zt⟩ := z
        simp only at hst
        have Hst := Lib.hid hst
        have HWi := Lib.hid (fun w' => spWithin_any (y1, y2) (za, zb) w')
        have Hre := Lib.hid (fun w' (h' : Ext w6 w') => reads_ed (Hrz.out.mod h' (fun _ _ f => f)) hge)
        simp only at HWi Hre
        have HS := Lib.hid (fun w' (h' : Ext wr w') => (⟨(Hrx.out w' (hx.ext_trans h')).1, (Hrx.out w' (hx.ext_trans h')).2, (Hre.out w' (hx.ext_trans h')).1, (Hre.out w' (hx.ext_trans h')).2.1⟩ : w'.cell? ⟨g5, j * 2, none⟩ = some (.int .i64 p) ∧ w'.cell? ⟨g5, j * 2 + 1, none⟩ = some (.int .i64 q) ∧ w'.cell? ⟨b, off + t * 3, none⟩ = some (.int .i64 za) ∧ w'.cell? ⟨b, off + t * 3 + 1, none⟩ = some (.int .i64 zb)))
        generalize withinS (y1, y2) (za, zb) = V at *
        clear hst hge hlk
        go_upto_region 22 with fail
        refine wp_region_E (by kernel_rfl) ?_
        refine wpE_t 0 141 (v := ?_) (fun w' hw' => qat_value ?_) ?_
        rotate_left
        ·go_simp
         rfl
        simp only [fr1, fr2, fr3, fr4]
        refine wpE_t 1 142 (v := ?_) (fun w' hw' => qat_value ?_) ?_
        rotate_left
        ·go_simp
         rfl
        simp only [fr1, fr2, fr3, fr4]
        refine wpE_t 2 143 (v := ?_) (fun w' hw' => qat_value ?_) ?_
        rotate_left
        ·go_simp
         rfl
        simp only [fr1, fr2, fr3, fr4]
        refine wpE_t 3 144 (v := ?_) (fun w' hw' => qat_value ?_) ?_
        rotate_left
        ·go_simp
         rfl
        simp only [fr1, fr2, fr3, fr4]
        refine wpE_t 4 145 (v := ?_) (fun w' hw' => qat_value ?_) ?_
        rotate_left
        ·go_simp
         rfl
        simp only [fr1, fr2, fr3, fr4]
        refine wpE_t 5 146 (v := ?_) (fun w' hw' => ?_) ?_
        rotate_left
        ·obtain ⟨r0, r1, r2, r3⟩ := HS.out w' hw'
         refine qat_value ?_
         go_simp
         rfl
        simp only [fr1, fr2, fr3, fr4]
        refine wpE_t 6 147 (v := ?_) (fun w' hw' => ?_) ?_
        rotate_left
        ·refine qat_enter (by go_simp; exact ⟨rfl, rfl⟩) ?_
         exact HSp.out _
        simp only [fr1, fr2, fr3, fr4]
        refine wpE_t 7 148 (v := ?_) (fun w' hw' => qat_value ?_) ?_
        rotate_left
        ·go_simp
         rfl
        simp only [fr1, fr2, fr3, fr4]
        refine wpE_t 8 149 (v := ?_) (fun w' hw' => qat_value ?_) ?_
        rotate_left
        ·go_simp
         rfl
        simp only [fr1, fr2, fr3, fr4]
        refine wpE_t 9 150 (v := ?_) (fun w' hw' => qat_value ?_) ?_
        rotate_left
        ·go_simp
         rfl
        simp only [fr1, fr2, fr3, fr4]
        refine wpE_t 10 151 (v := ?_) (fun w' hw' => qat_value ?_) ?_
        rotate_left
        ·go_simp
         rfl
        simp only [fr1, fr2, fr3, fr4]
        refine wpE_t 11 152 (v := ?_) (fun w' hw' => ?_) ?_
        rotate_left
        ·obtain ⟨r0, r1, r2, r3⟩ := HS.out w' hw'
         refine qat_value ?_
         go_simp
         rfl
        simp only [fr1, fr2, fr3, fr4]
        refine wpE_t 12 153 (v := ?_) (fun w' hw' => ?_) ?_
        rotate_left
        ·refine qat_enter (by go_simp; exact ⟨rfl, rfl⟩) ?_
         exact HWi.out _
        simp only [fr1, fr2, fr3, fr4]
        refine wpE_t 13 154 (v := ?_) (fun w' hw' => qat_value ?_) ?_
        rotate_left
        ·go_simp
         rfl
        simp only [fr1, fr2, fr3, fr4]
        refine wpE_t 14 14 (v := ?_) (fun w' hw' => qat_value ?_) ?_
        rotate_left
        ·go_simp
         rfl
        simp only [fr1, fr2, fr3, fr4]
        refine wpE_done (by kernel_rfl) (fun wk hwk => ?_) _
        have hyk := hx.ext_trans ((ext_draw wr).ext_trans hwk)
        clear hx hwk HS
        go_wp2_with fail
        go_roundw
        case rel => exact ⟨t + 1, HLt.out, by go_num, by rw [Hst.out], hyk⟩
        case measure => have := HLt.out; simp [intOf]; omega
      ·have hlt' : ¬ (t : Int) < (K : Int) := by omega
       obtain rfl : K = t := by omega
       rw [HK.out, Hla.out]
       rw [← HK.out]
       go_wp2_with fail
       go_roundw
       case rel => exact ⟨j + 1, HL.out, by go_num, hx⟩
       case measure => have := HL.out; simp [intOf]; omega
    ·have hlt' : ¬ (j : Int) < (N : Int) := by omega
     obtain rfl : N = j := by omega
     have HA7 := Lib.hid (HA6.out.on hx)
     have HDo := Lib.hid (HA7.out.do (by omega) (by omega) (by rw [E1.out]; omega) az cz ES (by rw [← HK.out]; exact Hrz.out.mod hx (fun _ _ f => f)) (by rw [← HK.out]; omega) (fun e he => by rw [(Hein.out e he).2.2.2]; show 0 ≤ 100000; omega) (fun _ => Hfar.out))
     rw [E1.out, Hmay.out, Hsb.out, ← HK.out] at HDo
     clear hx hlt hlt' Hwas6 Hrz Hfar HA6 Hwi Hel
     go_wp2_with fail
     refine HDo.out.mono ?_
     rintro e w7 ⟨S2, a7, c7, rfl, -, -, hd2, e1, -, -, e4, hA7⟩
     have HA8 := Lib.hid hA7
     have Hb2 := Lib.hid (hd2.sb.trans Hsb.out)
     have Hz2 := Lib.hid (show (S2.s.size : Int) = s.size - G by rw [e1, (textC_len Hmay.out).1, Hgr.out])
     have e4' : S2.q = selsM ES Q := by rw [e4, E4.out]; unfold selC; rw [if_pos Hmay.out]
     have HSe := Lib.hid (ssels_any S2 w7 HA8.out.sh HA8.out.q0 (by have := HA8.out.q1; omega))
     unfold NewRow at HSe
     rw [Hb2.out] at HSe
     have Hc2 := Lib.hid (show ∀ x ∈ S2.q, x.1 = x.2 by rw [e4']; exact Hca.out)
     have Hq8 := Lib.hid HA8.out.q1
     have HLn := Lib.hid (fun w' (h' : Ext w7 w') => Calls.same_ext (len_any S2.R w' (HA8.out.sh.rope.ext h')))
     rw [size_of HA8.out.sh.text] at HLn
     have HS7 := Lib.hid (fun w' (h' : Ext w7 w') => (⟨by have h := SheetAt.cell0 (HA8.out.sh.ext h'); rw [Hb2.out] at h; exact h, trivial, trivial, trivial⟩ : w'.cell? ⟨S.sb, 0, none⟩ = some (.pointer (some ⟨S2.R.rb, 0, none⟩)) ∧ True ∧ True ∧ True))
     have HX7 := Lib.hid HA8.out.ext
     generalize S2.s.size = n' at *
     generalize S2.q = Q2 at *
     clear HDo hd2 e1 e4 e4' hA7 HA7 HA8 Hmay Hgr Hein Hasc Hca Hin
     go_wp2_with fail
     refine HSe.out.mono ?_
     rintro e w8 ⟨g8, c8, rfl, ho8, hx8⟩
     have Hnow := Lib.hid (Reads.own ho8)
     have Hx8 := Lib.hid hx8
     obtain ⟨N2, hN2⟩ : ∃ N2, N2 = Q2.length := ⟨_, rfl⟩
     have HN2 := Lib.hid hN2
     have hn28 : N2 ≤ 8 := by rw [hN2]; exact Hq8.out
     rw [← hN2]
     clear HSe ho8 hx8 hN2
     go_wp2_with fail
     go_loopw [19] (fun i wr => ∃ t : Nat, t ≤ N2 ∧ i = .int .i64 t ∧ Ext w8 wr) (fun i _ => N2 - (intOf i).toNat)
     case atStart => exact ⟨0, by omega, rfl, Mod.refl _ _⟩
     case round =>
      obtain ⟨t, ht, rfl, hx⟩ := hrel
      by_cases hlt : t < N2
      ·have hlt' : (t : Int) < (N2 : Int) := by omega
       have ht0 : (0 : Int) ≤ (t : Int) := by omega
       have HLt := Lib.hid hlt
       have hlq : t < Q2.length := by rw [← HN2.out]; exact hlt
       obtain ⟨c0, c1⟩ := reads_pair (Hnow.out.mod hx (fun _ _ f => f)) (List.getElem?_eq_getElem hlq)
       have hcc := Hc2.out _ (List.getElem_mem hlq)
       generalize Q2[t] = x at *
       obtain ⟨p, q⟩ := x
       simp only [Nat.zero_add] at hcc c0 c1
       subst hcc
       have l1 : (p != p) = false := by simp
       have hbl := World.block_lt_of_cell? wr _ c0
       clear hlq
       go_wp2_with (go_quiet (fail))
       go_roundw
       case rel => exact ⟨t + 1, HLt.out, by go_num, hx.drewN _⟩
       case measure => have := HLt.out; simp [intOf]; omega
      ·have hlt' : ¬ (t : Int) < (N2 : Int) := by omega
       obtain rfl : N2 = t := by omega
       have HS := Lib.hid (fun w' (h' : Ext wr w') => HS7.out w' ((Hx8.out.ext_trans hx).ext_trans h'))
       have HX := Lib.hid (HX7.out.ext_trans (Hx8.out.ext_trans hx))
       have HLn2 := Lib.hid (fun w' (h' : Ext wr w') => HLn.out w' ((Hx8.out.ext_trans hx).ext_trans h'))
       have l1 : IntKind.i64.wrap ((s.size : Int) - G) = (n' : Int) := by rw [← Hz2.out]; exact IntWalk.i64_in _ (by have := Hz2.out; have := Hg.out.1; omega)
       clear HS7 HLn hx hlt hlt' Hnow
       have l2 : wrap64 ((s.size : Int) - G) = (n' : Int) := by rw [← IntWalk.i64_left]; exact l1
       obtain ⟨r0, -⟩ := HS.out wr (Mod.refl _ _)
       have hbl := World.block_lt_of_cell? wr _ r0
       go_wp2_with fail
       refine (HLn2.out _ (Mod.refl _ _)).mono ?_
       rintro e wk ⟨rfl, hxk⟩
       clear r0 hbl
       go_wp2_with fail
       refine (awakeS_any _).mono ?_
       rintro e wl ⟨rfl, hxl⟩
       have hend := HX.out.ext_trans (hxk.ext_trans hxl)
       go_wp2_with fail
       go_ret
       exact ⟨rfl, hend⟩
theorem sheetErased_calls (w : World) (s : ByteArray) (_ : s.size ≤ 9223372036854775807) (ao : Option Addr) (cap : Nat) (L : List (Int × Int)) (hr : Reads w 2 ao L.length (prCells L)) (_ : L.length ≤ maxLen) (_ : ∀ x ∈ L, i64w x.1 ∧ i64w x.2) (forth : Bool) :
  Calls Tryz.prog 5 #[.string s, .slice ao L.length cap, .bool forth] w fun e w' => e = .returned (.bool true) ∧ Ext w w' := by
 by_cases h1 : s.size ≤ 80
 ·have i1 : ¬ (80 : Int) < (s.size : Int) := by omega
  have i2 : decide ((80 : Int) < (s.size : Int)) = false := decide_eq_false i1
  by_cases h2 : L.length = 0
  ·have i3 : (L.length : Int) = 0 := by omega
   have i4 : ((L.length : Int) == 0) = true := by rw [i3]; rfl
   clear hr
   go_enter Tryz.func5, Tryz.ntmps5
   go_wp2_with fail
   refine (awakeS_any _).mono ?_
   rintro e w1 ⟨rfl, hx⟩
   go_wp2_with fail
   go_ret
   exact ⟨rfl, hx⟩
  ·have i3 : ¬ (L.length : Int) = 0 := by omega
   have i4 : decide ((L.length : Int) = 0) = false := decide_eq_false i3
   have i5 : ((L.length : Int) == 0) = false := i4
   by_cases h3 : L.length ≤ 8
   ·exact sheetErased_any w s ao cap L forth h1 hr (by omega) h3
   ·have i6 : (8 : Int) < (L.length : Int) := by omega
    have i7 : decide ((8 : Int) < (L.length : Int)) = true := decide_eq_true i6
    clear hr
    go_enter Tryz.func5, Tryz.ntmps5
    go_wp2_with fail
    refine (awakeS_any _).mono ?_
    rintro e w1 ⟨rfl, hx⟩
    go_wp2_with fail
    go_ret
    exact ⟨rfl, hx⟩
 ·have i1 : (80 : Int) < (s.size : Int) := by omega
  have i2 : decide ((80 : Int) < (s.size : Int)) = true := decide_eq_true i1
  clear hr
  go_enter Tryz.func5, Tryz.ntmps5
  go_wp2_with fail
  refine (awakeS_any _).mono ?_
  rintro e w1 ⟨rfl, hx⟩
  go_wp2_with fail
  go_ret
  exact ⟨rfl, hx⟩
end Go.Proofs.YthlmgoagnfkhdaaGreat

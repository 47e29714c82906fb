/- Names that are set one behind the other are all there, each with its last value; 64 are let, one more is not, but a known name may be set still: the walk. Conditions: none. -/
import Derived.Test.YtmecdhbiinpepaaDoorGimPackY
import Derived.Test.YtmecdhbiinpepaaDoorGimVarsSet
import Derived.Test.YtmecdhbiinpepaaDoorGimDigits
namespace Go.Gim
def newS : ByteArray := ⟨#[110, 101, 119]⟩
theorem manyN_len (i : Nat) : (manyN i).length = min i 64 := manyL_len _
theorem manyN_step (i : Nat) (h : i < 64) : manyN (i + 1) = manyL (i + 1) ∧ manyN i = manyL i := by
  unfold manyN
  rw [Nat.min_eq_left (by omega), Nat.min_eq_left (by omega)]; exact ⟨rfl, rfl⟩
theorem manyN_full (i : Nat) (h : 64 ≤ i) : manyN i = manyL 64 := by unfold manyN; rw [Nat.min_eq_right h]
theorem vN_sum (i : Nat) (h : i < 70) : (ByteArray.mk #[118]).size + (digS i).size ≤ 9223372036854775807 ∧ 1 + (digS i).size ≤ 9223372036854775807 := by
  have := vN_size i h
  unfold vN at this
  rw [ByteArray.size_append] at this
  have e : (ByteArray.mk #[118]).size = 1 := rfl
  omega
end Go.Gim
namespace Go.Proofs.YtmecdhbiinpepaaDoor
open Go.RowKit Go.Gim

set_option maxHeartbeats 1600000 in
set_option maxRecDepth 1000000 in
theorem varsMany_any (w : World) (a b : Int) :
    Calls Tryd.prog 8 #[.int .i64 a, .int .i64 b] w fun e w' => e = .returned (.bool true) ∧ Ext w w' := by
  have L1 := fun v => low_any a 5 v (by omega) (by omega)
  have L2 := fun v => low_any b 62 v (by omega) (by omega)
  have q1 := lowN_lt a 5 (by omega)
  have q2 := lowN_lt b 62 (by omega)
  rw [show (5 : Int).toNat = 5 from rfl] at L1
  rw [show (62 : Int).toNat = 62 from rfl] at L2
  generalize lowN a 5 = m at *
  generalize lowN b 62 = k at *
  go_enter Tryd.func8, Tryd.ntmps8
  go_wp2_with fail
  refine (L1 _).mono ?_
  rintro e w1 ⟨rfl, rfl⟩
  go_wp2_with fail
  refine (L2 _).mono ?_
  rintro e w2 ⟨rfl, rfl⟩
  go_wp2_with fail
  obtain ⟨n, hn⟩ : ∃ n : Nat, (62 : Int) + (m : Int) = n := ⟨62 + m, by omega⟩
  rw [hn]
  have hn1 : 62 ≤ n := by omega
  have hn2 : n ≤ 66 := by omega
  clear L1 L2 hn q1
  have HD := Lib.hid (fun (i : Nat) w' (h : i < 100) => digits_any i w' (by omega))
  have HQ := Lib.hid (fun (i : Nat) w' (h : i < 70) => (show Calls Tryd.prog 28 #[.int .i64 ((i : Int) * (i : Int))] w' fun e w2 => e = .returned (.string (digS (i * i))) ∧ Ext w' w2 by
    have := digits_any (i * i) w' (by have := Nat.mul_le_mul (show i ≤ 70 by omega) (show i ≤ 70 by omega); omega)
    rw [Int.natCast_mul] at this
    exact this))
  have HW := Lib.hid (fun (i : Nat) (h : i < 70) => (IntWalk.wrap64_in ((i : Int) * (i : Int)) (by
    have h2 := Nat.mul_le_mul (show i ≤ 70 by omega) (show i ≤ 70 by omega)
    have h3 : ((i * i : Nat) : Int) = (i : Int) * (i : Int) := Int.natCast_mul i i
    exact ⟨by omega, by omega⟩)))
  have HS := Lib.hid (fun (x v : ByteArray) (i : Nat) ao cap w' (h : Reads w' 2 ao (min i 64) (spCells (manyN i))) (hx : x.size ≤ maxLen) => (show Calls Tryd.prog 23 #[.string x, .string v, .slice ao (min i 64) cap] w' (SetPost 33 x v (manyN i) w') by
    rw [← manyN_len] at h ⊢
    exact vset_any x v ao cap (manyN i) w' h (by rw [manyN_len]; omega) hx))
  go_loopw [7, 8] (fun v i wr => ∃ (j : Nat) (ao : Option Addr) (cap : Nat), j ≤ n ∧ i = .int .i64 j ∧ v = .slice ao (min j 64) cap ∧ Hid (Reads wr 2 ao (min j 64) (spCells (manyN j)) ∧ Ext w2 wr)) (fun _ i _ => n - (intOf i).toNat)
  case atStart => exact ⟨0, none, 0, by omega, rfl, rfl, Lib.hid ⟨⟨rfl, fun h => absurd h (Nat.lt_irrefl _)⟩, Mod.refl _ _⟩⟩
  case round =>
    obtain ⟨j, ao, cap, hj, rfl, rfl, HJ⟩ := hrel
    by_cases hlt : j < n
    · have hlt' : (j : Int) < (n : Int) := by omega
      have hj70 : j < 70 := by omega
      obtain ⟨z1, z2⟩ := vN_sum j hj70
      go_wp2_with fail
      refine (HD.out j wr (by omega)).mono ?_
      rintro e w3 ⟨rfl, hx3⟩
      go_wp2_with fail
      rw [HW.out j hj70]
      refine (HQ.out j w3 hj70).mono ?_
      rintro e w4 ⟨rfl, hx4⟩
      have hx34 := hx3.ext_trans hx4
      have HJ4 := Lib.hid (HJ.out.1.mod hx34 (fun _ _ f => f))
      have hx24 := Lib.hid (HJ.out.2.ext_trans hx34)
      have hvs := vN_size j hj70
      clear hx3 hx4 hx34 z1 z2 HJ
      go_wp2_with fail
      refine (HS.out (vN j) (digS (j * j)) j ao cap w4 HJ4.out (by unfold maxLen; omega)).mono ?_
      have HJ2 := HJ4
      clear HJ4 hvs
      by_cases h64 : j < 64
      · obtain ⟨e1, e2⟩ := manyN_step j h64
        obtain ⟨f1, f2⟩ := set_less j h64
        rw [e2]
        unfold SetPost
        rw [f1, f2, manyL_len]
        rintro e w5 ⟨r, rfl, hor, hx5⟩
        obtain ⟨a1, c1, rfl, hrr⟩ := ownsS_reads hor
        have g1 : ¬ (64 : Int) ≤ (j : Int) := by omega
        have hm1 : min (j + 1) 64 = j + 1 := Nat.min_eq_left (by omega)
        have Hrr := Lib.hid hrr
        have E1 := Lib.hid e1
        have hx25 := hx24.out.ext_trans hx5
        clear hor hrr e1 e2 f1 f2 hx5 hx24
        go_wp2_with fail
        go_roundw
        case rel => exact ⟨j + 1, a1, c1, by omega, by go_num, by rw [hm1], Lib.hid ⟨by rw [hm1, E1.out]; exact Hrr.out, hx25⟩⟩
        case measure => simp [intOf]; omega
      · obtain ⟨f1, f2⟩ := set_full j (by omega) hj70 (digS (j * j)) (digS_size j hj70)
        rw [manyN_full j (by omega)]
        unfold SetPost
        rw [f1, f2]
        rintro e w5 ⟨r, rfl, hor, hx5⟩
        obtain ⟨a1, c1, rfl, _⟩ := ownsS_reads hor
        have g1 : (64 : Int) ≤ (j : Int) := by omega
        have hm1 : min (j + 1) 64 = 64 := Nat.min_eq_right (by omega)
        have hm0 : min j 64 = 64 := Nat.min_eq_right (by omega)
        have hJ := HJ2.out
        rw [hm0, manyN_full j (by omega)] at hJ
        have Hrr := Lib.hid (hJ.mod hx5 (fun _ _ f => f))
        have hx25 := hx24.out.ext_trans hx5
        have HM := Lib.hid (manyN_full (j + 1) (by omega))
        clear hor f1 f2 hx5 hx24 hJ HJ2
        rw [hm0]
        go_wp2_with fail
        go_roundw
        case rel => exact ⟨j + 1, ao, cap, by omega, by go_num, by rw [hm1], Lib.hid ⟨by rw [hm1, HM.out]; exact Hrr.out, hx25⟩⟩
        case measure => simp [intOf]; omega
    · have hlt' : ¬ (j : Int) < (n : Int) := by omega
      obtain rfl : j = n := by omega
      obtain ⟨z1, z2⟩ := vN_sum k (by omega)
      have hvs := vN_size k (by omega)
      obtain ⟨f1, f2⟩ := set_again k (min j 64) (by omega) (by omega) newS (by decide)
      have hget := Lib.hid (fun i (h : i < min j 64) => get_again i k (min j 64) h (by omega) (by omega) newS (by decide))
      have HS2 := Lib.hid (fun w' h => HS.out (vN k) newS j ao cap w' h (by unfold maxLen; omega))
      unfold SetPost manyN at HS2
      have hSl : (setL (vN k) newS (manyL (min j 64))).length = min j 64 := by rw [f2, List.length_set, manyL_len]
      rw [f1] at HS2
      clear f2
      generalize setL (vN k) newS (manyL (min j 64)) = S at *
      rw [hSl] at HS2
      have HSl := Lib.hid hSl
      have hm62 : 62 ≤ min j 64 := by omega
      have hm64 : min j 64 ≤ 64 := by omega
      obtain ⟨M, hM⟩ : ∃ M, min j 64 = M := ⟨_, rfl⟩
      have HJM := Lib.hid hM
      rw [hM] at hget HS2 HSl hm62 hm64 ⊢
      clear hSl f1 hM HS
      go_wp2_with fail
      refine (HD.out k wr (by omega)).mono ?_
      rintro e w3 ⟨rfl, hx3⟩
      have hrd := HJ.out.1.mod hx3 (fun _ _ f => f)
      unfold manyN at hrd
      rw [HJM.out] at hrd
      have Hrd := Lib.hid hrd
      have hx23 := HJ.out.2.ext_trans hx3
      clear hx3 hrd
      go_wp2_with fail
      refine (HS2.out w3 Hrd.out).mono ?_
      rintro e w4 ⟨r, rfl, hor, hx4⟩
      rw [← HSl.out] at hor
      obtain ⟨a1, c1, rfl, hrr⟩ := ownsS_reads hor
      rw [HSl.out] at hrr ⊢
      have Hrr := Lib.hid hrr
      have hx24 := hx23.ext_trans hx4
      clear hor hrr hx23 hx4 Hrd HJ HS2 z1 z2 hvs hlt' hlt hj
      go_wp2_with fail
      have HGet := Lib.hid (fun q w' (h : Reads w' 2 a1 M (spCells S)) => (show Calls Tryd.prog 17 #[.string (vN q), .slice a1 M c1] w' fun e w2 => e = .returned (GotV (vN q) S) ∧ Ext w' w2 by
        rw [← HSl.out] at h ⊢
        exact vget_any (vN q) a1 c1 S w' h (by rw [HSl.out]; omega)))
      go_loopw [13] (fun i wx => ∃ q : Nat, q ≤ M ∧ i = .int .i64 q ∧ Ext w4 wx) (fun i _ => M - (intOf i).toNat)
      case atStart => exact ⟨0, by omega, rfl, Mod.refl _ _⟩
      case round =>
        obtain ⟨q, hq, rfl, hxq⟩ := hrel
        by_cases hqM : q < M
        · have hlt' : (q : Int) < (M : Int) := by omega
          obtain ⟨z1, z2⟩ := vN_sum q (by omega)
          go_wp2_with fail
          refine (HD.out q _ (by omega)).mono ?_
          rintro e w5 ⟨rfl, hx5⟩
          go_wp2_with fail
          refine (HGet.out q w5 (Hrr.out.mod (hxq.ext_trans hx5) (fun _ _ f => f))).mono ?_
          rintro e w6 ⟨rfl, hx6⟩
          rw [gotV_some (hget.out q hqM)]
          have hx46 := hxq.ext_trans (hx5.ext_trans hx6)
          clear z1 z2 hxq hx5 hx6
          by_cases hqk : q = k
          · subst hqk
            rw [if_pos rfl, show newS = ⟨#[110, 101, 119]⟩ from rfl]
            go_wp2_with fail
            go_roundw
            case rel => exact ⟨q + 1, by omega, by go_num, hx46⟩
            case measure => simp [intOf]; omega
          · rw [if_neg hqk]
            have g1 : ((q : Int) == (k : Int)) = false := by simp; exact fun e => hqk (by omega)
            go_wp2_with fail
            rw [HW.out q (by omega)]
            refine (HQ.out q w6 (by omega)).mono ?_
            rintro e w7 ⟨rfl, hx7⟩
            go_wp2_with fail
            go_roundw
            case rel => exact ⟨q + 1, by omega, by go_num, hx46.ext_trans hx7⟩
            case measure => simp [intOf]; omega
        · have hlt' : ¬ (q : Int) < (M : Int) := by omega
          go_wp2_with fail
          refine (awake23_any _).mono ?_
          rintro e w5 ⟨rfl, hx5⟩
          go_wp2_with fail
          go_ret
          exact ⟨rfl, hx24.ext_trans (hxq.ext_trans hx5)⟩
theorem varsMany_calls (w : World) (a : Int) (_ : (Lit.int .i64 a).wf = true) (b : Int) (_ : (Lit.int .i64 b).wf = true) :
    Calls Tryd.prog 8 #[.int .i64 a, .int .i64 b] w fun e w' => e = .returned (.bool true) ∧ Ext w w' := varsMany_any w a b
end Go.Proofs.YtmecdhbiinpepaaDoor

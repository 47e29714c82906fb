/- Any name is set, in any variables, or refused, as the document tells: the walk. Conditions: none. -/
import Derived.Test.YtmecdhbiinpepaaDoorGimPackY
import Derived.Test.YtmecdhbiinpepaaDoorGimRef23
import Derived.Test.YtmecdhbiinpepaaDoorGimVarsSet
namespace Go.Gim
theorem ends_both {n v o : ByteArray} {l : List Pv} (h : setE n v l = 0) : getV n (setL n v l) = some v ∧ (o ≠ n → getV o (setL n v l) = getV o l) := by
  unfold setL
  rw [if_pos h]
  exact ⟨getV_set_self _ _ _, fun e => getV_set_other _ e _⟩
end Go.Gim
namespace Go.Proofs.YtmecdhbiinpepaaDoor
open Go.RowKit Go.Gim

set_option maxHeartbeats 800000 in
set_option maxRecDepth 1000000 in
theorem varsSet_any (w : World) (n v o : ByteArray) (ao : Option Addr) (cap : Nat) (l : List Pv) (hr : Reads w 2 ao l.length (spCells l)) (hl : l.length ≤ maxLen) (hn : n.size ≤ 80) (hv : v.size ≤ 80) (ho : o.size ≤ 80) (he : envB 70 400 l = false) :
    Calls Tryd.prog 7 #[.string n, .string v, .string o, .slice ao l.length cap] w fun e w' => e = .returned (.bool true) ∧ Ext w w' := by
  have hlen := envB_len he
  have i1 : ¬ (80 : Int) < (n.size : Int) := by omega
  have i2 : ¬ (80 : Int) < (v.size : Int) := by omega
  have i3 : ¬ (80 : Int) < (o.size : Int) := by omega
  have henv := Lib.hid (env_any 70 400 ao cap l w hr (by omega) (by omega) hl (by omega))
  have hset := Lib.hid (fun w' h => vset_any n v ao cap l w' h (by omega) (by unfold maxLen; omega))
  have href := Lib.hid (fun w' h => refSetV_any n v ao cap l w' h (by omega) (by unfold maxLen; omega))
  have hget := Lib.hid (fun w' h => vget_any o ao cap l w' h (by omega))
  have hrget := Lib.hid (fun w' h => refGet_any o ao cap l w' h (by omega))
  have Hr := Lib.hid hr
  have He := Lib.hid he
  have Hl := Lib.hid hlen
  obtain ⟨N, hN⟩ : ∃ N, N = l.length := ⟨_, rfl⟩
  have HN := Lib.hid hN
  rw [← hN] at henv hset href hget hrget ⊢
  clear hr he hl hlen hN
  go_enter Tryd.func7, Tryd.ntmps7
  go_wp2_with fail
  refine henv.out.mono ?_
  rintro e w1 ⟨rfl, hx1⟩
  rw [He.out]
  go_wp2_with fail
  have Hr1 := Lib.hid (Hr.out.mod hx1 (fun _ _ f => f))
  rw [← HN.out] at Hr1
  refine (hset.out w1 Hr1.out).mono ?_
  rintro e w2 ⟨a, rfl, ho2, hx2⟩
  obtain ⟨a1, ca, rfl, hra⟩ := ownsS_reads ho2
  have Hra := Lib.hid hra
  clear hra ho2
  have hlL : (setL n v l).length ≤ 1000000 := by
    unfold setL
    split
    · rw [putV_len]; have := Hl.out; split <;> omega
    · simp
  have HlL := Lib.hid hlL
  clear hlL
  go_wp2_with fail
  have Hr2 := Lib.hid (Hr1.out.mod hx2 (fun _ _ f => f))
  refine (href.out w2 Hr2.out).mono ?_
  rintro e w3 ⟨b, rfl, ho3, hx3⟩
  obtain ⟨b1, cb, rfl, hrb⟩ := ownsS_reads ho3
  have Hrb := Lib.hid hrb
  clear hrb ho3
  have Hra3 := Lib.hid (Hra.out.mod hx3 (fun _ _ f => f))
  go_wp2_with fail
  refine (pairsSame a1 b1 ca cb (setL n v l) w3 Hra3.out Hrb.out HlL.out).mono ?_
  rintro e w4 ⟨rfl, hx4⟩
  have Hra4 := Lib.hid (Hra3.out.mod hx4 (fun _ _ f => f))
  have Hr4 := Lib.hid (Hr2.out.mod (hx3.ext_trans hx4) (fun _ _ f => f))
  have hy4 := hx1.ext_trans (hx2.ext_trans (hx3.ext_trans hx4))
  have Hk1 := Lib.hid (fun w' => known_any o w')
  have Hk2 := Lib.hid (fun w' => refKnown_any o w')
  have HG := Lib.hid (fun (h : setE n v l = 0) => ends_both (o := o) h)
  have Hsa := Lib.hid (fun m w' h => vget_any m a1 ca (setL n v l) w' h HlL.out)
  have HE0 := Lib.hid (show GotV o l = GotV o l from rfl)
  unfold GotV at hget hrget
  generalize getV o l = G at *
  generalize setL n v l = S at *
  clear hset href Hra Hra3 Hr Hr1 Hr2 Hrb hx1 hx2 hx3 hx4 He HlL HE0 henv
  go_wp2_with fail
  refine (hget.out w4 Hr4.out).mono ?_
  rintro e w5 ⟨rfl, hx5⟩
  have Hra5 := Lib.hid (Hra4.out.mod hx5 (fun _ _ f => f))
  have Hr5 := Lib.hid (Hr4.out.mod hx5 (fun _ _ f => f))
  have hy5 := hy4.ext_trans hx5
  clear Hra4 Hr4 hy4 hx5 hget
  by_cases c : setE n v l = 0
  · obtain ⟨g1, g2⟩ := HG.out c
    rw [c]
    have G1 := Lib.hid g1
    have G2 := Lib.hid g2
    clear c g1 g2 HG
    go_wp2_with fail
    refine (Hsa.out o w5 Hra5.out).mono ?_
    rintro e w6 ⟨rfl, hx6⟩
    have Hra6 := Lib.hid (Hra5.out.mod hx6 (fun _ _ f => f))
    have Hr6 := Lib.hid (Hr5.out.mod hx6 (fun _ _ f => f))
    have hy6 := hy5.ext_trans hx6
    clear Hra5 Hr5 hy5 hx6
    unfold GotV
    go_wp2_with fail
    refine (Hsa.out n w6 Hra6.out).mono ?_
    rintro e w7 ⟨rfl, hx7⟩
    rw [gotV_some G1.out]
    have Hr7 := Lib.hid (Hr6.out.mod hx7 (fun _ _ f => f))
    have hy7 := hy6.ext_trans hx7
    clear Hra6 Hr6 hy6 hx7 Hsa
    by_cases hon : o = n
    · subst hon
      rw [G1.out]
      go_wp2_with fail
      refine (hrget.out w7 Hr7.out).mono ?_
      rintro e w8 ⟨rfl, rfl⟩
      go_wp2_with fail
      refine (Hk1.out w8).mono ?_
      rintro e w9 ⟨rfl, rfl⟩
      go_wp2_with fail
      refine (Hk2.out w9).mono ?_
      rintro e w10 ⟨rfl, hx10⟩
      go_wp2_with fail
      refine (awake23_any _).mono ?_
      rintro e w11 ⟨rfl, hx11⟩
      go_wp2_with fail
      go_ret
      exact ⟨rfl, hy7.ext_trans (hx10.ext_trans hx11)⟩
    · have e1 := str_ne hon
      rw [G2.out hon]
      clear hon
      go_wp2_with fail
      refine (hrget.out w7 Hr7.out).mono ?_
      rintro e w8 ⟨rfl, rfl⟩
      go_wp2_with fail
      refine (Hk1.out w8).mono ?_
      rintro e w9 ⟨rfl, rfl⟩
      go_wp2_with fail
      refine (Hk2.out w9).mono ?_
      rintro e w10 ⟨rfl, hx10⟩
      go_wp2_with fail
      refine (awake23_any _).mono ?_
      rintro e w11 ⟨rfl, hx11⟩
      go_wp2_with fail
      go_ret
      exact ⟨rfl, hy7.ext_trans (hx10.ext_trans hx11)⟩
  · have c1 : (setE n v l == 0) = false := by simpa using c
    generalize setE n v l = E at *
    clear HG
    go_wp2_with fail
    refine (hrget.out w5 Hr5.out).mono ?_
    rintro e w8 ⟨rfl, rfl⟩
    go_wp2_with fail
    refine (Hk1.out w8).mono ?_
    rintro e w9 ⟨rfl, rfl⟩
    go_wp2_with fail
    refine (Hk2.out w9).mono ?_
    rintro e w10 ⟨rfl, hx10⟩
    go_wp2_with fail
    refine (awake23_any _).mono ?_
    rintro e w11 ⟨rfl, hx11⟩
    go_wp2_with fail
    go_ret
    exact ⟨rfl, hy5.ext_trans (hx10.ext_trans hx11)⟩
set_option maxHeartbeats 800000 in
set_option maxRecDepth 1000000 in
theorem varsSet_calls (w : World) (n : ByteArray) (wn : n.size ≤ 9223372036854775807) (v : ByteArray) (wv : v.size ≤ 9223372036854775807) (o : ByteArray) (wo : o.size ≤ 9223372036854775807) (ao : Option Addr) (cap : Nat) (l : List Pv) (hr : Reads w 2 ao l.length (spCells l)) (hl : l.length ≤ maxLen) (_ : ∀ x ∈ l, x.1.size ≤ maxLen ∧ x.2.size ≤ maxLen) :
    Calls Tryd.prog 7 #[.string n, .string v, .string o, .slice ao l.length cap] w fun e w' => e = .returned (.bool true) ∧ Ext w w' := by
  by_cases h1 : (80 : Int) < (n.size : Int)
  · go_enter Tryd.func7, Tryd.ntmps7
    go_wp2_with fail
    refine (awake23_any _).mono ?_
    rintro e w1 ⟨rfl, hx⟩
    go_wp2_with fail
    go_ret
    exact ⟨rfl, hx⟩
  · by_cases h2 : (80 : Int) < (v.size : Int)
    · go_enter Tryd.func7, Tryd.ntmps7
      go_wp2_with fail
      refine (awake23_any _).mono ?_
      rintro e w1 ⟨rfl, hx⟩
      go_wp2_with fail
      go_ret
      exact ⟨rfl, hx⟩
    · by_cases h3 : (80 : Int) < (o.size : Int)
      · go_enter Tryd.func7, Tryd.ntmps7
        go_wp2_with fail
        refine (awake23_any _).mono ?_
        rintro e w1 ⟨rfl, hx⟩
        go_wp2_with fail
        go_ret
        exact ⟨rfl, hx⟩
      · have henv := env_any 70 400 ao cap l w hr (by omega) (by omega) hl (by omega)
        cases he : envB 70 400 l with
        | true =>
          clear hr
          go_enter Tryd.func7, Tryd.ntmps7
          go_wp2_with fail
          refine henv.mono ?_
          rintro e w1 ⟨rfl, hx1⟩
          rw [he]
          go_wp2_with fail
          refine (awake23_any _).mono ?_
          rintro e w2 ⟨rfl, hx2⟩
          go_wp2_with fail
          go_ret
          exact ⟨rfl, hx1.ext_trans hx2⟩
        | false => exact varsSet_any w n v o ao cap l hr hl (by omega) (by omega) (by omega) he
end Go.Proofs.YtmecdhbiinpepaaDoor

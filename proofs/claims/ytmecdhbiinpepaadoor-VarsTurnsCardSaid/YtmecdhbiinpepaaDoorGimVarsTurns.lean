/- Two unlike names may be set in either order: the walk. Conditions: none. -/
import Derived.Test.YtmecdhbiinpepaaDoorGimPackY
import Derived.Test.YtmecdhbiinpepaaDoorGimVarsSet
import Derived.Test.YtmecdhbiinpepaaDoorGimPackV
namespace Go.Proofs.YtmecdhbiinpepaaDoor
open Go.RowKit Go.Gim

set_option maxHeartbeats 3200000 in
set_option maxRecDepth 1000000 in
theorem varsTurns_any (w : World) (ao : Option Addr) (cap : Nat) (l : List Pv) (hr : Reads w 2 ao l.length (spCells l)) (hl : l.length ≤ maxLen) (a b c x y : ByteArray)
    (ha : a.size ≤ 30) (hb : b.size ≤ 30) (hc : c.size ≤ 30) (hx : x.size ≤ 30) (hy : y.size ≤ 30) (he : envB 40 300 l = false) (hne : a ≠ b) :
    Calls Tryd.prog 9 #[.slice ao l.length cap, .string a, .string b, .string c, .string x, .string y] w fun e w' => e = .returned (.bool true) ∧ Ext w w' := by
  have hlen := envB_len he
  have i1 : ¬ (30 : Int) < (a.size : Int) := by omega
  have i2 : ¬ (30 : Int) < (b.size : Int) := by omega
  have i3 : ¬ (30 : Int) < (c.size : Int) := by omega
  have i4 : ¬ (30 : Int) < (x.size : Int) := by omega
  have i5 : ¬ (30 : Int) < (y.size : Int) := by omega
  have sne := str_ne hne
  have henv := Lib.hid (env_any 40 300 ao cap l w hr (by omega) (by omega) hl (by omega))
  have hs1 := Lib.hid (fun w' h => vset_any a x ao cap l w' h (by omega) (by unfold maxLen; omega))
  have hs2 := Lib.hid (fun w' h => vset_any b y ao cap l w' h (by omega) (by unfold maxLen; omega))
  have Hr := Lib.hid hr
  have He := Lib.hid he
  have Hl := Lib.hid hlen
  have Hne := Lib.hid hne
  obtain ⟨N, hN⟩ : ∃ N, N = l.length := ⟨_, rfl⟩
  have HN := Lib.hid hN
  rw [← hN] at henv hs1 hs2 ⊢
  clear hr he hl hlen hN hne ha hb hc hx hy
  go_enter Tryd.func9, Tryd.ntmps9
  go_wp2_with fail
  refine henv.out.mono ?_
  rintro e w1 ⟨rfl, hx1⟩
  rw [He.out]
  go_wp2_with fail
  have Hr1 := Lib.hid (Hr.out.mod hx1 (fun _ _ f => f))
  rw [← HN.out] at Hr1
  clear i1 i2 i3 i4 i5 sne
  refine (hs1.out w1 Hr1.out).mono ?_
  rintro e w2 ⟨p, rfl, hp, hx2⟩
  have Hp := Lib.hid hp
  clear hp
  go_wp2_with fail
  have Hr2 := Lib.hid (Hr1.out.mod hx2 (fun _ _ f => f))
  refine (hs2.out w2 Hr2.out).mono ?_
  rintro e w3 ⟨q, rfl, hq, hx3⟩
  have Hq := Lib.hid hq
  have hx13 := hx1.ext_trans (hx2.ext_trans hx3)
  clear hq
  by_cases c1 : setE a x l = 0
  · by_cases c2 : setE b y l = 0
    · obtain ⟨f1, f2, len, g1, g2, g3, n1, n2, n3⟩ := turns Hne.out (by have := Hl.out; omega) c1 c2
      obtain ⟨a1, ca, rfl, hra⟩ := ownsS_reads Hp.out
      obtain ⟨b1, cb, rfl, hrb⟩ := ownsS_reads Hq.out
      have Hra := Lib.hid (hra.mod hx3 (fun _ _ f => f))
      have Hrb := Lib.hid hrb
      have ht1 := Lib.hid (fun w' h => vset_any b y a1 ca (setL a x l) w' h (by omega) (by unfold maxLen; omega))
      have ht2 := Lib.hid (fun w' h => vset_any a x b1 cb (setL b y l) w' h (by omega) (by unfold maxLen; omega))
      unfold SetPost at ht1 ht2
      rw [f1] at ht1
      rw [f2] at ht2
      rw [c1, c2]
      have G1 := Lib.hid g1
      have G2 := Lib.hid g2
      have G3 := Lib.hid g3
      have Len := Lib.hid len
      have N3 := Lib.hid n3
      generalize setL b y (setL a x l) = R at *
      generalize setL a x (setL b y l) = S at *
      generalize setL a x l = P at *
      generalize setL b y l = Q at *
      clear Hp Hq hs1 hs2 Hr Hr1 Hr2 He Hl Hne HN hra hrb f1 f2 g1 g2 g3 len n1 n2 n3 c1 c2 henv
      go_wp2_with fail
      refine (ht1.out w3 Hra.out).mono ?_
      rintro e w4 ⟨r, rfl, hor, hx4⟩
      obtain ⟨a2, c2, rfl, hrr⟩ := ownsS_reads hor
      have Hrr := Lib.hid hrr
      have Hrb4 := Lib.hid (Hrb.out.mod hx4 (fun _ _ f => f))
      clear hor hrr Hrb Hra
      go_wp2_with fail
      refine (ht2.out w4 Hrb4.out).mono ?_
      rintro e w5 ⟨s, rfl, hos, hx5⟩
      obtain ⟨a3, c3, rfl, hrs⟩ := ownsS_reads hos
      have Hrs5 := Lib.hid hrs
      have Hrr5 := Lib.hid (Hrr.out.mod hx5 (fun _ _ f => f))
      have hy5 := hx13.ext_trans (hx4.ext_trans hx5)
      have hS := Lib.hid (show S.length ≤ 1000000 by rw [← Len.out]; have := N3.out; omega)
      have hR := Lib.hid (show R.length ≤ 1000000 by have := N3.out; omega)
      clear hos hrs Hrr Hrb4 hx13 hx4 hx5 ht1 ht2
      go_wp2_with fail
      refine (vget_any a a2 c2 R w5 Hrr5.out hR.out).mono ?_
      rintro e w6 ⟨rfl, hx6⟩
      rw [gotV_some G1.out]
      have Hrr6 := Lib.hid (Hrr5.out.mod hx6 (fun _ _ f => f))
      have Hrs6 := Lib.hid (Hrs5.out.mod hx6 (fun _ _ f => f))
      have hy6 := hy5.ext_trans hx6
      clear Hrr5 Hrs5 hy5 hx6
      go_wp2_with fail
      refine (vget_any b a3 c3 S w6 Hrs6.out hS.out).mono ?_
      rintro e w7 ⟨rfl, hx7⟩
      rw [gotV_some G2.out]
      have Hrr7 := Lib.hid (Hrr6.out.mod hx7 (fun _ _ f => f))
      have Hrs7 := Lib.hid (Hrs6.out.mod hx7 (fun _ _ f => f))
      have hy7 := hy6.ext_trans hx7
      clear Hrr6 Hrs6 hy6 hx7
      go_wp2_with fail
      refine (vget_any c a2 c2 R w7 Hrr7.out hR.out).mono ?_
      rintro e w8 ⟨rfl, hx8⟩
      have Hrs8 := Lib.hid (Hrs7.out.mod hx8 (fun _ _ f => f))
      have hy8 := hy7.ext_trans hx8
      clear Hrr7 Hrs7 hy7 hx8
      unfold GotV
      go_wp2_with fail
      refine (vget_any c a3 c3 S w8 Hrs8.out hS.out).mono ?_
      rintro e w9 ⟨rfl, hx9⟩
      have hy9 := hy8.ext_trans hx9
      clear Hrs8 hy8 hx9
      unfold GotV
      rw [← G3.out c, ← Len.out]
      go_wp2_with fail
      refine (awake23_any _).mono ?_
      rintro e w10 ⟨rfl, hx10⟩
      go_wp2_with fail
      go_ret
      exact ⟨rfl, hy9.ext_trans hx10⟩
    · rw [c1]
      generalize setE b y l = E2 at *
      have k2 : (E2 == 0) = false := by simpa using c2
      go_wp2_with fail
      refine (awake23_any _).mono ?_
      rintro e w4 ⟨rfl, hx4⟩
      go_wp2_with fail
      go_ret
      exact ⟨rfl, hx13.ext_trans hx4⟩
  · generalize setE a x l = E1 at *
    have k1 : (E1 == 0) = false := by simpa using c1
    go_wp2_with fail
    refine (awake23_any _).mono ?_
    rintro e w4 ⟨rfl, hx4⟩
    go_wp2_with fail
    go_ret
    exact ⟨rfl, hx13.ext_trans hx4⟩
set_option maxHeartbeats 800000 in
set_option maxRecDepth 1000000 in
theorem varsTurns_calls (w : World) (ao : Option Addr) (cap : Nat) (l : List Pv) (hr : Reads w 2 ao l.length (spCells l)) (hl : l.length ≤ maxLen) (_ : ∀ x ∈ l, x.1.size ≤ maxLen ∧ x.2.size ≤ maxLen)
    (a : ByteArray) (wa : a.size ≤ 9223372036854775807) (b : ByteArray) (wb : b.size ≤ 9223372036854775807) (c : ByteArray) (wc : c.size ≤ 9223372036854775807) (x : ByteArray) (wx : x.size ≤ 9223372036854775807) (y : ByteArray) (wy : y.size ≤ 9223372036854775807) :
    Calls Tryd.prog 9 #[.slice ao l.length cap, .string a, .string b, .string c, .string x, .string y] w fun e w' => e = .returned (.bool true) ∧ Ext w w' := by
  have henv := env_any 40 300 ao cap l w hr (by omega) (by omega) hl (by omega)
  cases he : envB 40 300 l with
  | true =>
    clear hr
    go_enter Tryd.func9, Tryd.ntmps9
    go_wp2_with fail
    refine henv.mono ?_
    rintro e w1 ⟨rfl, hx1⟩
    rw [he]
    go_wp2_with fail
    refine (awake23_any _).mono ?_
    rintro e w2 ⟨rfl, hx2⟩
    go_wp2_with fail
    go_ret
    exact ⟨rfl, hx1.ext_trans hx2⟩
  | false =>
    by_cases h1 : (30 : Int) < (a.size : Int)
    · clear hr
      go_enter Tryd.func9, Tryd.ntmps9
      go_wp2_with fail
      refine henv.mono ?_
      rintro e w1 ⟨rfl, hx1⟩
      rw [he]
      go_wp2_with fail
      refine (awake23_any _).mono ?_
      rintro e w2 ⟨rfl, hx2⟩
      go_wp2_with fail
      go_ret
      exact ⟨rfl, hx1.ext_trans hx2⟩
    · by_cases h2 : (30 : Int) < (b.size : Int)
      · clear hr
        go_enter Tryd.func9, Tryd.ntmps9
        go_wp2_with fail
        refine henv.mono ?_
        rintro e w1 ⟨rfl, hx1⟩
        rw [he]
        go_wp2_with fail
        refine (awake23_any _).mono ?_
        rintro e w2 ⟨rfl, hx2⟩
        go_wp2_with fail
        go_ret
        exact ⟨rfl, hx1.ext_trans hx2⟩
      · by_cases h3 : (30 : Int) < (c.size : Int)
        · clear hr
          go_enter Tryd.func9, Tryd.ntmps9
          go_wp2_with fail
          refine henv.mono ?_
          rintro e w1 ⟨rfl, hx1⟩
          rw [he]
          go_wp2_with fail
          refine (awake23_any _).mono ?_
          rintro e w2 ⟨rfl, hx2⟩
          go_wp2_with fail
          go_ret
          exact ⟨rfl, hx1.ext_trans hx2⟩
        · by_cases h4 : (30 : Int) < (x.size : Int)
          · clear hr
            go_enter Tryd.func9, Tryd.ntmps9
            go_wp2_with fail
            refine henv.mono ?_
            rintro e w1 ⟨rfl, hx1⟩
            rw [he]
            go_wp2_with fail
            refine (awake23_any _).mono ?_
            rintro e w2 ⟨rfl, hx2⟩
            go_wp2_with fail
            go_ret
            exact ⟨rfl, hx1.ext_trans hx2⟩
          · by_cases h5 : (30 : Int) < (y.size : Int)
            · clear hr
              go_enter Tryd.func9, Tryd.ntmps9
              go_wp2_with fail
              refine henv.mono ?_
              rintro e w1 ⟨rfl, hx1⟩
              rw [he]
              go_wp2_with fail
              refine (awake23_any _).mono ?_
              rintro e w2 ⟨rfl, hx2⟩
              go_wp2_with fail
              go_ret
              exact ⟨rfl, hx1.ext_trans hx2⟩
            · by_cases hab : a = b
              · have sab := str_eq hab
                clear hr hab
                go_enter Tryd.func9, Tryd.ntmps9
                go_wp2_with fail
                refine henv.mono ?_
                rintro e w1 ⟨rfl, hx1⟩
                rw [he]
                go_wp2_with fail
                refine (awake23_any _).mono ?_
                rintro e w2 ⟨rfl, hx2⟩
                go_wp2_with fail
                go_ret
                exact ⟨rfl, hx1.ext_trans hx2⟩
              · exact varsTurns_any w ao cap l hr hl a b c x y (by omega) (by omega) (by omega) (by omega) (by omega) he hab
end Go.Proofs.YtmecdhbiinpepaaDoor

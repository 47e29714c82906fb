/- The word at a place has word bytes alone, touches the place, and ends on both sides where there is none; if there is no word, none of the two bytes beside is one: the walk. Conditions: none. -/
import Derived.Test.YtmecdhbiinpepaaDoorGimPlaceTab
import Derived.Test.YtmecdhbiinpepaaDoorGimWordP
import Derived.Test.YtmecdhbiinpepaaDoorGimRefWordV
namespace Go.Gim
theorem getV_append (n : ByteArray) (b : List Pv) : ∀ a : List Pv, getV n (a ++ b) = (getV n a).or (getV n b)
  | [] => rfl
  | x :: r => by
    rw [List.cons_append]
    by_cases h : x.1 = n
    · simp [getV, h]
    · simp [getV, h, getV_append n b r]
theorem getV_one (n m v : ByteArray) : getV n [(m, v)] = if m = n then some v else none := rfl
theorem getW_place (s : ByteArray) (k : Nat) (hk : k ≤ s.size) (a : Int) : getV wrdN (placeL s.data.toList (a, (k : Int)) []) = if fromW s.data.toList k < toW s.data.toList k then some (s.extract (fromW s.data.toList k) (toW s.data.toList k)) else none := by
  have ht := wdAt_text s k hk
  obtain ⟨_, _, w3, _⟩ := word_is s.data.toList k hk
  have hsz : (s.extract (fromW s.data.toList k) (toW s.data.toList k)).size = toW s.data.toList k - fromW s.data.toList k := by
    rw [ByteArray.size_extract]
    have : s.data.toList.length = s.size := rfl
    omega
  have e1 : ∀ t, getV wrdN (selP t) = none := by intro t; unfold selP; split <;> rfl
  have e2 : ∀ t, getV wrdN [(curN, t)] = none := by intro t; rfl
  have e3 : ∀ p q, getV wrdN [(idxN, p), (numN, q)] = none := by intro p q; rfl
  unfold placeL
  rw [show ((a, (k : Int)) : Int × Int).2.toNat = k from Int.toNat_natCast k, ht, show pathP (getV pathN []) = [] from rfl]
  simp only [getV_append, e1, e2, e3, Option.none_or, Option.or_none, show getV wrdN [] = none from rfl]
  unfold wordP
  by_cases h : fromW s.data.toList k < toW s.data.toList k
  · rw [if_pos h, if_neg (fun e => by rw [e] at hsz; have : (ByteArray.mk #[]).size = 0 := rfl; omega)]; rfl
  · rw [if_neg h, if_pos (by apply ByteArray.size_eq_zero_iff.1; omega)]; rfl
end Go.Gim
namespace Go.Proofs.YtmecdhbiinpepaaDoor
open Go.RowKit Go.Gim

set_option maxHeartbeats 1600000 in
set_option maxRecDepth 1000000 in
theorem varsWord_any (w : World) (s : ByteArray) (a : Int) (hs : s.size ≤ 100) (ht : Tab w) :
    Calls Tryd.prog 5 #[.string s, .int .i64 a] w fun e w' => e = .returned (.bool true) ∧ Ext w w' := by
  have i1 : ¬ (100 : Int) < (s.size : Int) := by omega
  have L1 := fun v => low_any a ((s.size : Int) + 1) v (by omega) (by omega)
  rw [show ((s.size : Int) + 1).toNat = s.size + 1 by omega] at L1
  have hk := lowN_lt a (s.size + 1) (by omega)
  generalize lowN a (s.size + 1) = k at *
  have hk1 : k ≤ s.size := by omega
  have Hg := Lib.hid (getW_place s k hk1 0)
  obtain ⟨w1, w2, w3, w4, w5, w6⟩ := word_is s.data.toList k hk1
  have hsm := word_some s.data.toList k hk1
  rw [toList_length] at w3
  generalize hF : fromW s.data.toList k = F at *
  generalize hTT : toW s.data.toList k = T at *
  obtain ⟨A, hA⟩ : ∃ A : Bool, A = decide (0 < k ∧ ∃ c, s.data.toList[k - 1]? = some c ∧ wB c = true) := ⟨_, rfl⟩
  obtain ⟨B, hB⟩ : ∃ B : Bool, B = decide (∃ c, s.data.toList[k]? = some c ∧ wB c = true) := ⟨_, rfl⟩
  rw [← hA, ← hB] at hsm
  have HA := Lib.hid hA
  have HB := Lib.hid hB
  have HAB := Lib.hid hsm
  have W4 := Lib.hid w4
  have W5 := Lib.hid w5
  have W6 := Lib.hid w6
  have L1 := Lib.hid L1
  have Ht := Lib.hid ht
  clear hA hB hsm w4 w5 w6 hF hTT ht hk
  go_enter Tryd.func5, Tryd.ntmps5
  go_wp2_with fail
  refine (of23_any s w (by omega)).mono ?_
  rintro e wa ⟨R, rfl, hR, hT, hx, -, -⟩
  go_wp2_with fail
  obtain ⟨u, hu⟩ : ∃ u, u = wa.alloc (.cells #[.pointer (some ⟨R.rb, 0, none⟩)] 29) := ⟨_, rfl⟩
  have hxu : Ext wa u := by rw [hu]; exact (Mod.refl _ wa).alloc _
  have hbl : Blk u wa.heap.size 29 #[.pointer (some ⟨R.rb, 0, none⟩)] := by rw [hu]; exact Blk.new _ _ _
  rw [← hu]
  clear hu
  refine (L1.out u).mono ?_
  rintro e w2 ⟨rfl, rfl⟩
  have hz : R.t.size = s.size := by
    have : R.text.length = R.t.size := rfl
    rw [← this, hT]; rfl
  have hrn : Reads w2 2 none ([] : List Pv).length (spCells []) := ⟨rfl, fun h => absurd h (Nat.lt_irrefl _)⟩
  have hp := Lib.hid (vplace_tab R (0, (k : Int)) [] none 0 w2 (hR.ext hxu) (by unfold mayV spanI; rw [hz]; exact decide_eq_true (by simp only; omega)) (Ht.out.ext (hx.ext_trans hxu)) hrn (by decide) (fun p hp => by cases hp))
  rw [hT] at hp
  have hxw := hx.ext_trans hxu
  have r0 := hbl.cell 0
  have Hpl := Lib.hid (show (placeL s.data.toList (0, (k : Int)) []).length ≤ 1000000 by
    unfold placeL
    have a1 := selP_len (bs (cut s.data.toList (spanI ((0, (k : Int)) : Int × Int)).1 (spanI ((0, (k : Int)) : Int × Int)).2))
    have a2 := wordP_len (wdAt s.data.toList (((0, (k : Int)) : Int × Int).2.toNat))
    have a3 := pathP_len (getV pathN [])
    simp only [List.length_append, List.length_cons, List.length_nil] at a1 a2 a3 ⊢
    omega)
  generalize placeL s.data.toList (0, (k : Int)) [] = P at *
  clear hR hT hx hxu hbl hrn L1
  go_wp2_with fail
  refine hp.out.mono ?_
  rintro e w3 ⟨v, rfl, hov, hx3⟩
  obtain ⟨a1, c1, rfl, hra⟩ := ownsS_reads hov
  have Hra := Lib.hid hra
  have hx4 := hxw.ext_trans hx3
  clear hra hov hp r0 hxw hx3
  go_wp2_with fail
  refine (vget_any wrdN a1 c1 P w3 Hra.out Hpl.out).mono ?_
  rintro e w4 ⟨rfl, hx5⟩
  have hx6 := hx4.ext_trans hx5
  clear hx4 hx5 Hra
  obtain ⟨WD, IS, hWD, HY, HN⟩ : ∃ WD IS, GotV wrdN P = .tuple #[.string WD, .bool IS] ∧ Hid (F < T → WD = s.extract F T ∧ IS = true) ∧ Hid (¬ F < T → WD = ⟨#[]⟩ ∧ IS = false) := by
    by_cases h : F < T
    · refine ⟨s.extract F T, true, gotV_some (by rw [Hg.out, if_pos h]), Lib.hid (fun _ => ⟨rfl, rfl⟩), Lib.hid (fun h2 => absurd h h2)⟩
    · refine ⟨⟨#[]⟩, false, gotV_none (by rw [Hg.out, if_neg h]), Lib.hid (fun h2 => absurd h2 h), Lib.hid (fun _ => ⟨rfl, rfl⟩)⟩
  rw [hWD]
  clear hWD Hg Hpl
  go_upto_region 9 with fail
  go_cut [7, 12] (fun v7 v wx => ∃ (b : Bool) (wn : World), v7 = .int .i64 k ∧ v = .bool b ∧ wn = wx ∧ Hid (b = A ∧ wn = w4))
  case first =>
    by_cases k0 : 0 < k
    · obtain ⟨n, rfl⟩ : ∃ n, k = n + 1 := ⟨k - 1, by omega⟩
      have hn : n < s.size := by omega
      have hn1 : (n : Int) < (s.size : Int) := by omega
      have hn2 : (0 : Int) ≤ (n : Int) := by omega
      have hn3 : (0 : Int) < (n : Int) + 1 := by omega
      have hAA : A = wB s[n] := by
        rw [HA.out, Nat.add_sub_cancel, List.getElem?_eq_getElem (by rw [toList_length]; exact hn), toList_get s n hn]
        cases hb : wB s[n] <;> simp [hb]
      have HAA := Lib.hid hAA
      clear hAA k0
      go_wp2_with fail
      refine (refWordV_any s[n] _).mono ?_
      rintro e v1 ⟨rfl, rfl⟩
      go_wp2_with fail
      go_meet
      case rel => exact ⟨_, _, by go_num, rfl, rfl, Lib.hid ⟨HAA.out.symm, rfl⟩⟩
    · have k1 : ¬ (0 : Int) < (k : Int) := by omega
      have hAA : A = false := by rw [HA.out]; exact decide_eq_false (fun h => k0 h.1)
      have HAA := Lib.hid hAA
      clear hAA k0
      go_wp2_with fail
      go_meet
      case rel => exact ⟨_, _, by go_num, rfl, rfl, Lib.hid ⟨HAA.out.symm, rfl⟩⟩
  case rest =>
    obtain ⟨b0, wm, rfl, rfl, rfl, Hc⟩ := hcut
    obtain ⟨rfl, rfl⟩ := Hc.out
    go_upto_region 10 with fail
    go_cut [13] (fun v wx => ∃ (b : Bool) (wn : World), v = .bool b ∧ wn = wx ∧ Hid (b = B ∧ wn = wm))
    case first =>
      by_cases k0 : k < s.size
      · have hn1 : (k : Int) < (s.size : Int) := by omega
        have hn2 : (0 : Int) ≤ (k : Int) := by omega
        have hBB : B = wB s[k] := by
          rw [HB.out, List.getElem?_eq_getElem (by rw [toList_length]; exact k0), toList_get s k k0]
          cases hb : wB s[k] <;> simp [hb]
        have HBB := Lib.hid hBB
        clear hBB
        go_wp2_with fail
        refine (refWordV_any s[k] _).mono ?_
        rintro e v1 ⟨rfl, rfl⟩
        go_wp2_with fail
        go_meet
        case rel => exact ⟨_, _, rfl, rfl, Lib.hid ⟨HBB.out.symm, rfl⟩⟩
      · have k1 : ¬ (k : Int) < (s.size : Int) := by omega
        have hBB : B = false := by
          rw [HB.out]
          refine decide_eq_false (fun h => ?_)
          obtain ⟨c, hc, _⟩ := h
          have := (List.getElem?_eq_some_iff.1 hc).1
          rw [toList_length] at this; exact k0 this
        have HBB := Lib.hid hBB
        clear hBB k0
        go_wp2_with fail
        go_meet
        case rel => exact ⟨_, _, rfl, rfl, Lib.hid ⟨HBB.out.symm, rfl⟩⟩
    case rest =>
      obtain ⟨b1, wn, rfl, rfl, Hc⟩ := hcut
      obtain ⟨rfl, rfl⟩ := Hc.out
      by_cases hFT : F < T
      · obtain ⟨rfl, rfl⟩ := HY.out hFT
        have hab := HAB.out
        rw [decide_eq_true hFT] at hab
        have Hab := Lib.hid hab
        clear hab
        have hWz : (s.extract F T).size = T - F := by rw [ByteArray.size_extract]; omega
        have hby : ∀ (V : ByteArray), s.extract F T = V → ∀ (q : Nat) (h : q < V.size), wB V[q] = true := by
          rintro _ rfl q h
          obtain ⟨c, hc, hw⟩ := W6.out (F + q) (by omega) (by omega)
          have hlt : F + q < s.size := by omega
          rw [List.getElem?_eq_getElem (by rw [toList_length]; exact hlt), toList_get s (F + q) hlt] at hc
          cases hc
          rw [ByteArray.getElem_extract]; exact hw
        obtain ⟨WD, hWD⟩ : ∃ WD, s.extract F T = WD := ⟨_, rfl⟩
        have Hby := Lib.hid (hby WD hWD)
        rw [hWD] at hWz ⊢
        clear hby
        have HWz := Lib.hid hWz
        have HWD := Lib.hid hWD
        clear hWz hWD
        go_upto_region 11 with fail
        go_cut [12, 13, 81] (fun _ _ v wx => ∃ (b : Bool) (wz : World), v = .bool b ∧ wz = wx ∧ Hid (b = false ∧ wz = wn))
        case first =>
          cases hA : b0 with
          | true =>
            go_wp2_with fail
            go_meet
            case rel => exact ⟨_, _, rfl, rfl, Lib.hid ⟨rfl, rfl⟩⟩
          | false =>
            have hB : b1 = true := by have hab := Hab.out; rw [hA] at hab; simpa using hab.symm
            rw [hB]
            go_wp2_with fail
            go_meet
            case rel => exact ⟨_, _, rfl, rfl, Lib.hid ⟨rfl, rfl⟩⟩
        case rest =>
          obtain ⟨b2, wz, rfl, rfl, Hc⟩ := hcut
          obtain ⟨rfl, rfl⟩ := Hc.out
          go_wp2_with fail
          clear Hab HAB HA HB HY HN Hc
          go_loopw [14] (fun i wr => ∃ f : Nat, f ≤ F ∧ i = .int .i64 f ∧ wr = wz) (fun i _ => F + 1 - (intOf i).toNat)
          case atStart => exact ⟨0, by omega, rfl, rfl⟩
          case round =>
            obtain ⟨f, hf, rfl, rfl⟩ := hrel
            have g1 : (f : Int) ≤ (k : Int) := by omega
            have g2 : (f : Int) + (WD.size : Int) ≤ (s.size : Int) := by have := HWz.out; omega
            go_upto_region 19 with fail
            obtain ⟨Z, hZ⟩ : ∃ Z, Hid (Z = f + (T - F)) := ⟨_, Lib.hid rfl⟩
            have hz : (f : Int) + (WD.size : Int) = (Z : Int) := by have := hZ.out; have := HWz.out; omega
            rw [hz]
            have z0 : (0 : Int) ≤ (f : Int) := by omega
            have z1 : (f : Int) ≤ (Z : Int) := by omega
            have z2 : (Z : Int) ≤ (s.size : Int) := by have := hZ.out; omega
            clear g1 g2 hz
            go_cut [14, 15, 136] (fun v1 v2 v wx => ∃ (b : Bool) (wq : World), v1 = .int .i64 f ∧ v2 = .int .i64 Z ∧ v = .bool b ∧ wq = wx ∧ Hid ((f = F → b = false) ∧ wq = wr))
            case first =>
              by_cases c1 : Z < k
              · have c1' : (Z : Int) < (k : Int) := by omega
                go_wp2_with fail
                go_meet
                case rel => exact ⟨true, _, by go_num, rfl, rfl, rfl, Lib.hid ⟨(fun e => by have := hZ.out; omega), rfl⟩⟩
              · have c1' : ¬ (Z : Int) < (k : Int) := by omega
                by_cases c2 : s.extract f Z = WD
                · have e2 := str_eq c2
                  clear c2
                  by_cases c3 : 0 < f
                  · obtain ⟨n, rfl⟩ : ∃ n, f = n + 1 := ⟨f - 1, by omega⟩
                    have hn : n < s.size := by omega
                    have hn1 : (n : Int) < (s.size : Int) := by omega
                    have hn2 : (0 : Int) ≤ (n : Int) := by omega
                    have hn3 : (0 : Int) < (n : Int) + 1 := by omega
                    cases hb : wB s[n] with
                    | true =>
                      have Hb := Lib.hid hb
                      clear hb
                      go_wp2_with fail
                      refine (refWordV_any s[n] _).mono ?_
                      rintro e v1 ⟨rfl, rfl⟩
                      rw [Hb.out]
                      go_wp2_with fail
                      go_meet
                      case rel => exact ⟨true, _, by go_num, rfl, rfl, rfl, Lib.hid ⟨(fun e => by
                                              rcases W4.out with h | ⟨c, hc, hw⟩
                                              · omega
                                              · rw [← e, Nat.add_sub_cancel, List.getElem?_eq_getElem (by rw [toList_length]; exact hn), toList_get s n hn] at hc
                                                cases hc
                                                rw [Hb.out] at hw; cases hw), rfl⟩⟩
                    | false =>
                      have Hb := Lib.hid hb
                      clear hb
                      go_wp2_with fail
                      refine (refWordV_any s[n] _).mono ?_
                      rintro e v1 ⟨rfl, rfl⟩
                      rw [Hb.out]
                      by_cases c4 : Z < s.size
                      · have c4' : (Z : Int) < (s.size : Int) := by omega
                        cases hb2 : wB s[Z] with
                        | true =>
                          have Hb2 := Lib.hid hb2
                          clear hb2
                          go_wp2_with fail
                          refine (refWordV_any s[Z] _).mono ?_
                          rintro e v1 ⟨rfl, rfl⟩
                          rw [Hb2.out]
                          go_wp2_with fail
                          go_meet
                          case rel => exact ⟨true, _, by go_num, rfl, rfl, rfl, Lib.hid ⟨(fun e => by
                                                      have hq := hZ.out
                                                      have hTZ : T = Z := by omega
                                                      rcases W5.out with h | ⟨c, hc, hw⟩
                                                      · rw [toList_length] at h; omega
                                                      · rw [hTZ, List.getElem?_eq_getElem (by rw [toList_length]; exact c4), toList_get s Z c4] at hc
                                                        cases hc
                                                        rw [Hb2.out] at hw; cases hw), rfl⟩⟩
                        | false =>
                          have Hb2 := Lib.hid hb2
                          clear hb2
                          go_wp2_with fail
                          refine (refWordV_any s[Z] _).mono ?_
                          rintro e v1 ⟨rfl, rfl⟩
                          rw [Hb2.out]
                          go_wp2_with fail
                          go_meet
                          case rel => exact ⟨false, _, by go_num, rfl, rfl, rfl, Lib.hid ⟨(fun _ => rfl), rfl⟩⟩
                      · have c4' : ¬ (Z : Int) < (s.size : Int) := by omega
                        go_wp2_with fail
                        go_meet
                        case rel => exact ⟨false, _, by go_num, rfl, rfl, rfl, Lib.hid ⟨(fun _ => rfl), rfl⟩⟩
                  · obtain rfl : f = 0 := by omega
                    by_cases c4 : Z < s.size
                    · have c4' : (Z : Int) < (s.size : Int) := by omega
                      cases hb2 : wB s[Z] with
                      | true =>
                        have Hb2 := Lib.hid hb2
                        clear hb2
                        go_wp2_with fail
                        refine (refWordV_any s[Z] _).mono ?_
                        rintro e v1 ⟨rfl, rfl⟩
                        rw [Hb2.out]
                        go_wp2_with fail
                        go_meet
                        case rel => exact ⟨true, _, by go_num, rfl, rfl, rfl, Lib.hid ⟨(fun e => by
                                                  have hq := hZ.out
                                                  have hTZ : T = Z := by omega
                                                  rcases W5.out with h | ⟨c, hc, hw⟩
                                                  · rw [toList_length] at h; omega
                                                  · rw [hTZ, List.getElem?_eq_getElem (by rw [toList_length]; exact c4), toList_get s Z c4] at hc
                                                    cases hc
                                                    rw [Hb2.out] at hw; cases hw), rfl⟩⟩
                      | false =>
                        have Hb2 := Lib.hid hb2
                        clear hb2
                        go_wp2_with fail
                        refine (refWordV_any s[Z] _).mono ?_
                        rintro e v1 ⟨rfl, rfl⟩
                        rw [Hb2.out]
                        go_wp2_with fail
                        go_meet
                        case rel => exact ⟨false, _, by go_num, rfl, rfl, rfl, Lib.hid ⟨(fun _ => rfl), rfl⟩⟩
                    · have c4' : ¬ (Z : Int) < (s.size : Int) := by omega
                      go_wp2_with fail
                      go_meet
                      case rel => exact ⟨false, _, by go_num, rfl, rfl, rfl, Lib.hid ⟨(fun _ => rfl), rfl⟩⟩
                · have e2 := str_ne c2
                  go_wp2_with fail
                  go_meet
                  case rel => exact ⟨true, _, by go_num, rfl, rfl, rfl, Lib.hid ⟨(fun e => absurd (by rw [e, hZ.out, e, show F + (T - F) = T by omega]; exact HWD.out) c2), rfl⟩⟩
            case rest =>
              obtain ⟨b, wq, rfl, rfl, rfl, rfl, Hq⟩ := hcut
              obtain ⟨hb, rfl⟩ := Hq.out
              cases b with
              | true =>
                have hne : f ≠ F := fun e => by cases hb e
                clear hb Hq
                go_wp2_with fail
                go_roundw
                case rel => exact ⟨f + 1, by omega, by go_num, trivial⟩
                case measure => simp [intOf]; omega
              | false =>
                clear hb Hq
                go_wp2_with fail
                go_loopw [16] (fun i wx => ∃ q : Nat, q ≤ WD.size ∧ i = .int .i64 q ∧ wx = wq) (fun i _ => WD.size - (intOf i).toNat)
                case atStart => exact ⟨0, by omega, rfl, rfl⟩
                case round =>
                  obtain ⟨q, hq, rfl, rfl⟩ := hrel
                  by_cases hqM : q < WD.size
                  · have q1 : (q : Int) < (WD.size : Int) := by omega
                    have q2 : (0 : Int) ≤ (q : Int) := by omega
                    have q3 : (q : Int) + 1 ≤ 100 := by have := HWz.out; omega
                    have hb : wB WD[q] = true := Hby.out q hqM
                    have HC := Lib.hid (fun v => refWordV_any WD[q] v)
                    rw [hb] at HC
                    clear hb
                    have HqM := Lib.hid hqM
                    go_wp2_with fail
                    refine (HC.out _).mono ?_
                    rintro e v1 ⟨rfl, rfl⟩
                    go_wp2_with fail
                    go_roundw
                    case rel => exact ⟨q + 1, HqM.out, by go_num, trivial⟩
                    case measure => have := HqM.out; simp [intOf]; omega
                  · have q1 : ¬ (q : Int) < (WD.size : Int) := by omega
                    have q2 : (0 : Int) < (WD.size : Int) := by have := HWz.out; omega
                    go_wp2_with fail
                    refine (awake23_any _).mono ?_
                    rintro e w9 ⟨rfl, hx9⟩
                    go_wp2_with fail
                    go_ret
                    exact ⟨rfl, hx6.ext_trans hx9⟩
      · obtain ⟨rfl, rfl⟩ := HN.out hFT
        have hab := HAB.out
        rw [decide_eq_false hFT] at hab
        obtain ⟨rfl, rfl⟩ : b0 = false ∧ b1 = false := by cases b0 <;> cases b1 <;> simp at hab ⊢
        clear hab
        go_wp2_with fail
        refine (awake23_any _).mono ?_
        rintro e w9 ⟨rfl, hx9⟩
        go_wp2_with fail
        go_ret
        exact ⟨rfl, hx6.ext_trans hx9⟩
set_option maxHeartbeats 800000 in
set_option maxRecDepth 1000000 in
theorem varsWord_calls (w : World) (s : ByteArray) (ws : s.size ≤ 9223372036854775807) (a : Int) (_ : (Lit.int .i64 a).wf = true) (ht : Tab w) :
    Calls Tryd.prog 5 #[.string s, .int .i64 a] w fun e w' => e = .returned (.bool true) ∧ Ext w w' := by
  by_cases h1 : (100 : Int) < (s.size : Int)
  · clear ht
    go_enter Tryd.func5, Tryd.ntmps5
    go_wp2_with fail
    refine (awake23_any _).mono ?_
    rintro e w1 ⟨rfl, hx⟩
    go_wp2_with fail
    go_ret
    exact ⟨rfl, hx⟩
  · exact varsWord_any w s a (by omega) ht
end Go.Proofs.YtmecdhbiinpepaaDoor

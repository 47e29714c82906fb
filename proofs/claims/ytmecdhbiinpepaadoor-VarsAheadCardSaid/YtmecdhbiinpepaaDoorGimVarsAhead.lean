/- What a place gives stands ahead of what is set by the same name; a path is its directory, a sign, its file, the file its base and the rest: the walk. Conditions: none. -/
import Derived.Test.YtmecdhbiinpepaaDoorGimPlaceTab
import Derived.Test.YtmecdhbiinpepaaDoorGimAheadP
namespace Go.Proofs.YtmecdhbiinpepaaDoor
open Go.RowKit Go.Gim
theorem reads_new4 (w : World) (a b c d e f g h : ByteArray) : Reads (w.alloc (.cells #[.string a, .string b, .string c, .string d, .string e, .string f, .string g, .string h] 33)) 2 (some ⟨w.heap.size, 0, none⟩) 4 (spCells [(a, b), (c, d), (e, f), (g, h)]) := by
  have := Reads.new w 33 #[.string a, .string b, .string c, .string d, .string e, .string f, .string g, .string h] 2 4 rfl
  exact (show Reads _ _ _ _ [.string a, .string b, .string c, .string d, .string e, .string f, .string g, .string h] by simpa using this)

set_option maxHeartbeats 1600000 in
set_option maxRecDepth 1000000 in
theorem varsAhead_any (w : World) (s : ByteArray) (a : Int) (p v : ByteArray) (hs : s.size ≤ 100) (hp : p.size ≤ 60) (hv : v.size ≤ 30) (ht : Tab w) :
    Calls Tryd.prog 4 #[.string s, .int .i64 a, .string p, .string v] w fun e w' => e = .returned (.bool true) ∧ Ext w w' := by
  have i1 : ¬ (100 : Int) < (s.size : Int) := by omega
  have i2 : ¬ (60 : Int) < (p.size : Int) := by omega
  have i3 : ¬ (30 : Int) < (v.size : Int) := by omega
  have L1 := fun v => low_any a ((s.size : Int) + 1) v (by omega) (by omega)
  rw [show ((s.size : Int) + 1).toNat = s.size + 1 by omega] at L1
  have hk := lowN_lt a (s.size + 1) (by omega)
  generalize lowN a (s.size + 1) = k at *
  have hk1 : k ≤ s.size := by omega
  obtain ⟨q1, q2, q3, q4, q5, q6, q7⟩ := ahead_gets s.data.toList k p v
  have hb1 := brk_le s.data.toList
  have hL := lineAt_le s.data.toList k
  have hf : lineN s.data.toList (lineAt s.data.toList k) ≤ k := lineN_le s.data.toList k
  have he : k ≤ lineE s.data.toList (lineAt s.data.toList k) := lineE_geV s.data.toList k (by rw [toList_length]; exact hk1)
  have he2 := lineE_le s.data.toList (lineAt s.data.toList k)
  rw [toList_length] at he2 hb1
  rw [show ltAt s.data.toList k = s.extract (lineN s.data.toList (lineAt s.data.toList k)) (lineE s.data.toList (lineAt s.data.toList k)) by unfold ltAt; exact bs_cut _ _ _] at q1
  have Q1 := Lib.hid q1
  have Q2 := Lib.hid q2
  have Q3 := Lib.hid q3
  have Q4 := Lib.hid q4
  have Q5 := Lib.hid q5
  have Q6 := Lib.hid q6
  have Q7 := Lib.hid q7
  have L1 := Lib.hid L1
  have Ht := Lib.hid ht
  have Hb := Lib.hid (base_is (fileOf p))
  have hn := file_no p
  have HW1 := Lib.hid (whole_slash p)
  have HW2 := Lib.hid (whole_none p)
  have hD : (dirOf p).size ≤ 60 := by unfold dirOf; rw [ByteArray.size_extract]; omega
  have hFi : (fileOf p).size ≤ 60 := by unfold fileOf; rw [ByteArray.size_extract]; omega
  generalize baseOf (fileOf p) = Ba at *
  generalize fileOf p = Fi at *
  generalize dirOf p = D at *
  have Hn := Lib.hid hn
  clear hn
  have hhas : hasB s.data.toList (lineAt s.data.toList k : Nat) = true := has_of ⟨by omega, by omega⟩
  have HAt := Lib.hid (fun R w' (h : RopeAt w' R) (hT : R.text = s.data.toList) (hz : R.t.size = s.size) => (show Calls Tryd.prog 18 #[.agg #[.pointer (some ⟨R.rb, 0, none⟩)], .int .i64 k] w' fun e w2 => e = .returned (.tuple #[.int .i64 (lineAt s.data.toList k : Nat), .int .i64 0]) ∧ Ext w' w2 by
    have := at_yes R k w' h (rises_of ⟨by omega, by omega, by omega⟩)
    rw [hT, Int.toNat_natCast] at this
    exact this))
  have HSt := Lib.hid (fun R w' (h : RopeAt w' R) (hT : R.text = s.data.toList) => (show Calls Tryd.prog 19 #[.agg #[.pointer (some ⟨R.rb, 0, none⟩)], .int .i64 (lineAt s.data.toList k : Nat)] w' fun e w2 => e = .returned (.tuple #[.int .i64 (lineN s.data.toList (lineAt s.data.toList k) : Nat), .int .i64 0]) ∧ Ext w' w2 by
    have := start_yes R (lineAt s.data.toList k) w' h (by rw [hT]; exact hhas)
    rw [hT] at this
    exact this))
  have HEn := Lib.hid (fun R w' (h : RopeAt w' R) (hT : R.text = s.data.toList) => (show Calls Tryd.prog 20 #[.agg #[.pointer (some ⟨R.rb, 0, none⟩)], .int .i64 (lineAt s.data.toList k : Nat)] w' fun e w2 => e = .returned (.tuple #[.int .i64 (lineE s.data.toList (lineAt s.data.toList k) : Nat), .int .i64 0]) ∧ Ext w' w2 by
    have := end_yes R (lineAt s.data.toList k) w' h (by rw [hT]; exact hhas)
    rw [hT] at this
    exact this))
  generalize lineE s.data.toList (lineAt s.data.toList k) = E at *
  generalize lineN s.data.toList (lineAt s.data.toList k) = N at *
  generalize lineAt s.data.toList k = ln at *
  clear q1 q2 q3 q4 q5 q6 q7 ht hk hhas hb1 hL
  go_enter Tryd.func4, Tryd.ntmps4
  go_wp2_with fail
  clear i1 i2 i3
  refine (of23_any s w (by omega)).mono ?_
  rintro e wa ⟨R, rfl, hR, hT, hx, -, -⟩
  go_wp2_with fail
  obtain ⟨u, hu⟩ : ∃ u, u = wa.alloc (.cells #[.pointer (some ⟨R.rb, 0, none⟩)] 29) := ⟨_, rfl⟩
  have hxu : Ext wa u := by rw [hu]; exact (Mod.refl _ wa).alloc _
  have hbl : Blk u wa.heap.size 29 #[.pointer (some ⟨R.rb, 0, none⟩)] := by rw [hu]; exact Blk.new _ _ _
  rw [← hu]
  clear hu
  refine (L1.out u).mono ?_
  rintro e w2 ⟨rfl, rfl⟩
  have hz : R.t.size = s.size := by
    have : R.text.length = R.t.size := rfl
    rw [← this, hT]; rfl
  have HS := Lib.hid (fun w' (hw' : Ext w2 w') => (⟨(hw'.cell hbl.lt (fun f => f)).trans (hbl.cell 0), hR.ext (hxu.ext_trans hw')⟩ : w'.cell? ⟨wa.heap.size, 0, none⟩ = some (.pointer (some ⟨R.rb, 0, none⟩)) ∧ RopeAt w' R))
  have hrd := reads_new4 w2 curN v selN v pathN p filN v
  have hxr : Ext w2 (w2.alloc (.cells #[.string curN, .string v, .string selN, .string v, .string pathN, .string p, .string filN, .string v] 33)) := (Mod.refl _ w2).alloc _
  have hpl := Lib.hid (vplace_tab R ((k : Int), (k : Int)) (ahdE p v) (some ⟨w2.heap.size, 0, none⟩) 4 _ (hR.ext (hxu.ext_trans hxr)) (by unfold mayV spanI; rw [hz]; exact decide_eq_true (by simp only; omega)) (Ht.out.ext (hx.ext_trans (hxu.ext_trans hxr))) hrd (by unfold ahdE; simp) (fun p' h' => by rw [Q7.out] at h'; cases h'; omega))
  rw [hT] at hpl
  have hxw := hx.ext_trans (hxu.ext_trans hxr)
  have r0 := hbl.cell 0
  generalize placeL s.data.toList ((k : Int), (k : Int)) (ahdE p v) = P at *
  have HT := Lib.hid hT
  have Hz := Lib.hid hz
  have Hxr := Lib.hid hxr
  clear hR hT hz hx hxu hbl hrd hxr L1 Ht Q7
  go_wp2_with fail
  refine hpl.out.mono ?_
  rintro e w3 ⟨v', rfl, hov, hx3⟩
  obtain ⟨a1, c1, rfl, hra⟩ := ownsS_reads hov
  have Hra := Lib.hid hra
  have hx4 := hxw.ext_trans hx3
  have hy3 := Hxr.out.ext_trans hx3
  clear hra hov hpl r0 hxw hx3 Hxr
  go_wp2_with fail
  refine (vget_any curN a1 c1 P w3 Hra.out (by have := Q6.out; omega)).mono ?_
  rintro e w4 ⟨rfl, hx5⟩
  rw [gotV_some Q1.out]
  have Hrb := Lib.hid (Hra.out.mod hx5 (fun _ _ f => f))
  have hx6 := hx4.ext_trans hx5
  have hy4 := hy3.ext_trans hx5
  clear Hra hx4 hx5 hy3 Q1
  go_wp2_with fail
  refine (vget_any selN a1 c1 P w4 Hrb.out (by have := Q6.out; omega)).mono ?_
  rintro e w5 ⟨rfl, hx5⟩
  rw [gotV_some Q2.out]
  have Hrc := Lib.hid (Hrb.out.mod hx5 (fun _ _ f => f))
  have hx7 := hx6.ext_trans hx5
  have hy5 := hy4.ext_trans hx5
  clear Hrb hx6 hx5 hy4 Q2
  go_wp2_with fail
  refine (vget_any dirN a1 c1 P w5 Hrc.out (by have := Q6.out; omega)).mono ?_
  rintro e w6 ⟨rfl, hx5⟩
  rw [gotV_some Q3.out]
  have Hrd := Lib.hid (Hrc.out.mod hx5 (fun _ _ f => f))
  have hx8 := hx7.ext_trans hx5
  have hy6 := hy5.ext_trans hx5
  clear Hrc hx7 hx5 hy5 Q3
  go_wp2_with fail
  refine (vget_any filN a1 c1 P w6 Hrd.out (by have := Q6.out; omega)).mono ?_
  rintro e w7 ⟨rfl, hx5⟩
  rw [gotV_some Q4.out]
  have Hre := Lib.hid (Hrd.out.mod hx5 (fun _ _ f => f))
  have hx9 := hx8.ext_trans hx5
  have hy7 := hy6.ext_trans hx5
  clear Hrd hx8 hx5 hy6 Q4
  go_wp2_with fail
  refine (vget_any basN a1 c1 P w7 Hre.out (by have := Q6.out; omega)).mono ?_
  rintro e w8 ⟨rfl, hx5⟩
  rw [gotV_some Q5.out]
  have hx10 := hx9.ext_trans hx5
  have hy8 := hy7.ext_trans hx5
  clear Hre hx9 hx5 hy7 Q5
  obtain ⟨r0, hR8⟩ := HS.out w8 hy8
  have HR8 := Lib.hid hR8
  clear hR8
  go_wp2_with fail
  refine (HAt.out R w8 HR8.out HT.out Hz.out).mono ?_
  rintro e w9 ⟨rfl, hx5⟩
  have hx11 := hx10.ext_trans hx5
  have hy9 := hy8.ext_trans hx5
  clear r0 HR8 hx10 hx5 hy8 HAt
  obtain ⟨r0, hR8⟩ := HS.out w9 hy9
  have HR8 := Lib.hid hR8
  clear hR8
  go_wp2_with fail
  refine (HSt.out R w9 HR8.out HT.out).mono ?_
  rintro e w10 ⟨rfl, hx5⟩
  have hx12 := hx11.ext_trans hx5
  have hy10 := hy9.ext_trans hx5
  clear r0 HR8 hx11 hx5 hy9 HSt
  obtain ⟨r0, hR8⟩ := HS.out w10 hy10
  have HR8 := Lib.hid hR8
  clear hR8
  go_wp2_with fail
  refine (HEn.out R w10 HR8.out HT.out).mono ?_
  rintro e w11 ⟨rfl, hx5⟩
  have hx13 := hx12.ext_trans hx5
  clear r0 HR8 hx12 hx5 hy10 HEn HS HT Hz
  have j1 : ¬ (E : Int) < (N : Int) := by omega
  have j2 : ¬ (s.size : Int) < (E : Int) := by omega
  have j3 : (0 : Int) ≤ (N : Int) := by omega
  have j4 : (N : Int) ≤ (E : Int) := by omega
  have j5 : (E : Int) ≤ (s.size : Int) := by omega
  go_wp2_with fail
  clear j1 j2 j3 j4 j5
  go_loopw [30, 31] (fun sv i wr => ∃ (j : Nat) (b : Bool), j ≤ p.size ∧ i = .int .i64 j ∧ sv = .bool b ∧ Hid (b = decide (0 < lastN p.data.toList 47 j)) ∧ wr = w11) (fun _ i _ => p.size - (intOf i).toNat)
  case atStart => exact ⟨0, false, by omega, rfl, rfl, Lib.hid rfl, rfl⟩
  case round =>
    obtain ⟨j, b, hj, rfl, rfl, HJ, rfl⟩ := hrel
    by_cases hjp : j < p.size
    · have q1 : (j : Int) < (p.size : Int) := by omega
      have q2 : (0 : Int) ≤ (j : Int) := by omega
      have q3 : (j : Int) + 1 ≤ 100 := by omega
      obtain ⟨l1, l2, l3⟩ := lastN_byte p j hjp
      cases b with
      | true =>
        have H2 := Lib.hid (show true = decide (0 < lastN p.data.toList 47 (j + 1)) from (decide_eq_true (l3 (of_decide_eq_true HJ.out.symm))).symm)
        have Hjp := Lib.hid hjp
        clear HJ l1 l2 l3
        go_wp2_with fail
        go_roundw
        case rel => exact ⟨j + 1, true, Hjp.out, by go_num, rfl, H2, trivial⟩
        case measure => have := Hjp.out; simp [intOf]; omega
      | false =>
        by_cases h47 : p[j] = 47
        · have hbe : ((p[j].toNat : Int) == 47) = true := by rw [beq_iff_eq, h47]; rfl
          have hl := l1 h47
          have H2 := Lib.hid (show true = decide (0 < lastN p.data.toList 47 (j + 1)) by rw [hl]; rfl)
          have Hjp := Lib.hid hjp
          clear hl HJ h47 l1 l2 l3
          go_wp2_with fail
          go_roundw
          case rel => exact ⟨j + 1, true, Hjp.out, by go_num, rfl, H2, trivial⟩
          case measure => have := Hjp.out; simp [intOf]; omega
        · have hbe : ((p[j].toNat : Int) == 47) = false := by
            rw [beq_eq_false_iff_ne]
            intro e
            exact h47 (UInt8.toNat.inj (show p[j].toNat = 47 by omega))
          have hl := l2 h47
          have H2 := Lib.hid (show false = decide (0 < lastN p.data.toList 47 (j + 1)) by rw [hl]; exact HJ.out)
          have Hjp := Lib.hid hjp
          clear hl HJ h47 l1 l2 l3
          go_wp2_with fail
          go_roundw
          case rel => exact ⟨j + 1, false, Hjp.out, by go_num, rfl, H2, trivial⟩
          case measure => have := Hjp.out; simp [intOf]; omega
    · have q1 : ¬ (j : Int) < (p.size : Int) := by omega
      have hjs : j = p.size := by omega
      have hJ := HJ.out
      rw [hjs] at hJ
      cases b with
      | true =>
        have hW := HW1.out (of_decide_eq_true hJ.symm)
        have z1 : D.size + (ByteArray.mk #[47]).size ≤ 9223372036854775807 := by show D.size + 1 ≤ _; omega
        have z2 : (D ++ ByteArray.mk #[47]).size + Fi.size ≤ 9223372036854775807 := by rw [ByteArray.size_append]; show D.size + 1 + _ ≤ _; omega
        have z3 : D.size + 1 ≤ 9223372036854775807 := by omega
        have z4 : D.size + 1 + Fi.size ≤ 9223372036854775807 := by omega
        have HW := Lib.hid hW
        clear hW hJ HJ hjs
        go_wp2_with fail
        rw [HW.out]
        clear z1 z2 z3 z4
        go_loopw [33] (fun i wx => ∃ q : Nat, q ≤ Fi.size ∧ i = .int .i64 q ∧ wx = wr) (fun i _ => Fi.size - (intOf i).toNat)
        case atStart => exact ⟨0, by omega, rfl, rfl⟩
        case round =>
          obtain ⟨q, hq, rfl, rfl⟩ := hrel
          by_cases hqF : q < Fi.size
          · have q1 : (q : Int) < (Fi.size : Int) := by omega
            have q2 : (0 : Int) ≤ (q : Int) := by omega
            have q3 : (q : Int) + 1 ≤ 100 := by omega
            have hne : ((Fi[q].toNat : Int) == 47) = false := by
              have h1 := Hn.out Fi rfl q hqF
              rw [beq_eq_false_iff_ne]
              intro e
              exact h1 (UInt8.toNat.inj (show Fi[q].toNat = 47 by omega))
            have HqF := Lib.hid hqF
            go_wp2_with fail
            go_roundw
            case rel => exact ⟨q + 1, HqF.out, by go_num, trivial⟩
            case measure => have := HqF.out; simp [intOf]; omega
          · have q1 : ¬ (q : Int) < (Fi.size : Int) := by omega
            have e5 := Hb.out.2.1
            have e6 : (Ba.size : Int) ≤ (Fi.size : Int) := by have := Hb.out.1; omega
            have e7 : (0 : Int) ≤ (Ba.size : Int) := by omega
            by_cases hBa : Ba = ⟨#[]⟩
            · have b1 := empty_yes hBa
              have b2 := empty_yes (show Fi = ⟨#[]⟩ by rcases Hb.out.2.2 with h | h; exact absurd hBa h; exact h)
              clear hBa
              go_wp2_with fail
              refine (awake23_any _).mono ?_
              rintro e w20 ⟨rfl, hx20⟩
              go_wp2_with fail
              go_ret
              exact ⟨rfl, hx13.ext_trans hx20⟩
            · have b1 := empty_no hBa
              clear hBa
              go_wp2_with fail
              refine (awake23_any _).mono ?_
              rintro e w20 ⟨rfl, hx20⟩
              go_wp2_with fail
              go_ret
              exact ⟨rfl, hx13.ext_trans hx20⟩
      | false =>
        obtain ⟨rfl, rfl⟩ := HW2.out (by have := of_decide_eq_false hJ.symm; omega)
        clear hJ HJ hjs
        go_wp2_with fail
        go_loopw [33] (fun i wx => ∃ q : Nat, q ≤ Fi.size ∧ i = .int .i64 q ∧ wx = wr) (fun i _ => Fi.size - (intOf i).toNat)
        case atStart => exact ⟨0, by omega, rfl, rfl⟩
        case round =>
          obtain ⟨q, hq, rfl, rfl⟩ := hrel
          by_cases hqF : q < Fi.size
          · have q1 : (q : Int) < (Fi.size : Int) := by omega
            have q2 : (0 : Int) ≤ (q : Int) := by omega
            have q3 : (q : Int) + 1 ≤ 100 := by omega
            have hne : ((Fi[q].toNat : Int) == 47) = false := by
              have h1 := Hn.out Fi rfl q hqF
              rw [beq_eq_false_iff_ne]
              intro e
              exact h1 (UInt8.toNat.inj (show Fi[q].toNat = 47 by omega))
            have HqF := Lib.hid hqF
            go_wp2_with fail
            go_roundw
            case rel => exact ⟨q + 1, HqF.out, by go_num, trivial⟩
            case measure => have := HqF.out; simp [intOf]; omega
          · have q1 : ¬ (q : Int) < (Fi.size : Int) := by omega
            have e5 := Hb.out.2.1
            have e6 : (Ba.size : Int) ≤ (Fi.size : Int) := by have := Hb.out.1; omega
            have e7 : (0 : Int) ≤ (Ba.size : Int) := by omega
            by_cases hBa : Ba = ⟨#[]⟩
            · have b1 := empty_yes hBa
              have b2 := empty_yes (show Fi = ⟨#[]⟩ by rcases Hb.out.2.2 with h | h; exact absurd hBa h; exact h)
              clear hBa
              go_wp2_with fail
              refine (awake23_any _).mono ?_
              rintro e w20 ⟨rfl, hx20⟩
              go_wp2_with fail
              go_ret
              exact ⟨rfl, hx13.ext_trans hx20⟩
            · have b1 := empty_no hBa
              clear hBa
              go_wp2_with fail
              refine (awake23_any _).mono ?_
              rintro e w20 ⟨rfl, hx20⟩
              go_wp2_with fail
              go_ret
              exact ⟨rfl, hx13.ext_trans hx20⟩
set_option maxHeartbeats 800000 in
set_option maxRecDepth 1000000 in
theorem varsAhead_calls (w : World) (s : ByteArray) (ws : s.size ≤ 9223372036854775807) (a : Int) (_ : (Lit.int .i64 a).wf = true) (p : ByteArray) (wp : p.size ≤ 9223372036854775807) (v : ByteArray) (wv : v.size ≤ 9223372036854775807) (ht : Tab w) :
    Calls Tryd.prog 4 #[.string s, .int .i64 a, .string p, .string v] w fun e w' => e = .returned (.bool true) ∧ Ext w w' := by
  by_cases h1 : (100 : Int) < (s.size : Int)
  · clear ht
    go_enter Tryd.func4, Tryd.ntmps4
    go_wp2_with fail
    refine (awake23_any _).mono ?_
    rintro e w1 ⟨rfl, hx⟩
    go_wp2_with fail
    go_ret
    exact ⟨rfl, hx⟩
  · by_cases h2 : (60 : Int) < (p.size : Int)
    · clear ht
      go_enter Tryd.func4, Tryd.ntmps4
      go_wp2_with fail
      refine (awake23_any _).mono ?_
      rintro e w1 ⟨rfl, hx⟩
      go_wp2_with fail
      go_ret
      exact ⟨rfl, hx⟩
    · by_cases h3 : (30 : Int) < (v.size : Int)
      · clear ht
        go_enter Tryd.func4, Tryd.ntmps4
        go_wp2_with fail
        refine (awake23_any _).mono ?_
        rintro e w1 ⟨rfl, hx⟩
        go_wp2_with fail
        go_ret
        exact ⟨rfl, hx⟩
      · exact varsAhead_any w s a p v (by omega) (by omega) (by omega) ht
end Go.Proofs.YtmecdhbiinpepaaDoor

/- The document's Place. Conditions: texts of at most 65536 bytes; at most 1000 variables ahead, a path of at most 65536 bytes. -/
import Derived.Test.YtmecdhbiinpepaaDoorGimPackY
import Derived.Test.YtmecdhbiinpepaaDoorGimWordP
import Derived.Test.YtmecdhbiinpepaaDoorGimRefWordV
import Derived.Test.YtmecdhbiinpepaaDoorGimDigits
import Derived.Test.YtmecdhbiinpepaaDoorGimRef5
import Derived.BigQuiet
import Derived.Deep.CutBlock
namespace Go.Proofs.YtmecdhbiinpepaaDoor
open Go.RowKit Go.Gim
set_option maxHeartbeats 800000 in
set_option maxRecDepth 1000000 in
theorem refSpanV_any (x : Int × Int) (w : World) : Calls Tryd.prog 39 #[.agg #[.int .i64 x.1, .int .i64 x.2]] w fun e w' => e = .returned (.agg #[.int .i64 (spanI x).1, .int .i64 (spanI x).2]) ∧ Ext w w' := by
  obtain ⟨p, q⟩ := x
  simp only [spanI]
  by_cases h : p < q
  · rw [show min p q = p by omega, show max p q = q by omega]
    have h1 : ¬ q < p := by omega
    have h4 : ¬ q ≤ p := by omega
    have h5 : p ≤ q := by omega
    go_enter Tryd.func39, Tryd.ntmps39
    go_wp2_with fail
    go_returns
    exact ⟨rfl, ((Mod.refl _ w).alloc _).alloc _⟩
  · by_cases h0 : p = q
    · subst h0
      rw [show min p p = p by omega, show max p p = p by omega]
      have h1 : p ≤ p := Int.le_refl _
      have h2 : ¬ p < p := by omega
      go_enter Tryd.func39, Tryd.ntmps39
      go_wp2_with fail
      go_returns
      exact ⟨rfl, ((Mod.refl _ w).alloc _).alloc _⟩
    · have h1 : q < p := by omega
      have h2 : ¬ p ≤ q := by omega
      have h3 : q ≤ p := by omega
      rw [show min p q = q by omega, show max p q = p by omega]
      clear h h0
      go_enter Tryd.func39, Tryd.ntmps39
      go_wp2_with fail
      go_returns
      exact ⟨rfl, ((Mod.refl _ w).alloc _).alloc _⟩


theorem reads_new3 (w : World) (a b c d e f : ByteArray) : Reads (w.alloc (.cells #[.string a, .string b, .string c, .string d, .string e, .string f] 33)) 2 (some ⟨w.heap.size, 0, none⟩) 3 (spCells [(a, b), (c, d), (e, f)]) := by
  have := Reads.new w 33 #[.string a, .string b, .string c, .string d, .string e, .string f] 2 3 rfl
  exact (show Reads _ _ _ _ [.string a, .string b, .string c, .string d, .string e, .string f] by simpa using this)
/-- The parts of a path, as the document finds them. -/
theorem refFile_parts (p : ByteArray) (hs : p.size ≤ 65536) : ∃ (c d : Int) (f b q : ByteArray), fileL p = [(⟨#[84, 77, 95, 70, 73, 76, 69, 78, 65, 77, 69]⟩, f), (⟨#[84, 77, 95, 70, 73, 76, 69, 78, 65, 77, 69, 95, 66, 65, 83, 69]⟩, b), (⟨#[84, 77, 95, 68, 73, 82, 69, 67, 84, 79, 82, 89]⟩, q)] ∧ -1 ≤ c ∧ c < p.size ∧ d < f.size ∧ f.size ≤ 65536 ∧
    (∀ w, Calls Tryd.prog 43 #[.string p, .int .u8 47] w fun e w' => e = .returned (.int .i64 c) ∧ w' = w) ∧ (∀ w, Calls Tryd.prog 43 #[.string f, .int .u8 46] w fun e w' => e = .returned (.int .i64 d) ∧ w' = w) ∧
    p.extract (c + 1).toNat p.size = f ∧ (if 0 < d then f.extract 0 d.toNat else f) = b ∧ p.extract 0 (if 0 ≤ c then c.toNat else 0) = q := by
  have hk := lastN_le p.data.toList 47 p.size
  have hfs : (fileOf p).size ≤ 65536 := by unfold fileOf; rw [ByteArray.size_extract]; omega
  have hm := lastN_le (fileOf p).data.toList 46 (fileOf p).size
  refine ⟨_, _, fileOf p, baseOf (fileOf p), dirOf p, rfl, ?_, ?_, ?_, hfs, fun w => refLast_any p 47 w hs, fun w => refLast_any (fileOf p) 46 w hfs, ?_, ?_, ?_⟩
  · omega
  · omega
  · omega
  · unfold fileOf
    rw [show ((lastN p.data.toList 47 p.size : Int) - 1 + 1).toNat = lastN p.data.toList 47 p.size by omega]
  · unfold baseOf
    generalize lastN (fileOf p).data.toList 46 (fileOf p).size = M
    by_cases h : 1 < M
    · rw [if_pos h, if_pos (by omega), show ((M : Int) - 1).toNat = M - 1 by omega]
    · rw [if_neg h, if_neg (by omega)]
  · unfold dirOf
    generalize lastN p.data.toList 47 p.size = K
    congr 1
    split <;> omega

theorem ext_none (p : ByteArray) : p.extract 0 0 = ByteArray.empty := by simp

set_option maxHeartbeats 3200000 in
set_option maxRecDepth 1000000 in
theorem docPlace_yes (s : ByteArray) (x : Int × Int) (env : List Pv) (eo : Option Addr) (cap : Nat) (w : World) (hs : s.size ≤ 65536) (hn : mayV (spanI x) s.size = true)
    (hr : Reads w 2 eo env.length (spCells env)) (hel : env.length ≤ 1000) (hpl : ∀ p, getV pathN env = some p → p.size ≤ 65536) :
    Calls Tryd.prog 14 #[.string s, .agg #[.int .i64 x.1, .int .i64 x.2], .slice eo env.length cap] w fun e w' => ∃ v, e = .returned (.tuple #[v, .int .i64 0]) ∧ w'.ownsRow w.heap.size 33 2 v (placeL s.data.toList x env).length (spCells (placeL s.data.toList x env)) ∧ Ext w w' := by
  have hm := hn
  unfold mayV spanI at hm
  have hm := of_decide_eq_true hm
  simp only at hm
  obtain ⟨lo, hlo⟩ : ∃ lo : Nat, (spanI x).1 = lo := ⟨(spanI x).1.toNat, by unfold spanI; simp only; omega⟩
  obtain ⟨hi, hhi⟩ : ∃ hi : Nat, (spanI x).2 = hi := ⟨(spanI x).2.toNat, by unfold spanI; simp only; omega⟩
  have hlh : lo ≤ hi := by unfold spanI at hlo hhi; simp only at hlo hhi; omega
  have hhs : hi ≤ s.size := by unfold spanI at hhi; simp only at hhi; omega
  obtain ⟨k, hk⟩ : ∃ k : Nat, x.2 = k := ⟨x.2.toNat, by omega⟩
  have hks : k ≤ s.size := by omega
  obtain ⟨l, hl⟩ : ∃ l, l = s.data.toList := ⟨_, rfl⟩
  have hlen : l.length = s.size := by rw [hl]; rfl
  have hL : lineAt l k ≤ brk l := lineAt_le _ _
  have hb := brk_le l
  have hf : lineN l (lineAt l k) ≤ k := lineN_le l k
  have he : k ≤ lineE l (lineAt l k) := lineE_geV _ _ (by omega)
  have he2 := lineE_le l (lineAt l k)
  have hhas : hasB l (lineAt l k : Nat) = true := has_of ⟨by omega, by omega⟩
  have hlt : ltAt l k = s.extract (lineN l (lineAt l k)) (lineE l (lineAt l k)) := by unfold ltAt; rw [hl]; exact bs_cut _ _ _
  have hwd := wdAt_text s k hks
  rw [← hl] at hwd
  have hsel : bs (cut l (spanI x).1 (spanI x).2) = s.extract lo hi := by rw [hlo, hhi, hl]; exact bs_cut _ _ _
  obtain ⟨w1, w2, w3, _, _, _⟩ := word_is l k (by omega)
  have hL0 : placeL l x env = (((((([] : List Pv) ++ selP (s.extract lo hi)) ++ [(curN, s.extract (lineN l (lineAt l k)) (lineE l (lineAt l k)))]) ++ wordP (s.extract (fromW l k) (toW l k))) ++ [(idxN, digS (lineAt l k)), (numN, digS (lineAt l k + 1))]) ++ pathP (getV pathN env)) ++ env := by
    unfold placeL
    rw [hsel, hk, Int.toNat_natCast, hlt, hwd]
  have HAt := Lib.hid (fun w' => (show Calls Tryd.prog 40 #[.string s, .int .i64 k] w' fun e w2 => e = .returned (.tuple #[.int .i64 (lineAt l k : Nat), .int .i64 0]) ∧ Ext w' w2 by
    have := refAt_yes s k w' hs (rises_of ⟨by omega, by omega, by omega⟩)
    rw [Int.toNat_natCast, ← hl] at this
    exact this))
  have HSt := Lib.hid (fun w' => (show Calls Tryd.prog 41 #[.string s, .int .i64 (lineAt l k : Nat)] w' fun e w2 => e = .returned (.tuple #[.int .i64 (lineN l (lineAt l k) : Nat), .int .i64 0]) ∧ Ext w' w2 by
    have := refStart_yes s (lineAt l k) w' (by omega) (by rw [← hl]; exact hhas)
    rw [← hl] at this
    exact this))
  have HEn := Lib.hid (fun w' => (show Calls Tryd.prog 42 #[.string s, .int .i64 (lineAt l k : Nat)] w' fun e w2 => e = .returned (.tuple #[.int .i64 (lineE l (lineAt l k) : Nat), .int .i64 0]) ∧ Ext w' w2 by
    have := refEnd_yes s (lineAt l k) w' (by omega) (by rw [← hl]; exact hhas)
    rw [← hl] at this
    exact this))
  have HD0 := Lib.hid (fun w' => digits_any (lineAt l k) w' (by omega))
  have HD1 := Lib.hid (fun w' => digits_any (lineAt l k + 1) w' (by omega))
  have hE : lineE l (lineAt l k) ≤ s.size := by omega
  have hNE : lineN l (lineAt l k) ≤ lineE l (lineAt l k) := by omega
  have hln : lineAt l k ≤ 65536 := by omega
  rw [hlen] at w3
  obtain ⟨F, hF⟩ : ∃ F, fromW l k = F := ⟨_, rfl⟩
  obtain ⟨T, hT⟩ : ∃ T, toW l k = T := ⟨_, rfl⟩
  rw [hF, hT] at hL0
  rw [hF] at w1
  rw [hT] at w2 w3
  rw [← hl]
  generalize placeL l x env = L at *
  generalize lineE l (lineAt l k) = E at *
  generalize lineN l (lineAt l k) = N at *
  generalize lineAt l k = ln at *
  have HL0 := Lib.hid hL0.symm
  have HF := Lib.hid hF
  have HT := Lib.hid hT
  have Hl := Lib.hid hl
  have Hr := Lib.hid hr
  have Hpl := Lib.hid hpl
  have Hsp := Lib.hid (show (spanI x).1 = (lo : Int) ∧ (spanI x).2 = (hi : Int) from ⟨hlo, hhi⟩)
  have Hk := Lib.hid hk
  have HGet := Lib.hid (fun w' h' => refGet_any pathN eo cap env w' h' (by omega))
  obtain ⟨M, hM⟩ : ∃ M, M = env.length := ⟨_, rfl⟩
  have HM := Lib.hid hM
  rw [← hM] at hel HGet ⊢
  clear hm hlo hhi hk hL hb hf he he2 hhas hlt hwd hsel hL0 hF hT hr hpl hM hn hl hlen
  obtain ⟨wa, hwa⟩ : ∃ wa, wa = w.alloc (.cells #[.int .i64 x.1, .int .i64 x.2] 23) := ⟨_, rfl⟩
  have hxa : Ext w wa := by rw [hwa]; exact (Mod.refl _ w).alloc _
  have hb4 : Blk wa w.heap.size 23 #[.int .i64 x.1, .int .i64 x.2] := by rw [hwa]; exact Blk.new _ _ _
  go_enter Tryd.func14, Tryd.ntmps14
  go_wp2_with fail
  rw [← hwa]
  clear hwa
  refine (refSpanV_any x wa).mono ?_
  rintro e wb ⟨rfl, hx1⟩
  rw [Hsp.out.1, Hsp.out.2]
  go_upto_region 2 with fail
  obtain ⟨u, hu⟩ : ∃ u, u = wb.alloc (.cells #[.int .i64 lo, .int .i64 hi] 65) := ⟨_, rfl⟩
  have hxu : Ext wb u := by rw [hu]; exact (Mod.refl _ wb).alloc _
  have hbs : Blk u wb.heap.size 65 #[.int .i64 lo, .int .i64 hi] := by rw [hu]; exact Blk.new _ _ _
  rw [← hu]
  clear hu
  have hbx := hb4.mod (hx1.ext_trans hxu) (fun f => f)
  have HS := Lib.hid (fun w' (hw' : Ext u w') => (⟨(hw'.cell hbx.lt (fun f => f)).trans (hbx.cell 1), (hw'.cell hbs.lt (fun f => f)).trans (hbs.cell 0), (hw'.cell hbs.lt (fun f => f)).trans (hbs.cell 1), trivial⟩ :
    w'.cell? ⟨w.heap.size, 1, none⟩ = some (.int .i64 x.2) ∧ w'.cell? ⟨wb.heap.size, 0, none⟩ = some (.int .i64 lo) ∧ w'.cell? ⟨wb.heap.size, 1, none⟩ = some (.int .i64 hi) ∧ True))
  rw [Hk.out] at HS
  have hxw := hxa.ext_trans (hx1.ext_trans hxu)
  clear hb4 hbs hbx hxa hx1 hxu
  obtain ⟨r0, r1, r2, _⟩ := HS.out u (Mod.refl _ u)
  have g1 : ¬ (lo : Int) < 0 := by omega
  have g2 : ¬ (s.size : Int) < (hi : Int) := by omega
  go_upto_if 40 with fail
  go_cut [9] (fun v9 wx => ∃ (v : Value) (wn : World), v = v9 ∧ wn = wx ∧ Hid (PRow u (([] : List Pv) ++ selP (s.extract lo hi)) v wn))
  case first =>
    by_cases ht : lo < hi
    · have ht1 : (lo : Int) < (hi : Int) := by omega
      have ht2 : (lo : Int) ≤ (hi : Int) := by omega
      have ht3 : (hi : Int) ≤ (s.size : Int) := by omega
      have ht4 : (0 : Int) ≤ (lo : Int) := by omega
      have HP := Lib.hid (show selP (s.extract lo hi) = [(selN, s.extract lo hi)] from if_neg (fun e => by
        have hz : (s.extract lo hi).size = hi - lo := by rw [ByteArray.size_extract]; omega
        rw [e] at hz
        have : (ByteArray.mk #[]).size = 0 := rfl
        omega))
      clear g1 g2
      go_wp2_with (at_builtin; refine wpList_row rfl _ _ rfl u [] [(selN, s.extract lo hi)] _ rfl ((PRow.nil u).ext ((Mod.refl _ u).alloc _)) _ _ 1 rfl rfl (reads_new1 _ _ _) (by simp) ?_)
      intro v' w4 hrow
      have Hrow := Lib.hid hrow
      clear hrow
      go_wp2_with fail
      go_meet
      case rel => exact ⟨_, _, rfl, rfl, Lib.hid (by rw [HP.out]; exact Hrow.out)⟩
    · have ht1 : ¬ (lo : Int) < (hi : Int) := by omega
      have HP := Lib.hid (show selP (s.extract lo hi) = [] from if_pos (by
        apply ByteArray.size_eq_zero_iff.1
        rw [ByteArray.size_extract]; omega))
      clear g1 g2
      go_wp2_with fail
      go_meet
      case rel => exact ⟨_, _, rfl, rfl, Lib.hid (by rw [HP.out]; exact PRow.nil u)⟩
  case rest =>
    obtain ⟨v9, wn, rfl, rfl, H9⟩ := hcut
    clear r0 r1 r2 g1 g2
    have m1 : (([] : List Pv) ++ selP (s.extract lo hi)).length ≤ 1 := by simpa using selP_len (s.extract lo hi)
    generalize hL1 : ([] : List Pv) ++ selP (s.extract lo hi) = L1 at *
    have M1 := Lib.hid m1
    clear m1 hL1
    obtain ⟨r0, _, _, _⟩ := HS.out wn H9.out.2
    go_wp2_with fail
    refine (HAt.out wn).mono ?_
    rintro e w10 ⟨rfl, hx10⟩
    have H10 := Lib.hid (H9.out.ext hx10)
    clear r0 H9 hx10
    go_wp2_with fail
    refine (HSt.out w10).mono ?_
    rintro e w11 ⟨rfl, hx11⟩
    have H11 := Lib.hid (H10.out.ext hx11)
    clear H10 hx11
    go_wp2_with fail
    refine (HEn.out w11).mono ?_
    rintro e w12 ⟨rfl, hx12⟩
    have H12 := Lib.hid (H11.out.ext hx12)
    clear H11 hx12
    have z1 : (N : Int) ≤ (E : Int) := by omega
    have z2 : (E : Int) ≤ (s.size : Int) := by omega
    have z3 : (0 : Int) ≤ (N : Int) := by omega
    go_wp2_with (at_builtin; refine wpList_row rfl _ _ rfl u L1 [(curN, s.extract N E)] _ rfl (H12.out.ext ((Mod.refl _ w12).alloc _)) _ _ 1 rfl rfl (reads_new1 _ _ _) ?hl1 ?_)
    case hl1 => have := M1.out; simp; omega
    intro v14 w14 h14
    have m2 : (L1 ++ [(curN, s.extract N E)]).length ≤ 2 := by have := M1.out; simp; omega
    generalize hL2 : L1 ++ [(curN, s.extract N E)] = L2 at *
    have M2 := Lib.hid m2
    have Hrow := Lib.hid h14
    obtain ⟨r0, _, _, _⟩ := HS.out w14 h14.2
    clear m2 H12 h14 z1 z2 z3
    go_upto_region 11 with fail
    go_quiet (fail)
    have hdr : Ext w14 (w14.drewN nq) := (Mod.refl _ w14).drewN nq
    have HrowQ := Lib.hid (Hrow.out.ext hdr)
    clear hdr Hrow r0
    generalize w14.drewN nq = wq at *
    go_upto_block 0 with fail
    go_cut [16] (fun v16 wx => ∃ (wn : World), v16 = .int .i64 F ∧ wn = wx ∧ Hid (wn = wq))
    case first =>
      go_wp2_with fail
      go_loopw [16] (fun i wx => ∃ j : Nat, j ≤ k ∧ i = .int .i64 j ∧ Hid (fromW l j = F) ∧ wx = wq) (fun i _ => (intOf i).toNat)
      case atStart => exact ⟨k, Nat.le_refl _, rfl, HF, rfl⟩
      case round =>
        obtain ⟨j, hj, rfl, HK, rfl⟩ := hrel
        by_cases hj0 : 0 < j
        · obtain ⟨n, rfl⟩ : ∃ n, j = n + 1 := ⟨j - 1, by omega⟩
          have hk1 : (n : Int) < (s.size : Int) := by omega
          have hk2 : (0 : Int) ≤ (n : Int) := by omega
          have hk3 : (0 : Int) < (n : Int) + 1 := by omega
          have hkt : n < s.size := by omega
          have hd := fromW_pos l n (by rw [Hl.out, toList_length]; exact hkt)
          have hgb : l[n]'(by rw [Hl.out, toList_length]; exact hkt) = s[n] := by
            simp only [Hl.out]; exact toList_get s n hkt
          rw [hgb] at hd
          cases hin : wB s[n] with
          | true =>
            rw [hin, if_pos rfl] at hd
            have Hd := Lib.hid (hd.symm.trans HK.out)
            have Hin := Lib.hid hin
            clear hd hin hgb
            go_wp2_with fail
            refine (refWordV_any s[n] _).mono ?_
            rintro e w' ⟨rfl, rfl⟩
            rw [Hin.out]
            go_wp2_with fail
            go_roundw
            case rel => exact ⟨n, by omega, by go_num, Hd, trivial⟩
            case measure => simp [intOf] <;> omega
          | false =>
            rw [hin, if_neg (by decide)] at hd
            have Hd := Lib.hid (hd.symm.trans HK.out)
            have Hin := Lib.hid hin
            clear hd hin hgb
            go_wp2_with fail
            refine (refWordV_any s[n] _).mono ?_
            rintro e w' ⟨rfl, rfl⟩
            rw [Hin.out]
            go_wp2_with fail
            go_meet
            case rel => exact ⟨_, by rw [← Hd.out]; go_num, rfl, Lib.hid rfl⟩
        · obtain rfl : j = 0 := by omega
          have Hd := Lib.hid (show (0 : Nat) = F from HK.out)
          go_wp2_with fail
          go_meet
          case rel => exact ⟨_, by rw [← Hd.out], rfl, Lib.hid rfl⟩
    case rest =>
      obtain ⟨wn, rfl, rfl, Hw⟩ := hcut
      obtain rfl := Hw.out
      go_upto_block 2 with fail
      go_cut [17] (fun v17 wx => ∃ (wz : World), v17 = .int .i64 T ∧ wz = wx ∧ Hid (wz = wn))
      case first =>
        go_wp2_with fail
        go_loopw [17] (fun i wx => ∃ j : Nat, j ≤ s.size ∧ i = .int .i64 j ∧ Hid (toW l j = T) ∧ wx = wn) (fun i _ => s.size - (intOf i).toNat)
        case atStart => exact ⟨k, hks, rfl, HT, rfl⟩
        case round =>
          obtain ⟨j, hj, rfl, HK, rfl⟩ := hrel
          by_cases hjs : j < s.size
          · have hk1 : (j : Int) < (s.size : Int) := by omega
            have hk2 : (0 : Int) ≤ (j : Int) := by omega
            have hk3 : (j : Int) + 1 ≤ 65536 := by omega
            have hd := toW_at l j (by rw [Hl.out, toList_length]; exact hjs)
            have hgb : l[j]'(by rw [Hl.out, toList_length]; exact hjs) = s[j] := by
              simp only [Hl.out]; exact toList_get s j hjs
            rw [hgb] at hd
            cases hin : wB s[j] with
            | true =>
              rw [hin, if_pos rfl] at hd
              have Hd := Lib.hid (hd.symm.trans HK.out)
              have Hin := Lib.hid hin
              clear hd hin hgb
              go_wp2_with fail
              refine (refWordV_any s[j] _).mono ?_
              rintro e w' ⟨rfl, rfl⟩
              rw [Hin.out]
              go_wp2_with fail
              go_roundw
              case rel => exact ⟨j + 1, by omega, by go_num, Hd, trivial⟩
              case measure => simp [intOf] <;> omega
            | false =>
              rw [hin, if_neg (by decide)] at hd
              have Hd := Lib.hid (hd.symm.trans HK.out)
              have Hin := Lib.hid hin
              clear hd hin hgb
              go_wp2_with fail
              refine (refWordV_any s[j] _).mono ?_
              rintro e w' ⟨rfl, rfl⟩
              rw [Hin.out]
              go_wp2_with fail
              go_meet
              case rel => exact ⟨_, by rw [← Hd.out], rfl, Lib.hid rfl⟩
          · have hk1 : ¬ (j : Int) < (s.size : Int) := by omega
            have Hd := Lib.hid (show j = T by rw [← HK.out, toW_over l j (by rw [Hl.out, toList_length]; omega)])
            go_wp2_with fail
            go_meet
            case rel => exact ⟨_, by rw [← Hd.out], rfl, Lib.hid rfl⟩
      case rest =>
        obtain ⟨wz, rfl, rfl, Hw2⟩ := hcut
        obtain rfl := Hw2.out
        have hFT : F ≤ T := by omega
        have hTs : T ≤ s.size := by omega
        go_upto_if 107 with fail
        go_cut [9] (fun v9 wx => ∃ (v : Value) (wn : World), v = v9 ∧ wn = wx ∧ Hid (PRow u (L2 ++ wordP (s.extract F T)) v wn))
        case first =>
          by_cases ht : F < T
          · have ht1 : (F : Int) < (T : Int) := by omega
            have ht2 : (F : Int) ≤ (T : Int) := by omega
            have ht3 : (T : Int) ≤ (s.size : Int) := by omega
            have ht4 : (0 : Int) ≤ (F : Int) := by omega
            have HP := Lib.hid (show wordP (s.extract F T) = [(wrdN, s.extract F T)] from if_neg (fun e => by
              have hz : (s.extract F T).size = T - F := by rw [ByteArray.size_extract]; omega
              rw [e] at hz
              have : (ByteArray.mk #[]).size = 0 := rfl
              omega))
            go_wp2_with (at_builtin; refine wpList_row rfl _ _ rfl u L2 [(wrdN, s.extract F T)] _ rfl (HrowQ.out.ext ((Mod.refl _ _).alloc _)) _ _ 1 rfl rfl (reads_new1 _ _ _) ?hl2 ?_)
            case hl2 => have := M2.out; simp; omega
            intro v' w4 hrow
            have Hrow4 := Lib.hid hrow
            clear hrow
            go_wp2_with fail
            go_meet
            case rel => exact ⟨_, _, rfl, rfl, Lib.hid (by rw [HP.out]; exact Hrow4.out)⟩
          · have ht1 : ¬ (F : Int) < (T : Int) := by omega
            have HP := Lib.hid (show wordP (s.extract F T) = [] from if_pos (by
              apply ByteArray.size_eq_zero_iff.1
              rw [ByteArray.size_extract]; omega))
            go_wp2_with fail
            go_meet
            case rel => exact ⟨_, _, rfl, rfl, Lib.hid (by rw [HP.out, List.append_nil]; exact HrowQ.out)⟩
        case rest =>
          obtain ⟨v9, wn, rfl, rfl, H9⟩ := hcut
          have m3 : (L2 ++ wordP (s.extract F T)).length ≤ 3 := by have := M2.out; have := wordP_len (s.extract F T); rw [List.length_append]; omega
          generalize hL3 : L2 ++ wordP (s.extract F T) = L3 at *
          have M3 := Lib.hid m3
          clear m3
          go_wp2_with fail
          refine (HD0.out wn).mono ?_
          rintro e w16 ⟨rfl, hx16⟩
          have H16 := Lib.hid (H9.out.ext hx16)
          clear H9 hx16
          go_wp2_with fail
          refine (HD1.out w16).mono ?_
          rintro e w17 ⟨rfl, hx17⟩
          have H17 := Lib.hid (H16.out.ext hx17)
          clear H16 hx17
          go_wp2_with (at_builtin; refine wpList_row rfl _ _ rfl u L3 [(idxN, digS ln), (numN, digS (ln + 1))] _ rfl (H17.out.ext ((Mod.refl _ w17).alloc _)) _ _ 2 rfl rfl (reads_new2 _ _ _ _ _) ?hl3 ?_)
          case hl3 => have := M3.out; simp; omega
          intro v18 w18 h18
          have H18 := Lib.hid h18
          have m4 : (L3 ++ [(idxN, digS ln), (numN, digS (ln + 1))]).length ≤ 5 := by have := M3.out; simp; omega
          clear h18 H17
          generalize hL4 : L3 ++ [(idxN, digS ln), (numN, digS (ln + 1))] = L4 at *
          have M4 := Lib.hid m4
          clear m4
          have hr18 := Hr.out.mod (hxw.ext_trans H18.out.2) (fun _ _ f => f)
          rw [← HM.out] at hr18
          have Hr18 := Lib.hid hr18
          clear hr18
          go_wp2_with fail
          refine (HGet.out w18 Hr18.out).mono ?_
          rintro e w19 ⟨rfl, rfl⟩
          unfold GotV
          generalize getV pathN env = G at *
          go_upto_if 131 with fail
          go_cut [9] (fun v9 wx => ∃ (v : Value) (wn : World), v = v9 ∧ wn = wx ∧ Hid (PRow u (L4 ++ pathP G) v wn))
          case first =>
            cases G with
            | none =>
              go_wp2_with fail
              go_meet
              case rel => exact ⟨_, _, rfl, rfl, Lib.hid (by rw [show pathP none = [] from rfl, List.append_nil]; exact H18.out)⟩
            | some pth =>
              obtain ⟨c, d, f, b, q, hfl, hc1, hc2, hd1, hf1, hl1, hl2, hf, hb, hq⟩ := refFile_parts pth (Hpl.out pth rfl)
              have HL1 := Lib.hid hl1
              have HL2 := Lib.hid hl2
              have Hf := Lib.hid hf
              have Hb := Lib.hid hb
              have Hq := Lib.hid hq
              have Hfl := Lib.hid (show pathP (some pth) = _ from hfl)
              clear hl1 hl2 hf hb hq hfl
              have hpz := Hpl.out pth rfl
              have c1 : (0 : Int) ≤ c + 1 := by omega
              have c2 : c + 1 ≤ (pth.size : Int) := by omega
              have c3 : c + 1 ≤ 65536 := by omega
              go_wp2_with fail
              refine (HL1.out _).mono ?_
              rintro e w20 ⟨rfl, rfl⟩
              go_wp2_with fail
              rw [Hf.out]
              refine (HL2.out _).mono ?_
              rintro e w21 ⟨rfl, rfl⟩
              clear c1 c2 c3
              by_cases hd : 0 < d
              · have hb := Hb.out
                rw [if_pos hd] at hb
                have Hb' := Lib.hid hb
                clear hb Hb
                have d1 : (0 : Int) ≤ d := by omega
                have d2 : d ≤ (f.size : Int) := by omega
                by_cases hc : 0 ≤ c
                · have hq' := Hq.out
                  rw [if_pos hc] at hq'
                  have Hq' := Lib.hid hq'
                  clear hq' Hq
                  have e3 : c ≤ (pth.size : Int) := by omega
                  have e4 : (0 : Int) ≤ (pth.size : Int) := by omega
                  go_wp2_with (at_builtin; refine wpList_row rfl _ _ rfl u L4 [(_, _), (_, _), (_, _)] _ rfl (H18.out.ext ((Mod.refl _ _).alloc _)) _ _ 3 rfl rfl (reads_new3 _ _ _ _ _ _ _) ?hl4 ?_)
                  case hl4 => have := M4.out; simp only [List.length_cons, List.length_nil]; omega
                  intro v' w4 hrow
                  have Hrow2 := Lib.hid hrow
                  clear hrow
                  go_wp2_with fail
                  go_meet
                  case rel => exact ⟨_, _, rfl, rfl, Lib.hid (by (first | rw [Hfl.out, ← Hb'.out, ← Hq'.out] | rw [Hfl.out, ← Hq'.out]); (try rw [ext_none pth]); exact Hrow2.out)⟩
                · have e1 : c < 0 := by omega
                  have e2 : c ≤ 0 := by omega
                  have hq' := Hq.out
                  rw [if_neg hc] at hq'
                  have Hq' := Lib.hid hq'
                  clear hq' Hq
                  have e3 : c ≤ (pth.size : Int) := by omega
                  have e4 : (0 : Int) ≤ (pth.size : Int) := by omega
                  go_wp2_with (at_builtin; refine wpList_row rfl _ _ rfl u L4 [(_, _), (_, _), (_, _)] _ rfl (H18.out.ext ((Mod.refl _ _).alloc _)) _ _ 3 rfl rfl (reads_new3 _ _ _ _ _ _ _) ?hl4 ?_)
                  case hl4 => have := M4.out; simp only [List.length_cons, List.length_nil]; omega
                  intro v' w4 hrow
                  have Hrow2 := Lib.hid hrow
                  clear hrow
                  go_wp2_with fail
                  go_meet
                  case rel => exact ⟨_, _, rfl, rfl, Lib.hid (by (first | rw [Hfl.out, ← Hb'.out, ← Hq'.out] | rw [Hfl.out, ← Hq'.out]); (try rw [ext_none pth]); exact Hrow2.out)⟩
              · have hb := Hb.out
                rw [if_neg hd] at hb
                subst hb
                clear Hb
                by_cases hc : 0 ≤ c
                · have hq' := Hq.out
                  rw [if_pos hc] at hq'
                  have Hq' := Lib.hid hq'
                  clear hq' Hq
                  have e3 : c ≤ (pth.size : Int) := by omega
                  have e4 : (0 : Int) ≤ (pth.size : Int) := by omega
                  go_wp2_with (at_builtin; refine wpList_row rfl _ _ rfl u L4 [(_, _), (_, _), (_, _)] _ rfl (H18.out.ext ((Mod.refl _ _).alloc _)) _ _ 3 rfl rfl (reads_new3 _ _ _ _ _ _ _) ?hl4 ?_)
                  case hl4 => have := M4.out; simp only [List.length_cons, List.length_nil]; omega
                  intro v' w4 hrow
                  have Hrow2 := Lib.hid hrow
                  clear hrow
                  go_wp2_with fail
                  go_meet
                  case rel => exact ⟨_, _, rfl, rfl, Lib.hid (by (first | rw [Hfl.out, ← Hb'.out, ← Hq'.out] | rw [Hfl.out, ← Hq'.out]); (try rw [ext_none pth]); exact Hrow2.out)⟩
                · have e1 : c < 0 := by omega
                  have e2 : c ≤ 0 := by omega
                  have hq' := Hq.out
                  rw [if_neg hc] at hq'
                  have Hq' := Lib.hid hq'
                  clear hq' Hq
                  have e3 : c ≤ (pth.size : Int) := by omega
                  have e4 : (0 : Int) ≤ (pth.size : Int) := by omega
                  go_wp2_with (at_builtin; refine wpList_row rfl _ _ rfl u L4 [(_, _), (_, _), (_, _)] _ rfl (H18.out.ext ((Mod.refl _ _).alloc _)) _ _ 3 rfl rfl (reads_new3 _ _ _ _ _ _ _) ?hl4 ?_)
                  case hl4 => have := M4.out; simp only [List.length_cons, List.length_nil]; omega
                  intro v' w4 hrow
                  have Hrow2 := Lib.hid hrow
                  clear hrow
                  go_wp2_with fail
                  go_meet
                  case rel => exact ⟨_, _, rfl, rfl, Lib.hid (by (first | rw [Hfl.out, ← Hb'.out, ← Hq'.out] | rw [Hfl.out, ← Hq'.out]); (try rw [ext_none pth]); exact Hrow2.out)⟩
          case rest =>
            obtain ⟨v9, wn, rfl, rfl, H9⟩ := hcut
            have m5 : (L4 ++ pathP G).length ≤ 8 := by have := M4.out; have := pathP_len G; rw [List.length_append]; omega
            generalize hL5 : L4 ++ pathP G = L5 at *
            have M5 := Lib.hid m5
            have hrn := Hr.out.mod (hxw.ext_trans H9.out.2) (fun _ _ f => f)
            rw [← HM.out] at hrn
            have Hrn := Lib.hid hrn
            clear m5 hrn
            go_wp2_with (at_builtin; refine wpList_row rfl _ _ rfl u L5 env _ rfl H9.out _ _ M HM.out.symm rfl Hrn.out ?hl5 ?_)
            case hl5 => have := M5.out; have := HM.out; omega
            intro v' w4 hrow
            have Hrow2 := Lib.hid hrow
            clear hrow
            rw [HL0.out] at Hrow2
            go_wp2_with fail
            go_ret2
            exact ⟨_, rfl, ownsRow_base Hrow2.out.1 hxw.size, hxw.ext_trans Hrow2.out.2⟩
end Go.Proofs.YtmecdhbiinpepaaDoor

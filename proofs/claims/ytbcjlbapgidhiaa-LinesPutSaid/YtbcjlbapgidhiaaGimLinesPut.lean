/- A text put in within a line leaves where it and those ahead of it begin, moves those behind it by its length, and makes as many lines more as it has breaks: the plain law and the walk. Conditions: none. -/
import Derived.Test.YtbcjlbapgidhiaaGimLinesSame
import Derived.Deep.RegionLaw
import Derived.Deep.DeepCutAuto
namespace Go.Gim
theorem put_brk (P c Q : List UInt8) : brk (P ++ c ++ Q) = brk (P ++ Q) + brk c := by
  rw [brk_append, brk_append, brk_append]; omega
theorem put_ahead (P c Q : List UInt8) (i : Nat) (h : i ≤ brk P) : lineN (P ++ c ++ Q) i = lineN (P ++ Q) i := by
  cases i with
  | zero => rfl
  | succ j =>
    simp only [lineN]
    rw [if_neg (by omega), if_neg (by omega), Nat.add_sub_cancel, List.append_assoc, upto_append_lt 3 _ _ _ (by rw [byW3]; omega), upto_append_lt 3 _ _ _ (by rw [byW3]; omega)]
theorem put_behind (P c Q : List UInt8) (i : Nat) (h : brk P < i) : lineN (P ++ c ++ Q) (i + brk c) = lineN (P ++ Q) i + c.length := by
  obtain ⟨j, rfl⟩ : ∃ j, i = j + 1 := ⟨i - 1, by omega⟩
  simp only [lineN]
  rw [if_neg (by omega), if_neg (by omega), Nat.add_sub_cancel, List.append_assoc, upto_append_ge 3 P _ _ (by rw [byW3]; omega), upto_append_ge 3 P Q _ (by rw [byW3]; omega), upto_append_ge 3 c Q _ (by rw [byW3, byW3]; omega)]
  rw [byW3, byW3, show j + 1 + brk c - 1 - brk P - brk c = j - brk P from by omega]
  omega
end Go.Gim
namespace Go.Proofs.Ytbcjlbapgidhiaa
open Go.RowKit Go.Gim

theorem size_in (s c : ByteArray) (p : Nat) (hp : p ≤ s.size) : (s.extract 0 p ++ c ++ s.extract p s.size).size = s.size + c.size := by
  rw [ByteArray.size_append, ByteArray.size_append, ByteArray.size_extract, ByteArray.size_extract]; omega

theorem put_line (R R2 : Rp) (s c : ByteArray) (p : Nat) (ht : R.text = s.data.toList) (ht2 : R2.text = (s.extract 0 p ++ c ++ s.extract p s.size).data.toList) (i : Nat) (hi : i ≤ brk R.text) :
    ∃ a b d : Nat, a ≤ s.size ∧
      Hid (∀ v, RopeAt v R → Calls Try.prog 43 #[.agg #[.pointer (some ⟨R.rb, 0, none⟩)], .int .i64 i] v fun e w' => e = .returned (.tuple #[.int .i64 a, .int .i64 0]) ∧ Ext v w') ∧
      Hid (∀ v, RopeAt v R2 → Calls Try.prog 43 #[.agg #[.pointer (some ⟨R2.rb, 0, none⟩)], .int .i64 i] v fun e w' => e = .returned (.tuple #[.int .i64 b, .int .i64 0]) ∧ Ext v w') ∧
      Hid (∀ v, RopeAt v R2 → Calls Try.prog 43 #[.agg #[.pointer (some ⟨R2.rb, 0, none⟩)], .int .i64 ((i : Int) + (brk c.data.toList : Nat))] v fun e w' => e = .returned (.tuple #[.int .i64 d, .int .i64 0]) ∧ Ext v w') ∧
      (i ≤ brk (R.text.take p) → b = a) ∧ (brk (R.text.take p) < i → d = a + c.size) := by
  have e1 : s.data.toList = s.data.toList.take p ++ s.data.toList.drop p := (List.take_append_drop p _).symm
  have e2 : R2.text = s.data.toList.take p ++ c.data.toList ++ s.data.toList.drop p := by
    rw [ht2, show (s.extract 0 p ++ c ++ s.extract p s.size).data.toList = (s.extract 0 p).data.toList ++ c.data.toList ++ (s.extract p s.size).data.toList from by simp]
    congr 1
    · congr 1; simp
    · simp only [ByteArray.data_extract, Array.toList_extract, List.extract_eq_take_drop]
      rw [List.take_of_length_le (l := s.data.toList.drop p) (by simp)]
  have hb : brk R2.text = brk R.text + brk c.data.toList := by
    rw [e2, put_brk, ht, ← e1]
  have h1 : hasB R.text (i : Nat) = true := has_of ⟨by omega, by omega⟩
  have h2 : hasB R2.text (i : Nat) = true := has_of ⟨by omega, by omega⟩
  have h3 : hasB R2.text (i + brk c.data.toList : Nat) = true := has_of ⟨by omega, by omega⟩
  have hle : lineN R.text i ≤ s.size := by
    have := lineN_lineE R.text i hi
    have := lineE_le R.text i
    have : R.text.length = s.size := by rw [ht, toList_length]
    omega
  refine ⟨lineN R.text i, lineN R2.text i, lineN R2.text (i + brk c.data.toList), hle, Lib.hid fun v hv => start_yes R i v hv h1, Lib.hid fun v hv => start_yes R2 i v hv h2, Lib.hid fun v hv => ?_, fun h => ?_, fun h => ?_⟩
  · have := start_yes R2 (i + brk c.data.toList) v hv h3
    rwa [show ((i + brk c.data.toList : Nat) : Int) = (i : Int) + (brk c.data.toList : Nat) from by omega] at this
  · rw [ht] at h ⊢
    rw [e2, put_ahead _ _ _ _ h, ← e1]
  · rw [ht] at h ⊢
    rw [e2, put_behind _ _ _ _ h, ← e1, toList_length]

theorem put_brks (R R2 : Rp) (s c : ByteArray) (p : Nat) (ht : R.text = s.data.toList) (ht2 : R2.text = (s.extract 0 p ++ c ++ s.extract p s.size).data.toList) : brk R2.text = brk R.text + brk c.data.toList := by
  have e1 : s.data.toList = s.data.toList.take p ++ s.data.toList.drop p := (List.take_append_drop p _).symm
  have e2 : R2.text = s.data.toList.take p ++ c.data.toList ++ s.data.toList.drop p := by
    rw [ht2, show (s.extract 0 p ++ c ++ s.extract p s.size).data.toList = (s.extract 0 p).data.toList ++ c.data.toList ++ (s.extract p s.size).data.toList from by simp]
    congr 1
    · congr 1; simp
    · simp only [ByteArray.data_extract, Array.toList_extract, List.extract_eq_take_drop]
      rw [List.take_of_length_le (l := s.data.toList.drop p) (by simp)]
  rw [e2, put_brk, ht, ← e1]

theorem brk_step (c : ByteArray) (k : Nat) (h : k < c.size) : brk (c.data.toList.take (k + 1)) = brk (c.data.toList.take k) + if c[k].toNat = 10 then 1 else 0 := by
  rw [List.take_add_one, brk_append]
  congr 1
  have : c.data.toList[k]? = some c[k] := by
    rw [List.getElem?_eq_getElem (by simpa using h), toList_get c k h]
  rw [this]
  show brk [c[k]] = _
  rw [brk_cons, brk_nil]
  have e : (c[k] == 10) = decide (c[k].toNat = 10) := by
    rw [Bool.eq_iff_iff]; simp only [beq_iff_eq, decide_eq_true_eq]
    exact ⟨fun h => by rw [h]; rfl, fun h => UInt8.toNat_inj.1 h⟩
  rw [e]; simp

theorem put_cell {w : World} {b : Nat} {T : TypeId} {v : Value} (h : Blk w b T #[v]) : w.cell? ⟨b, 0, none⟩ = some v := h.cell 0
theorem put_box1 {u w3 : World} {O : Rp} {l : List UInt8} {o : Obj} (hO : RopeAt w3 O) (ht : O.text = l) (hx : Ext u.drew w3) :
    RopeAt (w3.alloc o) O ∧ O.text = l ∧ Ext u (w3.alloc o) := by
  have h1 : Ext w3 (w3.alloc o) := (Mod.refl _ w3).alloc _
  have h2 : Ext u w3 := ⟨hx.os, hx.tape, hx.output, hx.size, hx.block⟩
  exact ⟨hO.ext h1, ht, h2.ext_trans h1⟩
theorem put_box2 {w3 : World} {b : Nat} {T : TypeId} {v v2 : Value} (h : Blk w3 b T #[v]) : (w3.setCell ⟨b, 0, none⟩ v2).cell? ⟨b, 0, none⟩ = some v2 := (h.set 0 v2).cell 0
theorem put_box3 {u w3 : World} {O : Rp} {l : List UInt8} {v v2 : Value} {T : TypeId} (hO : RopeAt w3 O) (ht : O.text = l) (hx : Ext (u.alloc (.cells #[v] T)).drew w3) (hn : O.New (u.alloc (.cells #[v] T)).drew) (hs : ∀ k, O.D.sv.ownBlock = some k → (u.alloc (.cells #[v] T)).drew.heap.size ≤ k) :
    RopeAt (w3.setCell ⟨u.heap.size, 0, none⟩ v2) O ∧ O.text = l ∧ Ext u (w3.setCell ⟨u.heap.size, 0, none⟩ v2) := by
  have h0 : (u.alloc (.cells #[v] T)).drew.heap.size = u.heap.size + 1 := by simp
  have h1 : Mod (· = u.heap.size) w3 (w3.setCell ⟨u.heap.size, 0, none⟩ v2) := Mod.setCell (S := (· = u.heap.size)) (Mod.refl _ w3) (p := ⟨u.heap.size, 0, none⟩) (fun _ => rfl) _
  have h2 : Ext (u.alloc (.cells #[v] T)) w3 := ⟨hx.os, hx.tape, hx.output, hx.size, hx.block⟩
  have h3 : Ext u w3 := ((Mod.refl (fun _ => False) u).alloc (.cells #[v] T)).ext_trans h2
  refine ⟨hO.far h1 (fun k hk e => ?_) (fun k hk e => ?_), ht, h3.setCell (by simp) _⟩
  · rcases hk with hk | hk
    · have := hn.all k hk; omega
    · have := hn.dice; omega
  · have := hs k hk; omega

set_option maxHeartbeats 3200000 in
set_option maxRecDepth 1000000 in
theorem linesPut_any (w : World) (s : ByteArray) (f : Int) (c : ByteArray) (hs : s.size ≤ 200) (hc : c.size ≤ 60) :
    Calls Try.prog 11 #[.string s, .int .i64 f, .string c] w fun e w' => e = .returned (.bool true) ∧ Ext w w' := by
  have i1 : ¬ (200 : Int) < (s.size : Int) := by omega
  have i2 : ¬ (60 : Int) < (c.size : Int) := by omega
  have lp := lowN_lt f (s.size + 1) (by omega)
  go_enter Try.func11, Try.ntmps11
  go_wp2_with fail
  refine (linesof_any s _ (by omega)).mono ?_
  rintro e u1 ⟨R, rfl, hR, htx, hx, _⟩
  have ha : Ext u1 (u1.alloc (.cells #[.pointer (some ⟨R.rb, 0, none⟩)] 64)) := (Mod.refl _ u1).alloc _
  have hRa := hR.ext ha
  have hxa := hx.ext_trans ha
  have hz := size_text htx
  go_wp2_with fail
  refine (low_any f ((s.size : Int) + 1) _ (by omega) (by omega)).mono ?_
  rintro e w1 ⟨rfl, rfl⟩
  rw [show ((s.size : Int) + 1).toNat = s.size + 1 from by omega]
  generalize lowN f (s.size + 1) = p at *
  have hat := at_yes R (p : Nat) _ hRa (rises_of ⟨by omega, by omega, by omega⟩)
  rw [Int.toNat_natCast] at hat
  have hbp := brk_le (R.text.take p)
  have hbp2 := List.length_take_le p R.text
  have Htx := Lib.hid htx
  clear htx
  go_wp2_with fail
  refine hat.mono ?_
  rintro e u2 ⟨rfl, y⟩
  have hR2 := hRa.ext y
  have hx2 := hxa.ext_trans y
  have hbox := (Blk.new u1 64 #[.pointer (some ⟨R.rb, 0, none⟩)]).mod y (fun f => f)
  have hw0 : (0 : Int) ≤ (p : Int) := by omega
  have hw1 : (p : Int) ≤ (s.size : Int) := by omega
  have hsz := size_in s c p (by omega)
  have hw2 : ¬ 9223372036854775807 < min p s.size + c.size := by omega
  have hw3 : ¬ 9223372036854775807 < min p s.size + c.size + (s.size - p) := by omega
  clear hat
  generalize hy : s.extract 0 p ++ c ++ s.extract p s.size = yy at *
  go_wp2_with fail
  go_cut [12, 13] (fun v1 v2 wc => ∃ (wn : World) (bb : Nat) (O : Rp), wn = wc ∧ v1 = .pointer (some ⟨bb, 0, none⟩) ∧ v2 = .bool true ∧ wn.cell? ⟨bb, 0, none⟩ = some (.pointer (some ⟨O.rb, 0, none⟩)) ∧ bb < wn.heap.size ∧ Hid (RopeAt wn O ∧ O.text = yy.data.toList ∧ Ext u2 wn))
  case rest =>
    obtain ⟨wx, bb, O, rfl, rfl, rfl, hcell, hbl, HO⟩ := hcut
    have hR5 := hR2.ext HO.out.2.2
    have hx5 := hx2.ext_trans HO.out.2.2
    have hb5 := hbox.mod HO.out.2.2 (fun f => f)
    have hO5 := HO.out.1
    have c0 := put_cell hb5
    have hb5l := hb5.lt
    have hm1 := many_any R _ hR5
    have hm2 := fun v (hv : RopeAt v O) => many_any O v hv
    have hlen : R.text.length = s.size := by rw [Htx.out, toList_length]
    have hbl2 := brk_le R.text
    have hbc := brk_le c.data.toList
    rw [toList_length] at hbc
    have hto := HO.out.2.1
    rw [← hy] at hto
    have hbO := put_brks R O s c p Htx.out hto
    have HL := Lib.hid (fun i hi => put_line R O s c p Htx.out hto i hi)
    rw [hbO] at hm2
    obtain ⟨M, m1, m2⟩ : ∃ M, M ≤ brk R.text + 1 ∧ brk R.text + 1 ≤ M := ⟨_, Nat.le_refl _, Nat.le_refl _⟩
    obtain ⟨M2, m3, m4⟩ : ∃ M2, M2 ≤ brk R.text + brk c.data.toList + 1 ∧ brk R.text + brk c.data.toList + 1 ≤ M2 := ⟨_, Nat.le_refl _, Nat.le_refl _⟩
    rw [show brk R.text + 1 = M from by omega] at hm1
    rw [show brk R.text + brk c.data.toList + 1 = M2 from by omega] at hm2
    have hMM : ((M2 : Int) != (M : Int) + (brk c.data.toList : Nat)) = false := by simp; omega
    have HMM := Lib.hid hMM
    have Hm1 := Lib.hid hm1
    have Hm2 := Lib.hid hm2
    clear hMM
    clear hto hbO hm1 hm2 hb5 hbox
    go_wp2_with fail
    go_loop [14, 15] (fun b i => ∃ k : Nat, k ≤ c.size ∧ i = .int .i64 k ∧ b = .int .i64 (brk (c.data.toList.take k) : Nat)) (fun _ i => c.size - (intOf i).toNat)
    case atStart => exact ⟨0, by omega, rfl, rfl⟩
    case round =>
      obtain ⟨k, hk, rfl, rfl⟩ := hrel
      by_cases hkt : k < c.size
      · have hlt' : (k : Int) < (c.size : Int) := by omega
        have hk0 : (0 : Int) ≤ (k : Int) := by omega
        have hst := brk_step c k hkt
        have hbk := brk_le (c.data.toList.take k)
        have hbk2 := List.length_take_le k c.data.toList
        have hbk3 : brk (c.data.toList.take k) ≤ 60 := by omega
        by_cases h10 : c[k].toNat = 10
        · have b1 : ((c[k].toNat : Int) == 10) = true := by simp; omega
          rw [if_pos h10] at hst
          have Hst := Lib.hid hst
          clear hst h10 hbk hbk2
          go_wp2_with fail
          go_round
          case rel => exact ⟨k + 1, by omega, by go_num, by rw [Hst.out]; go_num⟩
          case measure => simp [intOf]; omega
        · have b1 : ((c[k].toNat : Int) == 10) = false := by simp; omega
          rw [if_neg h10, Nat.add_zero] at hst
          have Hst := Lib.hid hst
          clear hst h10 hbk hbk2
          go_wp2_with fail
          go_round
          case rel => exact ⟨k + 1, by omega, by go_num, by rw [Hst.out]; rfl⟩
          case measure => simp [intOf]; omega
      · have hlt' : ¬ (k : Int) < (c.size : Int) := by omega
        have e1 : c.data.toList.take k = c.data.toList := List.take_of_length_le (by rw [toList_length]; omega)
        rw [e1]
        clear e1
        go_wp2_with fail
        refine Hm1.out.mono ?_
        rintro e v1 ⟨rfl, y1⟩
        have c7 : v1.cell? ⟨u1.heap.size, 0, none⟩ = some (.pointer (some ⟨R.rb, 0, none⟩)) := (y1.cell (p := ⟨u1.heap.size, 0, none⟩) hb5l (fun f => f)).trans c0
        have c12 : v1.cell? ⟨bb, 0, none⟩ = some (.pointer (some ⟨O.rb, 0, none⟩)) := (y1.cell (p := ⟨bb, 0, none⟩) hbl (fun f => f)).trans hcell
        go_wp2_with fail
        refine (Hm2.out _ (hO5.ext y1)).mono ?_
        rintro e v2 ⟨rfl, y2⟩
        have y3 := y1.ext_trans y2
        have hMM := HMM.out
        clear c7 c12
        go_wp2_with fail
        go_loopw [17] (fun i wr => ∃ k : Nat, k ≤ M ∧ i = .int .i64 k ∧ Ext wx wr) (fun i _ => M - (intOf i).toNat)
        case atStart => exact ⟨0, by omega, rfl, y3⟩
        case round =>
          obtain ⟨j, hj, rfl, y⟩ := hrel
          by_cases hjt : j < M
          · have hjt' : (j : Int) < ((M : Nat) : Int) := by omega
            have hjs : (j : Int) ≤ (s.size : Int) := by omega
            obtain ⟨a, b, d, has, C0, C1, C2, q1, q2⟩ := HL.out j (by omega)
            have c7 : wr.cell? ⟨u1.heap.size, 0, none⟩ = some (.pointer (some ⟨R.rb, 0, none⟩)) := (y.cell (p := ⟨u1.heap.size, 0, none⟩) hb5l (fun f => f)).trans c0
            go_wp2_with fail
            refine (C0.out _ (hR5.ext y)).mono ?_
            rintro e v4 ⟨rfl, y4⟩
            have y5 := y.ext_trans y4
            have c12 : v4.cell? ⟨bb, 0, none⟩ = some (.pointer (some ⟨O.rb, 0, none⟩)) := (y5.cell (p := ⟨bb, 0, none⟩) hbl (fun f => f)).trans hcell
            go_wp2_with fail
            refine (C1.out _ (hO5.ext y5)).mono ?_
            rintro e v5 ⟨rfl, y6⟩
            have y7 := y5.ext_trans y6
            have c13 : v5.cell? ⟨bb, 0, none⟩ = some (.pointer (some ⟨O.rb, 0, none⟩)) := (y7.cell (p := ⟨bb, 0, none⟩) hbl (fun f => f)).trans hcell
            clear c7 c12
            by_cases hgt : brk (R.text.take p) < j
            · have hgt' : ((brk (R.text.take p) : Nat) : Int) < (j : Int) := by omega
              have C3 := C2.out
              have e1 : (((d : Nat) : Int) == (a : Int) + (c.size : Int)) = true := by simp; omega
              have e2 : (((a : Nat) : Int) + (c.size : Int) == (d : Int)) = true := by simp; omega
              have C3 := Lib.hid C3
              clear q1 q2 hgt
              go_wp2_with fail
              refine (C3.out _ (hO5.ext y7)).mono ?_
              rintro e v6 ⟨rfl, y8⟩
              go_wp2_with fail
              go_roundw
              case rel => exact ⟨j + 1, by omega, by go_num, y7.ext_trans y8⟩
              case measure => simp [intOf]; omega
            · have hgt' : ¬ ((brk (R.text.take p) : Nat) : Int) < (j : Int) := by omega
              obtain rfl := q1 (by omega)
              clear q2 hgt
              go_wp2_with fail
              go_roundw
              case rel => exact ⟨j + 1, by omega, by go_num, y7⟩
              case measure => simp [intOf]; omega
          · have hjt' : ¬ (j : Int) < ((M : Nat) : Int) := by omega
            go_wp2_with fail
            refine (awake4_any _).mono ?_
            rintro e v9 ⟨rfl, y9⟩
            go_wp2_with fail
            go_ret
            exact ⟨rfl, (hx5.ext_trans y).ext_trans y9⟩
  case first =>
    go_region_law (first
      | (go_simp; refine (linesof_any yy _ (by omega)).mono ?_; rintro e w3 ⟨O, rfl, hO, hto, hx3, hnw, hsv⟩; (first | (have hbk : Blk w3 u2.heap.size 64 #[.pointer none] := Blk.mod (Blk.new u2.drew 64 #[.pointer none]) hx3 (fun f => f); have c9 := hbk.cell 0; have f9 := hbk.free 0) | skip)))
    all_goals
      go_wp2_with fail
      go_meet
      case rel =>
        first
          | exact ⟨_, _, O, rfl, rfl, rfl, (Blk.new w3 64 #[.pointer (some ⟨O.rb, 0, none⟩)]).cell 0, (Blk.new w3 64 #[.pointer (some ⟨O.rb, 0, none⟩)]).lt, Lib.hid (put_box1 hO hto hx3)⟩
          | exact ⟨_, _, O, rfl, rfl, rfl, put_box2 hbk, by have := hbk.lt; simpa using this, Lib.hid (put_box3 hO hto hx3 hnw hsv)⟩

set_option maxHeartbeats 1600000 in
set_option maxRecDepth 1000000 in
theorem linesPut_calls (w : World) (s : ByteArray) (ws : s.size ≤ 9223372036854775807) (f : Int) (wf : (Lit.int .i64 f).wf = true) (c : ByteArray) (wc : c.size ≤ 9223372036854775807) :
    Calls Try.prog 11 #[.string s, .int .i64 f, .string c] w fun e w' => e = .returned (.bool true) ∧ Ext w w' := by
  clear ws wf wc
  by_cases h1 : s.size ≤ 200
  · have i1 : decide ((200 : Int) < (s.size : Int)) = false := by simp; omega
    have j1 : ¬ (200 : Int) < (s.size : Int) := by omega
    by_cases h2 : c.size ≤ 60
    · exact linesPut_any w s f c h1 h2
    · have j2 : (60 : Int) < (c.size : Int) := by omega
      go_enter Try.func11, Try.ntmps11
      go_wp2_with fail
      refine (awake4_any _).mono ?_
      rintro e w1 ⟨rfl, hx⟩
      go_wp2_with fail
      go_ret
      exact ⟨rfl, hx⟩
  · have j1 : (200 : Int) < (s.size : Int) := by omega
    go_enter Try.func11, Try.ntmps11
    go_wp2_with fail
    refine (awake4_any _).mono ?_
    rintro e w1 ⟨rfl, hx⟩
    go_wp2_with fail
    go_ret
    exact ⟨rfl, hx⟩

end Go.Proofs.Ytbcjlbapgidhiaa

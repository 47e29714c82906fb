/- What rope's Upto computes. Conditions: a rope of at most 65536 bytes. -/
import Derived.Test.YtmecdhbiinpepaaDoorGimRope1
import Derived.Test.YtmecdhbiinpepaaDoorGimBy
import Derived.Deep.LoopGhost
import Derived.Deep.DeepCutAuto
namespace Go.Proofs.YtmecdhbiinpepaaDoor
open Go.RowKit Go.Gim

set_option maxHeartbeats 800000 in
set_option maxRecDepth 1000000 in
theorem upto_nil (way n : Int) (w : World) : Calls Tryd.prog 46 #[.pointer none, .int .i64 way, .int .i64 n] w fun e w' => e = .returned (.int .i64 0) ∧ w' = w := by
  go_enter Tryd.func46, Tryd.ntmps46
  go_wp2_with fail
  go_ret
  exact ⟨rfl, rfl⟩
set_option maxHeartbeats 800000 in
set_option maxRecDepth 1000000 in
theorem upto_no (r : Addr) (way n : Int) (w : World) (h : badUpto way n) : Calls Tryd.prog 46 #[.pointer (some r), .int .i64 way, .int .i64 n] w fun e w' => e = .returned (.int .i64 (-1)) ∧ w' = w := by
  by_cases h1 : n < 0
  · go_enter Tryd.func46, Tryd.ntmps46
    go_wp2_with fail
    go_ret
    exact ⟨rfl, rfl⟩
  · have h1' : decide (n < 0) = false := by simpa using h1
    by_cases h2 : way < 0
    · go_enter Tryd.func46, Tryd.ntmps46
      go_wp2_with fail
      go_ret
      exact ⟨rfl, rfl⟩
    · have h2' : decide (way < 0) = false := by simpa using h2
      have h3 : 3 < way := by rcases h with h | h | h <;> omega
      clear h
      go_enter Tryd.func46, Tryd.ntmps46
      go_wp2_with fail
      go_ret
      exact ⟨rfl, rfl⟩

/-- What Upto's loop holds. -/
structure UptoAt (w : World) (way : Int) (U : Nat) (u : T) (k m : Nat) (wr : World) : Prop where
  tree : TreeAt wr u
  ext : Ext w wr
  val : U = k + upto way u.text m
  small : k + u.size ≤ 65536
  int : IsInt m
  sized : Sized u.owns

set_option maxHeartbeats 3200000 in
set_option maxRecDepth 1000000 in
theorem upto_yes (R : Rp) (way : Int) (n : Nat) (w : World) (h : RopeAt w R) (h0 : 0 ≤ way) (h3 : way ≤ 3) (hni : IsInt n) :
    Calls Tryd.prog 46 #[.pointer (some ⟨R.rb, 0, none⟩), .int .i64 way, .int .i64 n] w fun e w' => e = .returned (.int .i64 (upto way R.text n : Nat)) ∧ Ext w w' := by
  have hn0 : (0 : Int) ≤ (n : Int) := Int.natCast_nonneg _
  have hs := h.size
  generalize hU : upto way R.text n = U
  have HU := Lib.hid hU
  clear hU
  obtain ⟨_, c1, _, hb⟩ := h.cells
  go_enter Tryd.func46, Tryd.ntmps46
  go_wp2_with fail
  go_loopg [2, 7, 8] R.t.count (fun c p q r wr => ∃ (u : T) (k m : Nat), p = .int .i64 m ∧ q = .int .i64 k ∧ r = .pointer u.addr ∧ u.count = c ∧ Hid (UptoAt w way U u k m wr))
  case atStart => exact ⟨R.t, 0, n, rfl, rfl, rfl, rfl, Lib.hid ⟨h.tree, Mod.refl _ _, by rw [← HU.out]; simp [Rp.text], by omega, hni, h.pcs.1⟩⟩
  case round =>
    obtain ⟨u, k, m, rfl, rfl, rfl, hk, HC⟩ := hrel
    have hT := HC.out.tree
    have hx := HC.out.ext
    have hsm := HC.out.small
    have Hk := Lib.hid hk
    clear hk c1 hb
    cases u with
    | nil =>
      rw [show T.nil.addr = none from rfl]
      go_wp2_with fail
      go_ret
      exact ⟨ret_int (by rw [HC.out.val]; simp [upto, T.text]), hx⟩
    | node b own p tl tr =>
      have hsz := T.size_node b own p tl tr
      obtain ⟨n04, n4, ⟨n5, n6, n7, n8⟩, n9, n10, n11⟩ := Blk.node hT.1
      have hbl := Blk.lt hT.1
      have hcn : (T.node b own p tl tr).text = tl.text ++ (own.data.toList ++ tr.text) := rfl
      have Hcn := Lib.hid hcn
      clear hcn
      rw [show (T.node b own p tl tr).addr = some ⟨b, 0, none⟩ from rfl]
      go_upto_if 33 with fail
      go_cut [2, 7, 8] (fun s1 s2 s3 wx => ∃ (k2 m2 : Nat), s1 = .int .i64 m2 ∧ s2 = .int .i64 k2 ∧ s3 = .pointer (some ⟨b, 0, none⟩) ∧ Hid (TreeAt wx (T.node b own p tl tr) ∧ Ext w wx ∧ U = k2 + upto way (own.data.toList ++ tr.text) m2 ∧ k2 + (own.size + tr.size) ≤ 65536 ∧ IsInt m2))
      case first =>
        cases tl with
        | nil =>
          rw [show T.nil.addr = none from rfl] at *
          go_wp2_with fail
          go_meet
          case rel => exact ⟨k, m, rfl, rfl, rfl, Lib.hid ⟨hT, hx, by rw [HC.out.val, Hcn.out]; rfl, by rw [hsz, show T.nil.size = 0 from rfl] at hsm; omega, HC.out.int⟩⟩
        | node bl lo lp ll lr =>
          have hle := byW_le way (T.node bl lo lp ll lr).text
          have hll : (T.node bl lo lp ll lr).text.length = (T.node bl lo lp ll lr).size := rfl
          have hT1 := hT.2.1.1
          have hSz := Lib.hid hT.2.1
          obtain ⟨X, hX⟩ : ∃ X, X = ll.text ++ (lo.data.toList ++ lr.text) := ⟨_, rfl⟩
          have hXt : (T.node bl lo lp ll lr).text = X := hX.symm
          rw [hXt] at hle hll
          rw [← hX] at hT1
          obtain ⟨⟨l0, l1, l2, l3⟩, _⟩ := Blk.node hT1
          have hbl2 := Blk.lt hT1
          replace n10 : wr.cell? ⟨b, 10, none⟩ = some (.pointer (some ⟨bl, 0, none⟩)) := n10
          have HXt := Lib.hid hXt
          have hi := HC.out.int
          have Hi := Lib.hid hi
          clear hX hXt hT1 hi
          have hXs : X.length ≤ (T.node bl lo lp ll lr).size ∧ (T.node bl lo lp ll lr).size ≤ X.length := by omega
          have HXl := Lib.hid hll
          clear hll
          go_wp2_with fail
          refine (by_any X way _).mono ?_
          rintro e w1 ⟨rfl, hx1⟩
          have hT2 := hT.ext hx1
          have hx2 := hx.ext_trans hx1
          clear n04 n4 n5 n6 n7 n8 n9 n10 n11 l0 l1 l2 l3 hbl hbl2
          obtain ⟨n04, n4, ⟨n5, n6, n7, n8⟩, n9, n10, n11⟩ := Blk.node hT2.1
          have hbl := Blk.lt hT2.1
          replace n10 : w1.cell? ⟨b, 10, none⟩ = some (.pointer (some ⟨bl, 0, none⟩)) := n10
          have hsize := size_any (T.node bl lo lp ll lr) w1 hT2.2.1
          rw [show (T.node bl lo lp ll lr).addr = some ⟨bl, 0, none⟩ from rfl] at hsize
          generalize hB : byW way X = B at *
          have HB := Lib.hid hB
          clear hB
          by_cases hm : (m : Int) < (B : Int)
          · go_wp2_with fail
            go_roundg ((T.node bl lo lp ll lr).count)
            case rel =>
              refine ⟨_, k, m, rfl, rfl, rfl, rfl, Lib.hid ⟨hT2.2.1, hx2, ?_, by omega, Hi.out, (sized_append.1 HC.out.sized).1⟩⟩
              rw [HC.out.val, Hcn.out, upto_append_lt _ _ _ _ (by rw [HXt.out, HB.out]; omega)]
            case measure => have := Hk.out; simp only [T.count] at this ⊢; omega
          · have hm' : decide ((m : Int) < (B : Int)) = false := by simpa using hm
            have hw := Hi.out.sub (b := B) (by omega) (by omega)
            have hi2 := Hi.out.sub' (b := B) (by omega) (by omega)
            have e : ((m - B : Nat) : Int) = (m : Int) - (B : Int) := by omega
            have E := Lib.hid e
            have Hw := Lib.hid hw
            have Hi2 := Lib.hid hi2
            clear e hw hi2
            go_wp2_with fail
            refine hsize.mono ?_
            rintro e w2 ⟨rfl, rfl⟩
            go_wp2_with fail
            go_meet
            case rel =>
              refine ⟨k + (T.node bl lo lp ll lr).size, m - B, ?_, by go_num, rfl, Lib.hid ⟨hT2, hx2, ?_, by omega, by rw [E.out]; exact Hi2.out⟩⟩
              · rw [E.out]; first | rfl | rw [Hw.out]
              · rw [HC.out.val, Hcn.out, upto_append_ge _ _ _ _ (by rw [HXt.out, HB.out]; omega), HXt.out, HB.out, HXl.out]; omega
      case rest =>
        obtain ⟨k2, m2, rfl, rfl, rfl, HM⟩ := hcut
        obtain ⟨wz, hwz⟩ : ∃ wz : World, wz = wc := ⟨_, rfl⟩
        rw [← hwz] at HM ⊢
        clear hwz n04 n4 n5 n6 n7 n8 n9 n10 n11 hbl
        obtain ⟨hT2, hx2, hv2, hk2, hi2⟩ := HM.out
        have Hv2 := Lib.hid hv2
        have Hi2 := Lib.hid hi2
        obtain ⟨n04, n4, ⟨n5, n6, n7, n8⟩, n9, n10, n11⟩ := Blk.node hT2.1
        have hbl := Blk.lt hT2.1
        have hle := byW_le way own.data.toList
        have hlo : own.data.toList.length = own.size := rfl
        rw [hlo] at hle
        clear hv2 hi2 HM hlo
        go_wp2_with fail
        refine (by_any own.data.toList way _).mono ?_
        rintro e w1 ⟨rfl, hx1⟩
        have hT3 := hT2.ext hx1
        have hx3 := hx2.ext_trans hx1
        clear n04 n4 n5 n6 n7 n8 n9 n10 n11 hbl
        obtain ⟨n04, n4, ⟨n5, n6, n7, n8⟩, n9, n10, n11⟩ := Blk.node hT3.1
        have hbl := Blk.lt hT3.1
        generalize hB : byW way own.data.toList = B at *
        have HB := Lib.hid hB
        clear hB
        by_cases hm : (m2 : Int) < (B : Int)
        · go_wp2_with fail
          refine (tallyUpto_any own way m2 _ h0 h3 (by omega) Hi2.out).mono ?_
          rintro e w4 ⟨rfl, hx4⟩
          have hul := upto_le way own.data.toList m2
          have hlo : own.data.toList.length = own.size := rfl
          have hv : U = k2 + upto way own.data.toList m2 := by rw [Hv2.out, upto_append_lt _ _ _ _ (by rw [HB.out]; omega)]
          have Hv := Lib.hid hv
          rw [hlo] at hul
          clear hv hlo
          generalize upto way own.data.toList m2 = Z at *
          go_wp2_with fail
          go_ret
          exact ⟨ret_int (by rw [Hv.out]; omega), hx3.ext_trans hx4⟩
        · have hm' : decide ((m2 : Int) < (B : Int)) = false := by simpa using hm
          have hw := Hi2.out.sub (b := B) (by omega) (by omega)
          have hi3 := Hi2.out.sub' (b := B) (by omega) (by omega)
          have e : ((m2 - B : Nat) : Int) = (m2 : Int) - (B : Int) := by omega
          have E := Lib.hid e
          have Hw := Lib.hid hw
          have Hi3 := Lib.hid hi3
          clear e hw hi3
          go_wp2_with fail
          go_roundg (tr.count)
          case rel =>
            refine ⟨tr, k2 + own.size, m2 - B, ?_, by go_num, rfl, rfl, Lib.hid ⟨hT3.2.2, hx3, ?_, by omega, by rw [E.out]; exact Hi3.out, (sized_cons.1 (sized_append.1 HC.out.sized).2).2⟩⟩
            · rw [E.out]; first | rfl | rw [Hw.out]
            · rw [Hv2.out, upto_append_ge _ _ _ _ (by rw [HB.out]; omega), HB.out, show own.data.toList.length = own.size from rfl]; omega
          case measure => have := Hk.out; simp only [T.count] at this ⊢; omega

end Go.Proofs.YtmecdhbiinpepaaDoor

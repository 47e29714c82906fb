/- What is out of range changes nothing, and takes no piece; any places: the walk. Conditions: none. -/
import Derived.Test.YtbcjlbapgidhiaaGimHeld
import Derived.Test.YtbcjlbapgidhiaaGimLaw3
namespace Go.Proofs.Ytbcjlbapgidhiaa
open Go.RowKit Go.Gim

/-- A row of pieces that was made: the cells of each. -/
theorem row_cells {w : World} {B : Nat} {L : List Pc} {ao : Option Addr} {cap : Nat} (h : w.ownsRow B 56 3 (.slice ao L.length cap) L.length (pcCells L)) (k : Nat) (x : Pc) (hk : L[k]? = some x) :
    ∃ g, ao = some ⟨g, 0, none⟩ ∧ w.cell? ⟨g, k * 3, none⟩ = some (.string x.own) ∧ w.cell? ⟨g, k * 3 + 1, none⟩ = some (.int .u32 x.prio) ∧ w.cell? ⟨g, k * 3 + 2, none⟩ = some (.int .i64 x.depth) := by
  have hk2 := (List.getElem?_eq_some_iff.1 hk).1
  obtain ⟨ao', cap', e, _, hag⟩ := ownsRow_shape h
  cases e
  obtain ⟨g, rfl⟩ := hag (by omega)
  obtain ⟨q0, q1, q2⟩ := reads_piece (Reads.own h) hk
  rw [Nat.zero_add] at q0 q1 q2
  exact ⟨g, rfl, q0, q1, q2⟩

set_option maxHeartbeats 3200000 in
set_option maxRecDepth 1000000 in
theorem ropeRefuses_above (w : World) (s : ByteArray) (f g : Int) (hs : s.size ≤ 300) (h0 : 0 ≤ f) (h1 : s.size < f) :
    Calls Try.prog 7 #[.string s, .int .i64 f, .int .i64 g] w fun e w' => e = .returned (.bool true) ∧ Ext w w' := by
  have i1 : ¬ (300 : Int) < (s.size : Int) := by omega
  have i3 : ¬ f ≤ (s.size : Int) := by omega
  go_enter Try.func7, Try.ntmps7
  go_wp2_with fail
  refine (dice_lit _ [3, 1, 4] #[.int .u32 3, .int .u32 1, .int .u32 4] rfl (by simp) (by simp)).mono ?_
  rintro e u1 ⟨D, rfl, hD⟩
  go_wp2_with fail
  refine (rope_one D s _ hD.dice (by omega)).mono ?_
  rintro e u2 ⟨R, rfl, hF⟩
  have hH := Held.start (s := s) hD.ext hD.d hF rfl
  have hz := hH.size
  clear hF
  go_wp2_with fail
  refine (piecesOf_any R u2 hH.rope).mono ?_
  rintro e u3 ⟨v, rfl, hr3, y3⟩
  have hH3 := hH.on y3
  have r1 : risesB f f R.t.size = false := rises_not (by omega)
  have r2 : risesB f g R.t.size = false := rises_not (by omega)
  have k1 := insert_no R f ⟨#[120]⟩ u3 hH3.rope r1
  have k2 := delete_no R f g u3 hH3.rope r2
  have k3 := cut_no R f u3 hH3.rope r1
  have k4 : Calls Try.prog 38 #[.pointer (some ⟨R.rb, 0, none⟩), .int .i64 f] u3 fun e w' => e = .returned (.tuple #[.agg #[.int .i64 0, .int .i64 0, .int .i64 0, .int .i64 0], .int .i64 3]) ∧ Ext u3 w' := count_no R f _ hH3.rope r1
  have hpl := pcs_len R.t 0
  have hcl := count_le hH3.rope.pcs
  obtain ⟨ao, cap, rfl, _, _⟩ := ownsRow_shape hr3.2
  have hLn : (R.t.pcs 0).length ≤ 300 := by omega
  generalize hLL : R.t.pcs 0 = LL at *
  clear hpl hcl r1 r2
  go_wp2_with fail
  refine k1.mono ?_
  rintro e u4 ⟨rfl, rfl⟩
  go_wp2_with fail
  refine k2.mono ?_
  rintro e u5 ⟨rfl, rfl⟩
  go_wp2_with fail
  refine (join_none _ _).mono ?_
  rintro e u6 ⟨rfl, rfl⟩
  go_wp2_with fail
  refine k3.mono ?_
  rintro e u7 ⟨rfl, rfl⟩
  go_wp2_with fail
  refine k4.mono ?_
  rintro e u8 ⟨rfl, y8⟩
  have y9 := y8.alloc (.cells #[.int .i64 0, .int .i64 0, .int .i64 0, .int .i64 0] 52)
  have hH9 := hH3.on y9
  clear k1 k2 k3 k4 y8
  go_wp2_with fail
  refine (join_self R _).mono ?_
  rintro e ua ⟨rfl, rfl⟩
  go_wp2_with fail
  refine (piecesOf_any R _ hH9.rope).mono ?_
  rintro e ub ⟨v, rfl, hrb, yb⟩
  rw [hLL] at hrb
  obtain ⟨bo, cbp, rfl, _, _⟩ := ownsRow_shape hrb.2
  have hHb := hH9.on yb
  have hc1 := fun k x hk => row_cells (w := ub) (ownsRow_mod hr3.2 (y9.ext_trans yb) (fun _ _ h => h)) k x hk
  have hc2 := fun k x hk => row_cells (w := ub) hrb.2 k x hk
  have Hc1 := Lib.hid hc1
  have Hc2 := Lib.hid hc2
  have HHb := Lib.hid hHb
  clear hc1 hc2 hr3 hrb y9 yb hH9 hHb hH3 hH y3
  go_wp2_with fail
  go_loopw [18] (fun q wr => ∃ k n : Nat, k ≤ LL.length ∧ q = .int .i64 k ∧ wr = ub.drewN n) (fun q _ => LL.length - (intOf q).toNat)
  case atStart => exact ⟨0, 0, by omega, rfl, rfl⟩
  case round =>
    obtain ⟨k, n, hk, rfl, rfl⟩ := hrel
    by_cases hlt : k < LL.length
    · have hlt' : (k : Int) < (LL.length : Int) := by omega
      have hk0 : (0 : Int) ≤ (k : Int) := by omega
      obtain ⟨x, hx⟩ : ∃ x : Pc, LL[k]? = some x := ⟨_, List.getElem?_eq_getElem hlt⟩
      obtain ⟨g1, rfl, a0, a1, a2⟩ := Hc1.out k x hx
      obtain ⟨g2, rfl, b0, b1, b2⟩ := Hc2.out k x hx
      have e1 : (x.own.toList == x.own.toList) = true := str_eq rfl
      clear hx
      go_wp2_with fail
      go_quiet (fail)
      go_wp2_with fail
      go_roundw
      case rel => exact ⟨k + 1, _, by omega, by go_num, rfl⟩
      case measure => simp [intOf]; omega
    · have hlt' : ¬ (k : Int) < (LL.length : Int) := by omega
      have e1 : (s.toList == s.toList) = true := str_eq rfl
      have hct := text_rope R _ (HHb.out.rope.drewN n)
      rw [HHb.out.bs] at hct
      go_wp2_with fail
      refine hct.mono ?_
      rintro e uc ⟨rfl, yc⟩
      go_wp2_with fail
      refine (awake3_any _).mono ?_
      rintro e ud ⟨rfl, yd⟩
      go_wp2_with fail
      go_ret
      exact ⟨rfl, ((HHb.out.drewN n).ext.ext_trans yc).ext_trans yd⟩

set_option maxHeartbeats 3200000 in
set_option maxRecDepth 1000000 in
theorem ropeRefuses_below (w : World) (s : ByteArray) (f g : Int) (hs : s.size ≤ 300) (h0 : ¬ 0 ≤ f) :
    Calls Try.prog 7 #[.string s, .int .i64 f, .int .i64 g] w fun e w' => e = .returned (.bool true) ∧ Ext w w' := by
  have i1 : ¬ (300 : Int) < (s.size : Int) := by omega
  have h0' : decide (0 ≤ f) = false := by simpa using h0
  go_enter Try.func7, Try.ntmps7
  go_wp2_with fail
  refine (dice_lit _ [3, 1, 4] #[.int .u32 3, .int .u32 1, .int .u32 4] rfl (by simp) (by simp)).mono ?_
  rintro e u1 ⟨D, rfl, hD⟩
  go_wp2_with fail
  refine (rope_one D s _ hD.dice (by omega)).mono ?_
  rintro e u2 ⟨R, rfl, hF⟩
  have hH := Held.start (s := s) hD.ext hD.d hF rfl
  have hz := hH.size
  clear hF
  go_wp2_with fail
  refine (piecesOf_any R u2 hH.rope).mono ?_
  rintro e u3 ⟨v, rfl, hr3, y3⟩
  have hH3 := hH.on y3
  have r1 : risesB f f R.t.size = false := rises_not (by omega)
  have r2 : risesB f g R.t.size = false := rises_not (by omega)
  have k1 := insert_no R f ⟨#[120]⟩ u3 hH3.rope r1
  have k2 := delete_no R f g u3 hH3.rope r2
  have k3 := cut_no R f u3 hH3.rope r1
  have k4 : Calls Try.prog 38 #[.pointer (some ⟨R.rb, 0, none⟩), .int .i64 f] u3 fun e w' => e = .returned (.tuple #[.agg #[.int .i64 0, .int .i64 0, .int .i64 0, .int .i64 0], .int .i64 3]) ∧ Ext u3 w' := count_no R f _ hH3.rope r1
  have hpl := pcs_len R.t 0
  have hcl := count_le hH3.rope.pcs
  obtain ⟨ao, cap, rfl, _, _⟩ := ownsRow_shape hr3.2
  have hLn : (R.t.pcs 0).length ≤ 300 := by omega
  generalize hLL : R.t.pcs 0 = LL at *
  clear hpl hcl r1 r2
  go_wp2_with fail
  refine k1.mono ?_
  rintro e u4 ⟨rfl, rfl⟩
  go_wp2_with fail
  refine k2.mono ?_
  rintro e u5 ⟨rfl, rfl⟩
  go_wp2_with fail
  refine (join_none _ _).mono ?_
  rintro e u6 ⟨rfl, rfl⟩
  go_wp2_with fail
  refine k3.mono ?_
  rintro e u7 ⟨rfl, rfl⟩
  go_wp2_with fail
  refine k4.mono ?_
  rintro e u8 ⟨rfl, y8⟩
  have y9 := y8.alloc (.cells #[.int .i64 0, .int .i64 0, .int .i64 0, .int .i64 0] 52)
  have hH9 := hH3.on y9
  clear k1 k2 k3 k4 y8
  go_wp2_with fail
  refine (join_self R _).mono ?_
  rintro e ua ⟨rfl, rfl⟩
  go_wp2_with fail
  refine (piecesOf_any R _ hH9.rope).mono ?_
  rintro e ub ⟨v, rfl, hrb, yb⟩
  rw [hLL] at hrb
  obtain ⟨bo, cbp, rfl, _, _⟩ := ownsRow_shape hrb.2
  have hHb := hH9.on yb
  have hc1 := fun k x hk => row_cells (w := ub) (ownsRow_mod hr3.2 (y9.ext_trans yb) (fun _ _ h => h)) k x hk
  have hc2 := fun k x hk => row_cells (w := ub) hrb.2 k x hk
  have Hc1 := Lib.hid hc1
  have Hc2 := Lib.hid hc2
  have HHb := Lib.hid hHb
  clear hc1 hc2 hr3 hrb y9 yb hH9 hHb hH3 hH y3
  go_wp2_with fail
  go_loopw [18] (fun q wr => ∃ k n : Nat, k ≤ LL.length ∧ q = .int .i64 k ∧ wr = ub.drewN n) (fun q _ => LL.length - (intOf q).toNat)
  case atStart => exact ⟨0, 0, by omega, rfl, rfl⟩
  case round =>
    obtain ⟨k, n, hk, rfl, rfl⟩ := hrel
    by_cases hlt : k < LL.length
    · have hlt' : (k : Int) < (LL.length : Int) := by omega
      have hk0 : (0 : Int) ≤ (k : Int) := by omega
      obtain ⟨x, hx⟩ : ∃ x : Pc, LL[k]? = some x := ⟨_, List.getElem?_eq_getElem hlt⟩
      obtain ⟨g1, rfl, a0, a1, a2⟩ := Hc1.out k x hx
      obtain ⟨g2, rfl, b0, b1, b2⟩ := Hc2.out k x hx
      have e1 : (x.own.toList == x.own.toList) = true := str_eq rfl
      clear hx
      go_wp2_with fail
      go_quiet (fail)
      go_wp2_with fail
      go_roundw
      case rel => exact ⟨k + 1, _, by omega, by go_num, rfl⟩
      case measure => simp [intOf]; omega
    · have hlt' : ¬ (k : Int) < (LL.length : Int) := by omega
      have e1 : (s.toList == s.toList) = true := str_eq rfl
      have hct := text_rope R _ (HHb.out.rope.drewN n)
      rw [HHb.out.bs] at hct
      go_wp2_with fail
      refine hct.mono ?_
      rintro e uc ⟨rfl, yc⟩
      go_wp2_with fail
      refine (awake3_any _).mono ?_
      rintro e ud ⟨rfl, yd⟩
      go_wp2_with fail
      go_ret
      exact ⟨rfl, ((HHb.out.drewN n).ext.ext_trans yc).ext_trans yd⟩

set_option maxHeartbeats 1600000 in
set_option maxRecDepth 1000000 in
theorem ropeRefuses_calls (w : World) (s : ByteArray) (ws : s.size ≤ 9223372036854775807) (f : Int) (wf : (Lit.int .i64 f).wf = true) (g : Int) (wg : (Lit.int .i64 g).wf = true) :
    Calls Try.prog 7 #[.string s, .int .i64 f, .int .i64 g] w fun e w' => e = .returned (.bool true) ∧ Ext w w' := by
  by_cases h1 : s.size ≤ 300
  · by_cases h2 : 0 ≤ f
    · by_cases h3 : f ≤ s.size
      · have j1 : ¬ (300 : Int) < (s.size : Int) := by omega
        clear ws wf wg
        go_enter Try.func7, Try.ntmps7
        go_wp2_with fail
        refine (awake3_any _).mono ?_
        rintro e w1 ⟨rfl, hx⟩
        go_wp2_with fail
        go_ret
        exact ⟨rfl, hx⟩
      · exact ropeRefuses_above w s f g h1 h2 (by omega)
    · exact ropeRefuses_below w s f g h1 h2
  · have j1 : (300 : Int) < (s.size : Int) := by omega
    clear ws wf wg
    go_enter Try.func7, Try.ntmps7
    go_wp2_with fail
    refine (awake3_any _).mono ?_
    rintro e w1 ⟨rfl, hx⟩
    go_wp2_with fail
    go_ret
    exact ⟨rfl, hx⟩

end Go.Proofs.Ytbcjlbapgidhiaa

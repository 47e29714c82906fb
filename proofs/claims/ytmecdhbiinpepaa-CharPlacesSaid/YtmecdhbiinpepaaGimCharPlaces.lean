/- The places are motion's stop places: GoRight leads from each to the next one: the plain law and the walk. Conditions: none. -/
import Derived.Test.YtmecdhbiinpepaaGimStepT
import Derived.Test.YtmecdhbiinpepaaGimPackF
namespace Go.Gim
theorem rightN_end (l : List UInt8) (a : Nat) (h : a < l.length) : rightN l a = endN l a := by
  unfold rightN; rw [if_pos h]; rfl
theorem places_next (l : List UInt8) : ∀ (n a i x y : Nat), l.length - a ≤ n → a ≤ l.length → (a :: placesAt l a)[i]? = some x → (a :: placesAt l a)[i + 1]? = some y → x < l.length ∧ y = rightN l x := by
  intro n
  induction n with
  | zero =>
    intro a i x y hn ha _ hy
    rw [placesAt_end l a (by omega)] at hy
    simp at hy
  | succ n ih =>
    intro a i x y hn ha hx hy
    by_cases hlt : a < l.length
    · rw [placesAt_step l a hlt] at hx hy
      cases i with
      | zero =>
        simp at hx hy
        subst hx
        exact ⟨hlt, by rw [rightN_end l a hlt, ← hy]⟩
      | succ i =>
        have h1 := endN_gt l a
        have h2 := endN_le l a hlt
        exact ih (endN l a) i x y (by omega) h2 (by simpa using hx) (by simpa using hy)
    · rw [placesAt_end l a (by omega)] at hy
      simp at hy
theorem places_last (l : List UInt8) : ∀ (n a : Nat), l.length - a ≤ n → a ≤ l.length → (a :: placesAt l a)[(placesAt l a).length]? = some l.length := by
  intro n
  induction n with
  | zero =>
    intro a hn ha
    rw [placesAt_end l a (by omega)]
    simp; omega
  | succ n ih =>
    intro a hn ha
    by_cases hlt : a < l.length
    · have h1 := endN_gt l a
      have h2 := endN_le l a hlt
      rw [placesAt_step l a hlt]
      have := ih (endN l a) (by omega) h2
      simpa using this
    · rw [placesAt_end l a (by omega)]
      simp; omega
end Go.Gim
namespace Go.Proofs.Ytmecdhbiinpepaa
open Go.RowKit Go.Gim

set_option maxHeartbeats 3200000 in
set_option maxRecDepth 1000000 in
theorem charPlaces_any (w : World) (s : ByteArray) (hs : s.size ≤ 100) :
    Calls Try.prog 3 #[.string s] w fun e w' => e = .returned (.bool true) ∧ Ext w w' := by
  have j1 : ¬ (100 : Int) < (s.size : Int) := by omega
  go_enter Try.func3, Try.ntmps3
  go_wp2_with fail
  refine (dice_lit _ [2] #[.int .u32 2] rfl (by simp) (by simp)).mono ?_
  rintro e u1 ⟨D, rfl, hD⟩
  go_wp2_with fail
  refine (rope_one D s _ hD.dice (by omega)).mono ?_
  rintro e u2 ⟨R, rfl, hF⟩
  obtain ⟨hx2, _⟩ := hF.based (Mod.refl _ w) hD
  have hR := hF.rope
  have htx : R.text = s.data.toList := hF.text
  clear hF
  go_wp2_with fail
  refine (places_any s _ (by omega)).mono ?_
  rintro e u3 ⟨ap, cp, rfl, hp, hx3⟩
  have hpr := Reads.own hp
  have hR3 := hR.ext hx3
  have hpn := fun i x y => places_next s.data.toList _ 0 i x y (Nat.le_refl _) (Nat.zero_le _)
  have hpl := places_last s.data.toList _ 0 (Nat.le_refl _) (Nat.zero_le _)
  have hpm := placesAt_len s.data.toList 0
  rw [toList_length] at hpl hpm
  have h0 : (0 :: placesAt s.data.toList 0)[0]? = some 0 := rfl
  have hlen : (0 :: placesAt s.data.toList 0).length = (placesAt s.data.toList 0).length + 1 := rfl
  generalize 0 :: placesAt s.data.toList 0 = ps at *
  generalize (placesAt s.data.toList 0).length = m at *
  have hcells : ∀ (i x : Nat), ps[i]? = some x → ∃ b, ap = some ⟨b, 0, none⟩ ∧ u3.cell? ⟨b, i, none⟩ = some (.int .i64 (x : Nat)) := by
    intro i x hx
    obtain ⟨ao', cap', e1, _, hag⟩ := ownsRow_shape hp
    cases e1
    have hi := (List.getElem?_eq_some_iff.1 hx).1
    obtain ⟨g, rfl⟩ := hag (by omega)
    have := hpr.at (j := i) (v := .int .i64 (x : Nat)) (by simp [ints, hx])
    rw [Nat.zero_add] at this
    exact ⟨g, rfl, this⟩
  obtain ⟨b, rfl, c0⟩ := hcells 0 0 h0
  obtain ⟨b', e2, cm⟩ := hcells m s.size hpl
  cases e2
  have hb3 : b < u3.heap.size := World.block_lt_of_cell? _ _ c0
  have hst := fun i x y (hx : ps[i]? = some x) (hy : ps[i + 1]? = some y) v (hv : RopeAt v R) => step_yes R s x 2 v hv htx (by have := (hpn i x y hx hy).1; rw [toList_length] at this; omega) (by omega) (by omega)
  have Hst := Lib.hid hst
  have Hpn := Lib.hid hpn
  have Hc := Lib.hid hcells
  have q1 : ((m : Int) + 1 == 0) = false := by simp; omega
  have q2 : (0 : Int) ≤ (m : Int) := by omega
  have q3 : (m : Int) ≤ 200 := by omega
  rw [hlen]
  clear hp hpr hst hpn hcells hpl hpm h0
  go_wp2_with fail
  go_loopw [6] (fun i wr => ∃ j : Nat, j ≤ m ∧ i = .int .i64 j ∧ Ext u3 wr) (fun i _ => m - (intOf i).toNat)
  case atStart => exact ⟨0, by omega, rfl, Mod.refl _ _⟩
  case round =>
    obtain ⟨j, hj, rfl, y⟩ := hrel
    by_cases hlt : j < m
    · have l1 : (j : Int) < (m : Int) := by omega
      have l2 : (0 : Int) ≤ (j : Int) := by omega
      obtain ⟨x, hx⟩ : ∃ x, ps[j]? = some x := ⟨_, List.getElem?_eq_getElem (by omega)⟩
      obtain ⟨z, hz⟩ : ∃ z, ps[j + 1]? = some z := ⟨_, List.getElem?_eq_getElem (by omega)⟩
      obtain ⟨b1, e1, cx⟩ := Hc.out j x hx
      cases e1
      obtain ⟨b2, e2, cz⟩ := Hc.out (j + 1) z hz
      cases e2
      obtain ⟨_, hzx⟩ := Hpn.out j x z hx hz
      have hstep := Hst.out j x z hx hz
      rw [show stepN s.data.toList x 2 = rightN s.data.toList x from rfl, ← hzx] at hstep
      have Hstep := Lib.hid hstep
      have cx' : wr.cell? ⟨b, j, none⟩ = some (.int .i64 (x : Nat)) := (y.cell (p := ⟨b, j, none⟩) hb3 (fun f => f)).trans cx
      have hbw : b < wr.heap.size := y.lt hb3
      clear hx hz hzx hstep c0 cm cx
      go_wp2_with fail
      refine wp_region_ext_lit (by kernel_rfl) (by kernel_rfl) ?_
      repeat (go_big_quiet_step (first | (with_reducible exact Calls.ext_of (linesOf_any _ _)) | (with_reducible exact Calls.ext_of (Hstep.out _ ((hR3.ext y).ext (Mod.of_below (ext_below _ _)))))))
      refine wpQuiet_nil ?_
      intro we hxe
      have y2 := y.ext_trans hxe
      have cz' : we.cell? ⟨b, j + 1, none⟩ = some (.int .i64 (z : Nat)) := (y2.cell (p := ⟨b, j + 1, none⟩) hb3 (fun f => f)).trans cz
      have hbw2 : b < we.heap.size := y2.lt hb3
      clear cx' cz
      go_wp2_with fail
      go_roundw
      case rel => exact ⟨j + 1, by omega, by go_num, y2⟩
      case measure => simp [intOf]; omega
    · have l1 : ¬ (j : Int) < (m : Int) := by omega
      go_wp2_with fail
      refine (awake11_any _).mono ?_
      rintro e u9 ⟨rfl, y9⟩
      go_wp2_with fail
      go_ret
      exact ⟨rfl, ((hx2.ext_trans hx3).ext_trans y).ext_trans y9⟩

set_option maxHeartbeats 800000 in
set_option maxRecDepth 1000000 in
theorem charPlaces_calls (w : World) (s : ByteArray) (ws : s.size ≤ 9223372036854775807) :
    Calls Try.prog 3 #[.string s] w fun e w' => e = .returned (.bool true) ∧ Ext w w' := by
  by_cases h1 : s.size ≤ 100
  · exact charPlaces_any w s h1
  · have j1 : (100 : Int) < (s.size : Int) := by omega
    clear ws
    go_enter Try.func3, Try.ntmps3
    go_wp2_with fail
    refine (awake11_any _).mono ?_
    rintro e w1 ⟨rfl, hx⟩
    go_wp2_with fail
    go_ret
    exact ⟨rfl, hx⟩

end Go.Proofs.Ytmecdhbiinpepaa

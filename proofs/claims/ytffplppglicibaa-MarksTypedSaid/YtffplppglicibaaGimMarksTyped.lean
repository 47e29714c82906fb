/- What is put in at a place makes a range longer within it, moves it ahead of it, and at its ends goes by how these are posed: the walk. Conditions: none. -/
import Derived.Test.YtffplppglicibaaGimAwake7
import Derived.Test.YtffplppglicibaaGimLow
import Derived.Deep.CutBlock
namespace Go.Gim
theorem moveE_one (right : Bool) (e : Ed) (o : Int) : moveE right [e] o = oneE right o e := rfl
theorem moveT_one (es : List Ed) (id : Int) (r : Rg) (h : r.u ≠ id) : getR (moveT es [(id, r)]) id = some ⟨min (moveE r.p es r.a) (moveE r.q es r.b), moveE r.q es r.b, r.p, r.q, r.u⟩ := by
  have e1 : moveT es [(id, r)] = setR [(id, r)] id (movedR es [(id, r)] r) := rfl
  rw [e1, getR_set_same (by rw [getR_cons, if_pos rfl]; rfl)]
  unfold movedR
  have e2 : getR [(id, r)] r.u = none := by rw [getR_cons, if_neg (Ne.symm h)]; rfl
  rw [e2]
theorem ranged_one {e : Ed} (h0 : 0 ≤ e.a) (h1 : e.a ≤ e.b) (h2 : e.b ≤ 65536) : rangedE 65536 [e] = 0 := by
  have hm : mayS (edS e) 65536 = true := by unfold mayS edS; exact decide_eq_true ⟨h0, h1, h2⟩
  unfold rangedE
  rw [if_pos (by simp [hm]), if_pos]
  refine apartB_yes (fun i hi => ?_)
  have : i = 0 := by simp at hi; omega
  subst this
  rw [okAt_yes (x := edS e) rfl]
  exact ⟨h1, fun j y hj => by cases hj⟩
theorem add_one {a b : Int} (p q : Bool) (h0 : 0 ≤ a) (h1 : a ≤ b) (h2 : b ≤ 65536) : addE [] ⟨a, b, p, q, 0⟩ = 0 := by
  rw [addE_top (by unfold mayS; exact decide_eq_true ⟨h0, h1, h2⟩) rfl]; rfl
end Go.Gim
namespace Go.Proofs.Ytffplppglicibaa
open Go.RowKit Go.Gim

set_option maxHeartbeats 3200000 in
set_option maxRecDepth 1000000 in
theorem marksTyped_any (w : World) (x0 x1 x2 : Int) (r0 r1 : Bool) (t : ByteArray) (ht : t.size ≤ 50) :
    Calls Try.prog 3 #[.int .i64 x0, .int .i64 x1, .int .i64 x2, .agg #[.bool r0, .bool r1], .string t] w fun e w' => e = .returned (.bool true) ∧ Ext w w' := by
  obtain ⟨a, ha, L1⟩ := low_nat2 x0 50 50 rfl (by omega) (by omega)
  obtain ⟨m, hm, L2⟩ := low_nat2 x1 10 10 rfl (by omega) (by omega)
  obtain ⟨p, hp, L3⟩ := low_nat2 x2 62 62 rfl (by omega) (by omega)
  have HL1 := Lib.hid L1
  have HL2 := Lib.hid L2
  have HL3 := Lib.hid L3
  have i1 : ¬ (50 : Int) < (t.size : Int) := by omega
  obtain ⟨b, hb⟩ : ∃ b : Nat, b = a + m := ⟨_, rfl⟩
  have Hbi := Lib.hid (show (a : Int) + (m : Int) = (b : Int) by omega)
  have hab : a ≤ b := by omega
  have hb2 : b ≤ 60 := by omega
  have HA0 := Lib.hid (add_one (a := a) (b := b) false false (by omega) (by omega) (by omega))
  have HT0 := Lib.hid (tok1 HA0.out)
  have HT1 := Lib.hid (tok1 (add_one (a := a) (b := b) r0 r1 (by omega) (by omega) (by omega)))
  have HR := Lib.hid (ranged_one (e := ⟨p, p, t⟩) (by simp only; omega) (by simp only; omega) (by simp only; omega))
  have HG := Lib.hid (moveT_one [⟨(p : Int), (p : Int), t⟩] 1 ⟨a, b, r0, r1, 0⟩ (by simp))
  simp only [moveE_one] at HG
  have HX : Hid _ := Lib.hid (show oneE r0 a ⟨p, p, t⟩ = if (p : Int) < a then (a : Int) + t.size else if (p : Int) = a then (if r0 then (a : Int) + t.size else a) else a by
    unfold oneE
    simp only
    by_cases c1 : (p : Int) < a
    · rw [if_neg (by omega), if_pos c1, if_pos c1]; omega
    · by_cases c2 : (p : Int) = a
      · rw [if_neg (by omega), if_neg c1, if_neg c1, if_pos c2, c2]
      · rw [if_pos (by omega), if_neg c1, if_neg c2])
  have HY : Hid _ := Lib.hid (show oneE r1 b ⟨p, p, t⟩ = if (p : Int) < b then (b : Int) + t.size else if (p : Int) = b then (if r1 then (b : Int) + t.size else b) else b by
    unfold oneE
    simp only
    by_cases c1 : (p : Int) < b
    · rw [if_neg (by omega), if_pos c1, if_pos c1]; omega
    · by_cases c2 : (p : Int) = b
      · rw [if_neg (by omega), if_neg c1, if_neg c1, if_pos c2, c2]
      · rw [if_pos (by omega), if_neg c1, if_neg c2])
  generalize oneE r0 a ⟨p, p, t⟩ = X at *
  generalize oneE r1 b ⟨p, p, t⟩ = Y at *
  obtain ⟨u, hu⟩ : ∃ u, u = w.alloc (.cells #[.bool r0, .bool r1] 22) := ⟨_, rfl⟩
  have hxu : Ext w u := by rw [hu]; exact (Mod.refl _ w).alloc _
  have hbu : Blk u w.heap.size 22 #[.bool r0, .bool r1] := by rw [hu]; exact Blk.new _ _ _
  clear L1 L2 L3 ht hb
  go_enter Try.func3, Try.ntmps3
  go_wp2_with fail
  rw [← hu]
  clear hu
  refine (HL1.out _).mono ?_
  rintro e v ⟨rfl, rfl⟩
  go_wp2_with fail
  refine (HL2.out _).mono ?_
  rintro e v ⟨rfl, rfl⟩
  go_wp2_with fail
  rw [Hbi.out]
  refine (HL3.out _).mono ?_
  rintro e u1 ⟨rfl, rfl⟩
  clear HL1 HL2 HL3 Hbi hm
  go_wp2_with fail
  refine (tnew_any u1).mono ?_
  rintro e w1 ⟨tb, mb, rfl, h1, l1, l2, hx1⟩
  have HA := Lib.hid (tadd_any tb mb [] 0 ⟨a, b, false, false, 0⟩ w1 h1 (by simp) rfl (by omega) (by omega) (show (Lit.int .i64 0).wf = true by decide))
  have hlb := hbu.lt
  clear h1
  go_wp2_with fail
  refine HA.out.mono ?_
  rintro e w2 hp2
  rcases hp2 with ⟨_, rfl, h2, hm2⟩ | ⟨hne, _⟩
  · have hx2 : Ext u1 w2 := hx1.trans hm2 (fun i hi e => by unfold tabS at e; omega)
    have HP := Lib.hid (tpose_yes tb mb [(1, ⟨a, b, false, false, 0⟩)] 1 1 r0 r1 ⟨a, b, false, false, 0⟩ w2 h2 (by simp) (by decide) rfl)
    have hb2' := hbu.mod hx2 (fun f => f)
    have c0 : w2.cell? ⟨w.heap.size, 0, none⟩ = some (.bool r0) := hb2'.cell 0
    have c1 : w2.cell? ⟨w.heap.size, 1, none⟩ = some (.bool r1) := hb2'.cell 1
    have hlt := hb2'.lt
    clear HA hm2 h2 hx1
    go_wp2_with fail
    refine HP.out.mono ?_
    rintro e w3 ⟨rfl, h3, hm3⟩
    have hx3 : Ext u1 w3 := hx2.trans hm3 (fun i hi e => by unfold tabS at e; omega)
    have H3 := Lib.hid (show TabAt w3 tb mb [(1, ⟨a, b, r0, r1, 0⟩)] 1 from h3)
    have hl1 := h3.blk.lt
    have hl2 := h3.map.lt
    clear HP hm3 h3 hx2 c0 c1 hlt hb2'
    go_wp2_with fail
    obtain ⟨v, hv⟩ : ∃ v, v = w3.alloc (.cells #[.int .i64 p, .int .i64 p, .string t] 37) := ⟨_, rfl⟩
    have hxv : Ext w3 v := by rw [hv]; exact (Mod.refl _ w3).alloc _
    have hbv : Reads v 3 (some ⟨w3.heap.size, 0, none⟩) 1 (edE.cells [⟨p, p, t⟩]) := by
      rw [hv]
      exact Reads.new w3 37 #[.int .i64 p, .int .i64 p, .string t] 3 1 rfl
    rw [← hv]
    clear hv
    refine (tmove_any tb mb [(1, ⟨a, b, r0, r1, 0⟩)] 1 65536 [⟨p, p, t⟩] (some ⟨w3.heap.size, 0, none⟩) 1 v (H3.out.ext hxv) HT1.out (by omega) (by omega) hbv (fun h => by cases h) (by simp) (by intro e he; simp at he; subst he; simp only; omega) (fun a ha => by cases ha; unfold tabS; simp only; omega)).mono ?_
    rintro e w4 hp4
    rcases hp4 with ⟨_, rfl, h4, hm4⟩ | ⟨hne, _⟩
    · have hx4 : Ext u1 w4 := (hx3.ext_trans hxv).trans hm4 (fun i hi e => by unfold tabS at e; omega)
      have HGt := Lib.hid (fun w' (h' : Ext w4 w') => tget_any tb mb _ 1 1 w' (h4.ext h') (by decide))
      rw [(get_of HG.out).1, (get_of HG.out).2] at HGt
      simp only at HGt
      have hl4 := h4.blk.lt
      have hb4 := hbu.mod hx4 (fun f => f)
      have d0 : w4.cell? ⟨w.heap.size, 0, none⟩ = some (.bool r0) := hb4.cell 0
      have d1 : w4.cell? ⟨w.heap.size, 1, none⟩ = some (.bool r1) := hb4.cell 1
      have hlt := hb4.lt
      clear H3 hbv hxv hm4 h4 hx3 hl1 hl2
      by_cases k1 : p < a
      · have hz := HX.out
        rw [if_pos (by omega)] at hz
        subst hz
        have k2 : decide (p < a) = true := decide_eq_true k1
        clear HX
        have j1 : p < b := by omega
        have hz := HY.out
        rw [if_pos (by omega)] at hz
        subst hz
        have j2 : decide (p < b) = true := decide_eq_true j1
        clear HY
        go_wp2_with fail
        refine (HGt.out w4 (Mod.refl _ _)).mono ?_
        rintro e w5 ⟨rfl, hx5⟩
        go_wp2_with fail
        refine (awake7_any _).mono ?_
        rintro e w6 ⟨rfl, hx6⟩
        go_wp2_with fail
        go_ret
        exact ⟨rfl, by first | exact ((hxu.ext_trans hx4).ext_trans hx5).ext_trans (((Mod.refl _ _).alloc _).ext_trans hx6) | exact ((hxu.ext_trans hx4).ext_trans hx5).ext_trans ((((Mod.refl _ _).alloc _).drewN _).ext_trans hx6) | exact ((hxu.ext_trans hx4).ext_trans hx5).ext_trans ((((Mod.refl _ _).alloc _).drew).ext_trans hx6)⟩
      · by_cases k3 : a = p
        · have hz := HX.out
          rw [if_neg (by omega), if_pos (by omega)] at hz
          subst k3
          clear HX
          cases r0 with
          | true =>
            rw [if_pos rfl] at hz
            subst hz
            by_cases j1 : a < b
            · have hz := HY.out
              rw [if_pos (by omega)] at hz
              subst hz
              have j2 : decide (a < b) = true := decide_eq_true j1
              clear HY
              go_wp2_with fail
              refine (HGt.out w4 (Mod.refl _ _)).mono ?_
              rintro e w5 ⟨rfl, hx5⟩
              go_wp2_with fail
              refine (awake7_any _).mono ?_
              rintro e w6 ⟨rfl, hx6⟩
              go_wp2_with fail
              go_ret
              exact ⟨rfl, by first | exact ((hxu.ext_trans hx4).ext_trans hx5).ext_trans (((Mod.refl _ _).alloc _).ext_trans hx6) | exact ((hxu.ext_trans hx4).ext_trans hx5).ext_trans ((((Mod.refl _ _).alloc _).drewN _).ext_trans hx6) | exact ((hxu.ext_trans hx4).ext_trans hx5).ext_trans ((((Mod.refl _ _).alloc _).drew).ext_trans hx6)⟩
            · have hz := HY.out
              rw [if_neg (by omega), if_pos (by omega)] at hz
              clear HY
              obtain rfl : b = a := by omega
              cases r1 with
              | true =>
                rw [if_pos rfl] at hz
                subst hz
                go_wp2_with fail
                refine (HGt.out w4 (Mod.refl _ _)).mono ?_
                rintro e w5 ⟨rfl, hx5⟩
                go_wp2_with fail
                refine (awake7_any _).mono ?_
                rintro e w6 ⟨rfl, hx6⟩
                go_wp2_with fail
                go_ret
                exact ⟨rfl, by first | exact ((hxu.ext_trans hx4).ext_trans hx5).ext_trans (((Mod.refl _ _).alloc _).ext_trans hx6) | exact ((hxu.ext_trans hx4).ext_trans hx5).ext_trans ((((Mod.refl _ _).alloc _).drewN _).ext_trans hx6) | exact ((hxu.ext_trans hx4).ext_trans hx5).ext_trans ((((Mod.refl _ _).alloc _).drew).ext_trans hx6)⟩
              | false =>
                rw [if_neg (by decide)] at hz
                subst hz
                go_wp2_with fail
                refine (HGt.out w4 (Mod.refl _ _)).mono ?_
                rintro e w5 ⟨rfl, hx5⟩
                go_wp2_with fail
                refine (awake7_any _).mono ?_
                rintro e w6 ⟨rfl, hx6⟩
                go_wp2_with fail
                go_ret
                exact ⟨rfl, by first | exact ((hxu.ext_trans hx4).ext_trans hx5).ext_trans (((Mod.refl _ _).alloc _).ext_trans hx6) | exact ((hxu.ext_trans hx4).ext_trans hx5).ext_trans ((((Mod.refl _ _).alloc _).drewN _).ext_trans hx6) | exact ((hxu.ext_trans hx4).ext_trans hx5).ext_trans ((((Mod.refl _ _).alloc _).drew).ext_trans hx6)⟩
          | false =>
            rw [if_neg (by decide)] at hz
            subst hz
            by_cases j1 : a < b
            · have hz := HY.out
              rw [if_pos (by omega)] at hz
              subst hz
              have j2 : decide (a < b) = true := decide_eq_true j1
              clear HY
              go_wp2_with fail
              refine (HGt.out w4 (Mod.refl _ _)).mono ?_
              rintro e w5 ⟨rfl, hx5⟩
              go_wp2_with fail
              refine (awake7_any _).mono ?_
              rintro e w6 ⟨rfl, hx6⟩
              go_wp2_with fail
              go_ret
              exact ⟨rfl, by first | exact ((hxu.ext_trans hx4).ext_trans hx5).ext_trans (((Mod.refl _ _).alloc _).ext_trans hx6) | exact ((hxu.ext_trans hx4).ext_trans hx5).ext_trans ((((Mod.refl _ _).alloc _).drewN _).ext_trans hx6) | exact ((hxu.ext_trans hx4).ext_trans hx5).ext_trans ((((Mod.refl _ _).alloc _).drew).ext_trans hx6)⟩
            · have hz := HY.out
              rw [if_neg (by omega), if_pos (by omega)] at hz
              clear HY
              obtain rfl : b = a := by omega
              cases r1 with
              | true =>
                rw [if_pos rfl] at hz
                subst hz
                go_wp2_with fail
                refine (HGt.out w4 (Mod.refl _ _)).mono ?_
                rintro e w5 ⟨rfl, hx5⟩
                go_wp2_with fail
                refine (awake7_any _).mono ?_
                rintro e w6 ⟨rfl, hx6⟩
                go_wp2_with fail
                go_ret
                exact ⟨rfl, by first | exact ((hxu.ext_trans hx4).ext_trans hx5).ext_trans (((Mod.refl _ _).alloc _).ext_trans hx6) | exact ((hxu.ext_trans hx4).ext_trans hx5).ext_trans ((((Mod.refl _ _).alloc _).drewN _).ext_trans hx6) | exact ((hxu.ext_trans hx4).ext_trans hx5).ext_trans ((((Mod.refl _ _).alloc _).drew).ext_trans hx6)⟩
              | false =>
                rw [if_neg (by decide)] at hz
                subst hz
                go_wp2_with fail
                refine (HGt.out w4 (Mod.refl _ _)).mono ?_
                rintro e w5 ⟨rfl, hx5⟩
                go_wp2_with fail
                refine (awake7_any _).mono ?_
                rintro e w6 ⟨rfl, hx6⟩
                go_wp2_with fail
                go_ret
                exact ⟨rfl, by first | exact ((hxu.ext_trans hx4).ext_trans hx5).ext_trans (((Mod.refl _ _).alloc _).ext_trans hx6) | exact ((hxu.ext_trans hx4).ext_trans hx5).ext_trans ((((Mod.refl _ _).alloc _).drewN _).ext_trans hx6) | exact ((hxu.ext_trans hx4).ext_trans hx5).ext_trans ((((Mod.refl _ _).alloc _).drew).ext_trans hx6)⟩
        · have hz := HX.out
          rw [if_neg (by omega), if_neg (by omega)] at hz
          subst hz
          have k2 : decide (p < a) = false := decide_eq_false k1
          have k5 : (p == a) = false := by simp; omega
          clear HX
          by_cases j6 : b < p
          · have j2 : decide (p < b) = false := decide_eq_false (by omega)
            have j5 : (p == b) = false := by simp; omega
            have hz := HY.out
            rw [if_neg (by omega), if_neg (by omega)] at hz
            subst hz
            clear HY
            go_wp2_with fail
            refine (HGt.out w4 (Mod.refl _ _)).mono ?_
            rintro e w5 ⟨rfl, hx5⟩
            go_wp2_with fail
            refine (awake7_any _).mono ?_
            rintro e w6 ⟨rfl, hx6⟩
            go_wp2_with fail
            go_ret
            exact ⟨rfl, by first | exact ((hxu.ext_trans hx4).ext_trans hx5).ext_trans (((Mod.refl _ _).alloc _).ext_trans hx6) | exact ((hxu.ext_trans hx4).ext_trans hx5).ext_trans ((((Mod.refl _ _).alloc _).drewN _).ext_trans hx6) | exact ((hxu.ext_trans hx4).ext_trans hx5).ext_trans ((((Mod.refl _ _).alloc _).drew).ext_trans hx6)⟩
          · by_cases j1 : p < b
            · have hz := HY.out
              rw [if_pos (by omega)] at hz
              subst hz
              have j2 : decide (p < b) = true := decide_eq_true j1
              clear HY
              go_wp2_with fail
              refine (HGt.out w4 (Mod.refl _ _)).mono ?_
              rintro e w5 ⟨rfl, hx5⟩
              go_wp2_with fail
              refine (awake7_any _).mono ?_
              rintro e w6 ⟨rfl, hx6⟩
              go_wp2_with fail
              go_ret
              exact ⟨rfl, by first | exact ((hxu.ext_trans hx4).ext_trans hx5).ext_trans (((Mod.refl _ _).alloc _).ext_trans hx6) | exact ((hxu.ext_trans hx4).ext_trans hx5).ext_trans ((((Mod.refl _ _).alloc _).drewN _).ext_trans hx6) | exact ((hxu.ext_trans hx4).ext_trans hx5).ext_trans ((((Mod.refl _ _).alloc _).drew).ext_trans hx6)⟩
            · have hz := HY.out
              rw [if_neg (by omega), if_pos (by omega)] at hz
              clear HY
              obtain rfl : b = p := by omega
              cases r1 with
              | true =>
                rw [if_pos rfl] at hz
                subst hz
                go_wp2_with fail
                refine (HGt.out w4 (Mod.refl _ _)).mono ?_
                rintro e w5 ⟨rfl, hx5⟩
                go_wp2_with fail
                refine (awake7_any _).mono ?_
                rintro e w6 ⟨rfl, hx6⟩
                go_wp2_with fail
                go_ret
                exact ⟨rfl, by first | exact ((hxu.ext_trans hx4).ext_trans hx5).ext_trans (((Mod.refl _ _).alloc _).ext_trans hx6) | exact ((hxu.ext_trans hx4).ext_trans hx5).ext_trans ((((Mod.refl _ _).alloc _).drewN _).ext_trans hx6) | exact ((hxu.ext_trans hx4).ext_trans hx5).ext_trans ((((Mod.refl _ _).alloc _).drew).ext_trans hx6)⟩
              | false =>
                rw [if_neg (by decide)] at hz
                subst hz
                go_wp2_with fail
                refine (HGt.out w4 (Mod.refl _ _)).mono ?_
                rintro e w5 ⟨rfl, hx5⟩
                go_wp2_with fail
                refine (awake7_any _).mono ?_
                rintro e w6 ⟨rfl, hx6⟩
                go_wp2_with fail
                go_ret
                exact ⟨rfl, by first | exact ((hxu.ext_trans hx4).ext_trans hx5).ext_trans (((Mod.refl _ _).alloc _).ext_trans hx6) | exact ((hxu.ext_trans hx4).ext_trans hx5).ext_trans ((((Mod.refl _ _).alloc _).drewN _).ext_trans hx6) | exact ((hxu.ext_trans hx4).ext_trans hx5).ext_trans ((((Mod.refl _ _).alloc _).drew).ext_trans hx6)⟩
    · exact absurd HR.out hne
  · exact absurd HA0.out hne

set_option maxHeartbeats 800000 in
set_option maxRecDepth 1000000 in
theorem marksTyped_calls (w : World) (x0 : Int) (_ : (Lit.int .i64 x0).wf = true) (x1 : Int) (_ : (Lit.int .i64 x1).wf = true) (x2 : Int) (_ : (Lit.int .i64 x2).wf = true) (r0 r1 : Bool) (t : ByteArray) (_ : t.size ≤ 9223372036854775807) :
    Calls Try.prog 3 #[.int .i64 x0, .int .i64 x1, .int .i64 x2, .agg #[.bool r0, .bool r1], .string t] w fun e w' => e = .returned (.bool true) ∧ Ext w w' := by
  by_cases ht : t.size ≤ 50
  · exact marksTyped_any w x0 x1 x2 r0 r1 t ht
  · have i1 : (50 : Int) < (t.size : Int) := by omega
    go_enter Try.func3, Try.ntmps3
    go_wp2_with fail
    refine (awake7_any _).mono ?_
    rintro e w1 ⟨rfl, hx⟩
    go_wp2_with fail
    go_ret
    exact ⟨rfl, ((Mod.refl _ w).alloc _).ext_trans hx⟩
end Go.Proofs.Ytffplppglicibaa

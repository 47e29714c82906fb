/- Lines of a nil rope have no place: ErrNil; a selection out of the text has none: ErrRange; beside either there are no variables: the walk. Conditions: none. -/
import Derived.Test.YtmecdhbiinpepaaDoorGimPackY
namespace Go.Gim
theorem getV_size {n v : ByteArray} : ∀ {l : List Pv}, getV n l = some v → v.size ≤ sizeV l
  | [], h => by cases h
  | x :: r, h => by
    unfold getV at h
    have e : sizeV (x :: r) = x.1.size + x.2.size + sizeV r := by simp [sizeV]
    split at h
    · cases h; omega
    · have := getV_size h; omega
theorem placeL_pos (l : List UInt8) (x : Int × Int) (env : List Pv) : 0 < (placeL l x env).length := by
  unfold placeL; simp; omega
theorem may_yes_out {x : Int × Int} {n : Nat} (h : mayV (spanI x) n = true) : 0 ≤ x.1 ∧ 0 ≤ x.2 ∧ x.1 ≤ n ∧ x.2 ≤ n := by
  unfold mayV spanI at h
  have h := of_decide_eq_true h
  simp only at h
  omega
theorem may_no_out {x : Int × Int} {n : Nat} (h : mayV (spanI x) n = false) : x.1 < 0 ∨ x.2 < 0 ∨ (n : Int) < x.1 ∨ (n : Int) < x.2 := by
  unfold mayV spanI at h
  have h := of_decide_eq_false h
  simp only at h
  omega
end Go.Gim
namespace Go.Proofs.YtmecdhbiinpepaaDoor
open Go.RowKit Go.Gim

set_option maxHeartbeats 1600000 in
set_option maxRecDepth 1000000 in
theorem varsNil_any (w : World) (s : ByteArray) (x : Int × Int) (ao : Option Addr) (cap : Nat) (l : List Pv) (hr : Reads w 2 ao l.length (spCells l)) (hl : l.length ≤ maxLen) (hs : s.size ≤ 50) (he : envB 8 100 l = false) :
    Calls Tryd.prog 6 #[.string s, .agg #[.int .i64 x.1, .int .i64 x.2], .slice ao l.length cap] w fun e w' => e = .returned (.bool true) ∧ Ext w w' := by
  have hlen := envB_len he
  have hsz : (sizeV l : Int) ≤ 100 := envR_size l 100 (by unfold envB at he; split at he; cases he; exact he) (by omega)
  have hpl := Lib.hid (fun p (h : getV pathN l = some p) => (show p.size ≤ 65536 by have := getV_size h; omega))
  have i1 : ¬ (50 : Int) < (s.size : Int) := by omega
  have henv := Lib.hid (fun w' h => env_any 8 100 ao cap l w' h (by omega) (by omega) hl (by omega))
  have Hr := Lib.hid hr
  have He := Lib.hid he
  have Hl := Lib.hid hlen
  obtain ⟨N, hN⟩ : ∃ N, N = l.length := ⟨_, rfl⟩
  have HN := Lib.hid hN
  rw [← hN] at henv ⊢
  clear hr he hl hlen hN hsz
  obtain ⟨wa, hwa⟩ : ∃ wa, wa = w.alloc (.cells #[.int .i64 x.1, .int .i64 x.2] 23) := ⟨_, rfl⟩
  have hxa : Ext w wa := by rw [hwa]; exact (Mod.refl _ w).alloc _
  have hb4 : Blk wa w.heap.size 23 #[.int .i64 x.1, .int .i64 x.2] := by rw [hwa]; exact Blk.new _ _ _
  have Hra := Lib.hid (Hr.out.mod hxa (fun _ _ f => f))
  rw [← HN.out] at Hra
  go_enter Tryd.func6, Tryd.ntmps6
  go_wp2_with fail
  rw [← hwa]
  clear hwa
  refine (henv.out wa Hra.out).mono ?_
  rintro e w1 ⟨rfl, hx1⟩
  rw [He.out]
  go_wp2_with fail
  refine (of23_any s w1 (by omega)).mono ?_
  rintro e w2 ⟨R, rfl, hR, hT, hx2, -, -⟩
  go_wp2_with fail
  obtain ⟨u, hu⟩ : ∃ u, u = w2.alloc (.cells #[.pointer (some ⟨R.rb, 0, none⟩)] 29) := ⟨_, rfl⟩
  have hxu2 : Ext w2 u := by rw [hu]; exact (Mod.refl _ w2).alloc _
  have hbl : Blk u w2.heap.size 29 #[.pointer (some ⟨R.rb, 0, none⟩)] := by rw [hu]; exact Blk.new _ _ _
  rw [← hu]
  clear hu
  have hy1 := hx1.ext_trans (hx2.ext_trans hxu2)
  have hyu := hxa.ext_trans hy1
  have hb := hb4.mod hy1 (fun f => f)
  have HR := Lib.hid (fun w' (h' : Ext u w') => hR.ext (hxu2.ext_trans h'))
  have HS := Lib.hid (fun w' (hw' : Ext u w') => (⟨(hw'.cell hb.lt (fun f => f)).trans (hb.cell 0), (hw'.cell hb.lt (fun f => f)).trans (hb.cell 1), (hw'.cell hbl.lt (fun f => f)).trans (hbl.cell 0), trivial⟩ :
    w'.cell? ⟨w.heap.size, 0, none⟩ = some (.int .i64 x.1) ∧ w'.cell? ⟨w.heap.size, 1, none⟩ = some (.int .i64 x.2) ∧ w'.cell? ⟨w2.heap.size, 0, none⟩ = some (.pointer (some ⟨R.rb, 0, none⟩)) ∧ True))
  have HOf := Lib.hid (fun w' => linesOf_any none w')
  have HNil := Lib.hid (fun w' => vplace_nil x (.slice ao N cap) w')
  have hz : R.t.size = s.size := by
    have : R.text.length = R.t.size := rfl
    rw [← this, hT]; rfl
  have hrl := Hr.out.mod hyu (fun _ _ f => f)
  have HYes := Lib.hid (fun w' (h' : Ext u w') (hm : mayV (spanI x) R.t.size = true) => vplace_yes R x l ao cap w' (HR.out w' h') hm (by omega) (hrl.mod h' (fun _ _ f => f)) (by have := Hl.out; omega) hpl.out)
  rw [← HN.out] at HYes
  have HNo := Lib.hid (fun w' (h' : Ext u w') (hm : mayV (spanI x) R.t.size = false) => vplace_no R x (.slice ao N cap) w' (HR.out w' h') hm)
  rw [hz] at HYes HNo
  have Hps := Lib.hid (placeL_pos R.text x l)
  generalize placeL R.text x l = L at *
  clear hb4 hx1 hx2 hxu2 hbl hb hR hT hrl hy1 hz Hra henv
  refine wp_region_E (by kernel_rfl) ?_
  refine wpE_take 0 30 (v := ?_) rfl rfl (by kernel_rfl) (by kernel_rfl) (by kernel_rfl) (fun _ _ _ h => h) (by first | exact ext_draw _ | assumption) rfl ?_ ?_
  rotate_left
  · intro w' hw'
    refine qat_enter (by go_simp; exact ⟨rfl, rfl⟩) ?_
    exact HOf.out _
  simp only [Act.put, List.setIfInBounds_toArray, List.set_cons_zero, List.set_cons_succ]
  refine wpE_take 1 31 (v := ?_) rfl rfl (by kernel_rfl) (by kernel_rfl) (by kernel_rfl) (fun _ _ _ h => h) (by first | exact ext_draw _ | assumption) rfl ?_ ?_
  rotate_left
  · intro w' hw'
    obtain ⟨r0, r1, r2, r3⟩ := HS.out w' hw'
    refine qat_value ?_
    go_simp
    rfl
  simp only [Act.put, List.setIfInBounds_toArray, List.set_cons_zero, List.set_cons_succ]
  refine wpE_take 2 32 (v := ?_) rfl rfl (by kernel_rfl) (by kernel_rfl) (by kernel_rfl) (fun _ _ _ h => h) (by first | exact ext_draw _ | assumption) rfl ?_ ?_
  rotate_left
  · intro w' hw'
    refine qat_value ?_
    go_simp
    rfl
  simp only [Act.put, List.setIfInBounds_toArray, List.set_cons_zero, List.set_cons_succ]
  refine wpE_take 3 33 (v := ?_) rfl rfl (by kernel_rfl) (by kernel_rfl) (by kernel_rfl) (fun _ _ _ h => h) (by first | exact ext_draw _ | assumption) rfl ?_ ?_
  rotate_left
  · intro w' hw'
    refine qat_enter (by go_simp; exact ⟨rfl, rfl⟩) ?_
    exact HNil.out _
  simp only [Act.put, List.setIfInBounds_toArray, List.set_cons_zero, List.set_cons_succ]
  refine wpE_take 4 29 (v := ?_) rfl rfl (by kernel_rfl) (by kernel_rfl) (by kernel_rfl) (fun _ _ _ h => h) (by first | exact ext_draw _ | assumption) rfl ?_ ?_
  rotate_left
  · intro w' hw'
    refine qat_value ?_
    go_simp
    rfl
  simp only [Act.put, List.setIfInBounds_toArray, List.set_cons_zero, List.set_cons_succ]
  refine wpE_take 5 34 (v := ?_) rfl rfl (by kernel_rfl) (by kernel_rfl) (by kernel_rfl) (fun _ _ _ h => h) (by first | exact ext_draw _ | assumption) rfl ?_ ?_
  rotate_left
  · intro w' hw'
    refine qat_value ?_
    go_simp
    rfl
  simp only [Act.put, List.setIfInBounds_toArray, List.set_cons_zero, List.set_cons_succ]
  refine wpE_take 6 35 (v := ?_) rfl rfl (by kernel_rfl) (by kernel_rfl) (by kernel_rfl) (fun _ _ _ h => h) (by first | exact ext_draw _ | assumption) rfl ?_ ?_
  rotate_left
  · intro w' hw'
    refine qat_value ?_
    go_simp
    rfl
  simp only [Act.put, List.setIfInBounds_toArray, List.set_cons_zero, List.set_cons_succ]
  refine wpE_take 7 9 (v := ?_) rfl rfl (by kernel_rfl) (by kernel_rfl) (by kernel_rfl) (fun _ _ _ h => h) (by first | exact ext_draw _ | assumption) rfl ?_ ?_
  rotate_left
  · intro w' hw'
    refine qat_value ?_
    go_simp
    rfl
  simp only [Act.put, List.setIfInBounds_toArray, List.set_cons_zero, List.set_cons_succ]
  refine wpE_take 8 10 (v := ?_) rfl rfl (by kernel_rfl) (by kernel_rfl) (by kernel_rfl) (fun _ _ _ h => h) (by first | exact ext_draw _ | assumption) rfl ?_ ?_
  rotate_left
  · intro w' hw'
    refine qat_value ?_
    go_simp
    rfl
  simp only [Act.put, List.setIfInBounds_toArray, List.set_cons_zero, List.set_cons_succ]
  refine wpE_done (by kernel_rfl) (fun u5 hu5 => ?_) _
  have hv5 := (ext_draw u).ext_trans hu5
  obtain ⟨r0, r1, r2, _⟩ := HS.out u5 hv5
  clear HOf HNil
  cases hm : mayV (spanI x) (s.size : Nat) with
  | false =>
    have hmo := may_no_out hm
    go_wp2_with fail
    refine (HNo.out u5 hv5 hm).mono ?_
    rintro e u6 ⟨rfl, hx6⟩
    have hv6 := hv5.ext_trans hx6
    have hy6 := hyu.ext_trans hv6
    clear r0 r1 r2 hm hv5 hx6 hu5 HNo HYes
    obtain ⟨r0, r1, r2, _⟩ := HS.out u6 hv6
    by_cases g1 : x.1 < 0
    · go_wp2_with fail
      refine (awake23_any _).mono ?_
      rintro e w11 ⟨rfl, hx11⟩
      go_wp2_with fail
      go_ret
      first
        | exact ⟨rfl, hy6.ext_trans hx11⟩
        | exact ⟨ret_bool (by simp only [decide_eq_false (show ¬ x.1 < 0 by omega), decide_eq_false (show ¬ x.2 < 0 by omega), decide_eq_false (show ¬ (s.size : Int) < x.1 by omega), decide_eq_false (show ¬ (s.size : Int) < x.2 by omega)]; rfl), hy6.ext_trans hx11⟩
    · by_cases g2 : x.2 < 0
      · go_wp2_with fail
        refine (awake23_any _).mono ?_
        rintro e w11 ⟨rfl, hx11⟩
        go_wp2_with fail
        go_ret
        first
          | exact ⟨rfl, hy6.ext_trans hx11⟩
          | exact ⟨ret_bool (by simp only [decide_eq_false (show ¬ x.1 < 0 by omega), decide_eq_false (show ¬ x.2 < 0 by omega), decide_eq_false (show ¬ (s.size : Int) < x.1 by omega), decide_eq_false (show ¬ (s.size : Int) < x.2 by omega)]; rfl), hy6.ext_trans hx11⟩
      · by_cases g3 : (s.size : Int) < x.1
        · go_wp2_with fail
          refine (awake23_any _).mono ?_
          rintro e w11 ⟨rfl, hx11⟩
          go_wp2_with fail
          go_ret
          first
            | exact ⟨rfl, hy6.ext_trans hx11⟩
            | exact ⟨ret_bool (by simp only [decide_eq_false (show ¬ x.1 < 0 by omega), decide_eq_false (show ¬ x.2 < 0 by omega), decide_eq_false (show ¬ (s.size : Int) < x.1 by omega), decide_eq_false (show ¬ (s.size : Int) < x.2 by omega)]; rfl), hy6.ext_trans hx11⟩
        · have g4 : (s.size : Int) < x.2 := by omega
          go_wp2_with fail
          refine (awake23_any _).mono ?_
          rintro e w11 ⟨rfl, hx11⟩
          go_wp2_with fail
          go_ret
          first
            | exact ⟨rfl, hy6.ext_trans hx11⟩
            | exact ⟨ret_bool (by simp only [decide_eq_false (show ¬ x.1 < 0 by omega), decide_eq_false (show ¬ x.2 < 0 by omega), decide_eq_false (show ¬ (s.size : Int) < x.1 by omega), decide_eq_false (show ¬ (s.size : Int) < x.2 by omega)]; rfl), hy6.ext_trans hx11⟩
  | true =>
    obtain ⟨h1, h2, h3, h4⟩ := may_yes_out hm
    have g1 : ¬ x.1 < 0 := by omega
    have g2 : ¬ x.2 < 0 := by omega
    have g3 : ¬ (s.size : Int) < x.1 := by omega
    have g4 : ¬ (s.size : Int) < x.2 := by omega
    go_wp2_with fail
    refine (HYes.out u5 hv5 hm).mono ?_
    rintro e u6 ⟨v, rfl, hov, hx6⟩
    obtain ⟨a1, c1, rfl, _⟩ := ownsS_reads hov
    have hv6 := hv5.ext_trans hx6
    have hy6 := hyu.ext_trans hv6
    have k1 : ((L.length : Int) == 0) = false := by have := Hps.out; simp; intro e; rw [e] at this; exact absurd this (by decide)
    clear r0 r1 r2 hm hv5 hx6 hu5 HNo HYes hov h1 h2 h3 h4
    obtain ⟨r0, r1, r2, _⟩ := HS.out u6 hv6
    go_wp2_with fail
    refine (awake23_any _).mono ?_
    rintro e w11 ⟨rfl, hx11⟩
    go_wp2_with fail
    go_ret
    first
      | exact ⟨rfl, hy6.ext_trans hx11⟩
      | exact ⟨ret_bool (by simp only [decide_eq_false (show ¬ x.1 < 0 by omega), decide_eq_false (show ¬ x.2 < 0 by omega), decide_eq_false (show ¬ (s.size : Int) < x.1 by omega), decide_eq_false (show ¬ (s.size : Int) < x.2 by omega)]; rfl), hy6.ext_trans hx11⟩
set_option maxHeartbeats 800000 in
set_option maxRecDepth 1000000 in
theorem varsNil_calls (w : World) (s : ByteArray) (ws : s.size ≤ 9223372036854775807) (x : Int × Int) (_ : (Lit.int .i64 x.1).wf = true ∧ (Lit.int .i64 x.2).wf = true) (ao : Option Addr) (cap : Nat) (l : List Pv) (hr : Reads w 2 ao l.length (spCells l)) (hl : l.length ≤ maxLen) (_ : ∀ x ∈ l, x.1.size ≤ maxLen ∧ x.2.size ≤ maxLen) :
    Calls Tryd.prog 6 #[.string s, .agg #[.int .i64 x.1, .int .i64 x.2], .slice ao l.length cap] w fun e w' => e = .returned (.bool true) ∧ Ext w w' := by
  by_cases h1 : (50 : Int) < (s.size : Int)
  · go_enter Tryd.func6, Tryd.ntmps6
    go_wp2_with fail
    refine (awake23_any _).mono ?_
    rintro e w1 ⟨rfl, hx⟩
    go_wp2_with fail
    go_ret
    exact ⟨rfl, ((Mod.refl _ w).alloc _).ext_trans hx⟩
  · cases he : envB 8 100 l with
    | true =>
      have hxa : Ext w (w.alloc (.cells #[.int .i64 x.1, .int .i64 x.2] 23)) := (Mod.refl _ w).alloc _
      have henv := env_any 8 100 ao cap l _ (hr.mod hxa (fun _ _ f => f)) (by omega) (by omega) hl (by omega)
      clear hr
      go_enter Tryd.func6, Tryd.ntmps6
      go_wp2_with fail
      refine henv.mono ?_
      rintro e w1 ⟨rfl, hx1⟩
      rw [he]
      go_wp2_with fail
      refine (awake23_any _).mono ?_
      rintro e w2 ⟨rfl, hx2⟩
      go_wp2_with fail
      go_ret
      exact ⟨rfl, hxa.ext_trans (hx1.ext_trans hx2)⟩
    | false => exact varsNil_any w s x ao cap l hr hl (by omega) he
end Go.Proofs.YtmecdhbiinpepaaDoor

/- Any selections go, or are refused, as the document tells: the walk. Conditions: none. -/
import Derived.Test.YtmecdhbiinpepaaGimRef9G
namespace Go.Proofs.Ytmecdhbiinpepaa
open Go.RowKit Go.Gim
theorem goL_len (t : List UInt8) (way : Int) (ext : Bool) (l : List (Int × Int)) : (goL t way ext l).length ≤ l.length := by
  unfold goL
  split
  · have h1 := normL_len t.length ((normL t.length l).map (turned t way ext))
    have h2 := normL_len t.length l
    rw [List.length_map] at h1; omega
  · simp
def lowP (n : Nat) (x : Int × Int) : Int × Int := ((lowN x.1 n : Nat), (lowN x.2 n : Nat))

set_option maxHeartbeats 3200000 in
set_option maxRecDepth 1000000 in
theorem goTells_any (w : World) (s : ByteArray) (way : Int) (ext : Bool) (a0 : Option Addr) (c0 : Nat) (raw : List (Int × Int)) (h0 : Reads w 2 a0 raw.length (prCells raw)) (a1 : Option Addr) (c1 : Nat) (ns : List (Int × Int)) (h1 : Reads w 2 a1 ns.length (prCells ns))
    (hs : s.size ≤ 200) (hr : raw.length ≤ 12) (hn : ns.length ≤ 12) :
    Calls Try.prog 5 #[.string s, .int .i64 way, .bool ext, .slice a0 raw.length c0, .slice a1 ns.length c1] w fun e w' => e = .returned (.bool true) ∧ Ext w w' := by
  have hl1 : maxLen = 9223372036854775807 := rfl
  have j1 : ¬ (200 : Int) < (s.size : Int) := by omega
  have j2 : ¬ (12 : Int) < (raw.length : Int) := by omega
  have j3 : ¬ (12 : Int) < (ns.length : Int) := by omega
  have i1 : decide ((200 : Int) < (s.size : Int)) = false := decide_eq_false j1
  have i2 : decide ((12 : Int) < (raw.length : Int)) = false := decide_eq_false j2
  have i3 : decide ((12 : Int) < (ns.length : Int)) = false := decide_eq_false j3
  have H0 := Lib.hid h0
  have H1 := Lib.hid h1
  obtain ⟨N, hN⟩ : ∃ N, N = ns.length := ⟨_, rfl⟩
  have HN := Lib.hid hN
  rw [← hN] at hn j3 i3 ⊢
  clear h0 h1 hN
  go_enter Try.func5, Try.ntmps5
  go_wp2_with fail
  refine (of9_any s _ (by omega)).mono ?_
  rintro e u1 ⟨R, rfl, hR, htx, hx, _⟩
  have ha' : Ext u1 (u1.alloc (.cells #[.pointer (some ⟨R.rb, 0, none⟩)] 35)) := (Mod.refl _ u1).alloc _
  have hRa := hR.ext ha'
  have hxa := hx.ext_trans ha'
  have hG := fun ao cap l w h1 h2 h3 => go_any R s ao cap l way ext w h1 htx h2 h3
  have hG2 := fun ao cap l k w h1 h2 h3 => go_any R s ao cap l k ext w h1 htx h2 h3
  have HG := Lib.hid hG
  have HG2 := Lib.hid hG2
  clear hG hG2 htx
  go_wp2_with fail
  go_loopw [13, 14] (fun v i wr => ∃ k : Nat, k ≤ N ∧ i = .int .i64 k ∧ Hid (wr.ownsRow (u1.heap.size + 1) 47 2 v k (prCells ((ns.map (lowP (s.size + 1))).take k))) ∧ Ext (u1.alloc (.cells #[.pointer (some ⟨R.rb, 0, none⟩)] 35)) wr) (fun _ i _ => N - (intOf i).toNat)
  case atStart => exact ⟨0, by omega, rfl, Lib.hid (World.ownsRow_nil _ _ _ _), Mod.refl _ _⟩
  case round =>
    obtain ⟨k, hk, rfl, HO, hxr⟩ := hrel
    by_cases hlt : k < N
    · have hlt' : (k : Int) < (N : Int) := by omega
      have hk0 : (0 : Int) ≤ (k : Int) := by omega
      have hlk : k < ns.length := by rw [← HN.out]; exact hlt
      obtain ⟨b1, o1, rfl⟩ := H1.out.some (by omega)
      obtain ⟨q0, q1⟩ := reads_pair (H1.out.mod (hxa.ext_trans hxr) (fun _ _ f => f)) (List.getElem?_eq_getElem hlk)
      have hts : (ns.map (lowP (s.size + 1))).take (k + 1) = (ns.map (lowP (s.size + 1))).take k ++ [(((lowN ns[k].1 (s.size + 1) : Nat) : Int), ((lowN ns[k].2 (s.size + 1) : Nat) : Int))] := by
        rw [List.take_succ_eq_append_getElem (by simpa using hlk), List.getElem_map]; rfl
      have L1 := fun v => low_any ns[k].1 ((s.size : Int) + 1) v (by omega) (by omega)
      have L2 := fun v => low_any ns[k].2 ((s.size : Int) + 1) v (by omega) (by omega)
      rw [show ((s.size : Int) + 1).toNat = s.size + 1 from by omega] at L1 L2
      have Hts := Lib.hid hts
      clear hts
      generalize ns[k] = x at *
      obtain ⟨p, q⟩ := x
      simp only at q0 q1 L1 L2 Hts
      generalize lowN p (s.size + 1) = A at *
      generalize lowN q (s.size + 1) = B at *
      obtain ⟨va, vc, hva, _, _⟩ := ownsRow_shape HO.out
      subst hva
      have hbl := World.block_lt_of_cell? wr _ q0
      go_wp2_with fail
      refine wp_region_ext_tail1 20 (.slice va k vc) _ rfl rfl rfl (by kernel_rfl) (by kernel_rfl) (fun _ _ _ _ h => h) ?_
      simp only [List.take_succ_cons, List.take_zero, List.drop_succ_cons, List.drop_zero, Act.put, List.setIfInBounds_toArray, List.set_cons_zero, List.set_cons_succ, Nat.reduceSub]
      repeat (go_big_quiet_step (first | (with_reducible exact Calls.ext_of_same (L1 _)) | (with_reducible exact Calls.ext_of_same (L2 _))))
      refine wpQuiet_nil ?_
      intro we hxe
      have hxm := hxr.ext_trans hxe
      have Hom := Lib.hid (ownsRow_mod HO.out hxe (fun _ _ f => f))
      clear q0 q1 L1 L2
      go_wp2_with (at_builtin; refine wpList_append_reads rfl _ _ 43 rfl (u1.heap.size + 1) 47 _ 2 16 Try.info47 Try.underlying43 rfl (by decide) _ k _ rfl (Hom.out.alloc _) _ 1 1 [.int .i64 (A : Nat), .int .i64 (B : Nat)] rfl ?_ (two_cells _ _) (by omega) (by omega) ?_ ?_)
      · have := Reads.new we 47 #[.int .i64 (A : Nat), .int .i64 (B : Nat)] 2 1 rfl
        simpa using this
      · have := hxm.size; simp at this ⊢; omega
      · intro v' w7 hown hm7 hbk
        have hx7 := (hxm.alloc (.cells #[.int .i64 (A : Nat), .int .i64 (B : Nat)] 47)).trans hm7 (fun i hi e => by have h1 := (Hom.out.lt i e).1; simp at hi; omega)
        have Hown := Lib.hid hown
        clear hm7 hbk hown hxm
        go_wp2_with fail
        go_roundw
        case rel => exact ⟨k + 1, by omega, by go_num, Lib.hid (by rw [Hts.out, prCells_append]; exact Hown.out), hx7⟩
        case measure => simp [intOf]; omega
    · have hlt' : ¬ (k : Int) < (N : Int) := by omega
      obtain rfl : k = N := by omega
      have HO2 := HO.out
      rw [List.take_of_length_le (by rw [List.length_map, ← HN.out]; exact Nat.le_refl _)] at HO2
      obtain ⟨va, vc, hva, hrv⟩ := owns_reads HO2
      subst hva
      have hLl : (ns.map (lowP (s.size + 1))).length = k := by rw [List.length_map]; exact HN.out.symm
      generalize ns.map (lowP (s.size + 1)) = L at *
      subst hLl
      have Hrv := Lib.hid hrv
      have cb := box_cell hxr
      clear HO HO2 hrv
      go_wp2_with fail
      refine (HG.out a0 c0 raw _ (hRa.ext hxr) (H0.out.mod (hxa.ext_trans hxr) (fun _ _ f => f)) (by omega)).mono ?_
      rintro e w4 ⟨ao4, cp4, rfl, hr4, y4⟩
      have hx4 := hxr.ext_trans y4
      have Hr4 := Lib.hid hr4
      clear hr4 cb
      go_wp2_with fail
      refine (refGo_any s a0 c0 raw way ext _ (by omega) (H0.out.mod (hxa.ext_trans hx4) (fun _ _ f => f)) (by omega)).mono ?_
      rintro e w5 ⟨ao5, cp5, rfl, hr5, y5⟩
      have hx5 := hx4.ext_trans y5
      have Hr5 := Lib.hid hr5
      have Hr4' := Lib.hid (Hr4.out.mod y5 (fun _ _ f => f))
      have cb := box_cell hx5
      clear hr5
      have L3 := fun v => low_any way 10 v (by omega) (by omega)
      rw [show (10 : Int).toNat = 10 from rfl] at L3
      have hm0 : (lowN way 10 : Int) ≤ 10 := by have := lowN_lt way 10 (by omega); omega
      generalize lowN way 10 = m at *
      have HL3 := Lib.hid (fun v => Calls.same_ext (L3 v))
      clear L3
      go_wp2_with fail
      have HS := Lib.hid (fun w' (hw' : Ext w5 w') => (⟨box_cell (hx5.ext_trans hw'), trivial, trivial, trivial⟩ : w'.cell? ⟨u1.heap.size, 0, none⟩ = some (.pointer (some ⟨R.rb, 0, none⟩)) ∧ True ∧ True ∧ True))
      refine wp_region_E (by kernel_rfl) ?_
      refine wpE_take 0 89 (v := ?_) rfl rfl (by kernel_rfl) (by kernel_rfl) (by kernel_rfl) (fun _ _ _ h => h) (by first | exact ext_draw _ | assumption) rfl ?_ ?_
      rotate_left
      · intro w' hw'
        obtain ⟨r0, r1, r2, r3⟩ := HS.out w' hw'
        refine qat_value ?_
        go_simp
        rfl
      simp only [Act.put, List.setIfInBounds_toArray, List.set_cons_zero, List.set_cons_succ]
      refine wpE_take 1 90 (v := ?_) rfl rfl (by kernel_rfl) (by kernel_rfl) (by kernel_rfl) (fun _ _ _ h => h) (by first | exact ext_draw _ | assumption) rfl ?_ ?_
      rotate_left
      · intro w' hw'
        refine qat_value ?_
        go_simp
        rfl
      simp only [Act.put, List.setIfInBounds_toArray, List.set_cons_zero, List.set_cons_succ]
      refine wpE_take 2 91 (v := ?_) rfl rfl (by kernel_rfl) (by kernel_rfl) (by kernel_rfl) (fun _ _ _ h => h) (by first | exact ext_draw _ | assumption) rfl ?_ ?_
      rotate_left
      · intro w' hw'
        refine qat_enter (by go_simp; exact ⟨rfl, rfl⟩) ?_
        exact HL3.out _
      simp only [Act.put, List.setIfInBounds_toArray, List.set_cons_zero, List.set_cons_succ]
      have hwr : IntKind.i64.wrap (1 + (m : Int)) = 1 + (m : Int) := IntWalk.i64_in _ (by omega)
      refine wpE_take 3 92 (v := ?_) rfl rfl (by kernel_rfl) (by kernel_rfl) (by kernel_rfl) (fun _ _ _ h => h) (by first | exact ext_draw _ | assumption) rfl ?_ ?_
      rotate_left
      · intro w' hw'
        refine qat_value ?_
        go_simp
        rfl
      simp only [Act.put, List.setIfInBounds_toArray, List.set_cons_zero, List.set_cons_succ]
      clear hwr
      refine wpE_take 4 93 (v := ?_) rfl rfl (by kernel_rfl) (by kernel_rfl) (by kernel_rfl) (fun _ _ _ h => h) (by first | exact ext_draw _ | assumption) rfl ?_ ?_
      rotate_left
      · intro w' hw'
        refine qat_value ?_
        go_simp
        rfl
      simp only [Act.put, List.setIfInBounds_toArray, List.set_cons_zero, List.set_cons_succ]
      refine wpE_take 5 94 (v := ?_) rfl rfl (by kernel_rfl) (by kernel_rfl) (by kernel_rfl) (fun _ _ _ h => h) (by first | exact ext_draw _ | assumption) rfl ?_ ?_
      rotate_left
      · intro w' hw'
        refine qat_value ?_
        go_simp
        rfl
      simp only [Act.put, List.setIfInBounds_toArray, List.set_cons_zero, List.set_cons_succ]
      refine wpE_call1 6 95 rfl rfl rfl (by kernel_rfl) (fun w' => by go_simp; exact ⟨rfl, rfl⟩) ?_
      intro v1 hv1
      have hv2 := (ext_draw w5).ext_trans hv1
      refine (HG2.out va vc L (1 + (m : Int)) v1 (hRa.ext (hx5.ext_trans hv2)) (Hrv.out.mod ((y4.ext_trans y5).ext_trans hv2) (fun _ _ f => f)) (by omega)).mono ?_
      rintro e w6 ⟨ao6, cp6, rfl, hr6, y6⟩
      refine ⟨_, rfl, hv2.ext_trans y6, ?_⟩
      have hv6 := hv2.ext_trans y6
      simp only [Act.put, List.setIfInBounds_toArray, List.set_cons_zero, List.set_cons_succ]
      refine wpE_take 7 88 (v := ?_) rfl rfl (by kernel_rfl) (by kernel_rfl) (by kernel_rfl) (fun _ _ _ h => h) (by first | exact ext_draw _ | assumption) rfl ?_ ?_
      rotate_left
      · intro w' hw'
        refine qat_value ?_
        go_simp
        rfl
      simp only [Act.put, List.setIfInBounds_toArray, List.set_cons_zero, List.set_cons_succ]
      refine wpE_take 8 96 (v := ?_) rfl rfl (by kernel_rfl) (by kernel_rfl) (by kernel_rfl) (fun _ _ _ h => h) (by first | exact ext_draw _ | assumption) rfl ?_ ?_
      rotate_left
      · intro w' hw'
        refine qat_value ?_
        go_simp
        rfl
      simp only [Act.put, List.setIfInBounds_toArray, List.set_cons_zero, List.set_cons_succ]
      refine wpE_take 9 97 (v := ?_) rfl rfl (by kernel_rfl) (by kernel_rfl) (by kernel_rfl) (fun _ _ _ h => h) (by first | exact ext_draw _ | assumption) rfl ?_ ?_
      rotate_left
      · intro w' hw'
        refine qat_value ?_
        go_simp
        rfl
      simp only [Act.put, List.setIfInBounds_toArray, List.set_cons_zero, List.set_cons_succ]
      refine wpE_take 10 19 (v := ?_) rfl rfl (by kernel_rfl) (by kernel_rfl) (by kernel_rfl) (fun _ _ _ h => h) (by first | exact ext_draw _ | assumption) rfl ?_ ?_
      rotate_left
      · intro w' hw'
        refine qat_value ?_
        go_simp
        rfl
      simp only [Act.put, List.setIfInBounds_toArray, List.set_cons_zero, List.set_cons_succ]
      refine wpE_take 11 20 (v := ?_) rfl rfl (by kernel_rfl) (by kernel_rfl) (by kernel_rfl) (fun _ _ _ h => h) (by first | exact ext_draw _ | assumption) rfl ?_ ?_
      rotate_left
      · intro w' hw'
        refine qat_value ?_
        go_simp
        rfl
      simp only [Act.put, List.setIfInBounds_toArray, List.set_cons_zero, List.set_cons_succ]
      refine wpE_done (by kernel_rfl) (fun u7 hu7 => ?_) _
      have hx7 := hx5.ext_trans (hv6.ext_trans hu7)
      have y7 := (y4.ext_trans y5).ext_trans (hv6.ext_trans hu7)
      have Hr6 := Lib.hid (hr6.mod hu7 (fun _ _ f => f))
      have Hr4 := Lib.hid (Hr4'.out.mod (hv6.ext_trans hu7) (fun _ _ f => f))
      have Hr5' := Lib.hid (Hr5.out.mod (hv6.ext_trans hu7) (fun _ _ f => f))
      clear hr6 hv6 hu7 y6 hv1 hv2 HS cb
      have b1 := goL_len s.data.toList way ext raw
      have b2 := goL_len s.data.toList (1 + (m : Int)) ext L
      generalize goL s.data.toList way ext raw = X1 at *
      generalize goE s.size way raw = E1 at *
      go_wp2_with fail
      refine (HL3.out _).mono ?_
      rintro e w8 ⟨rfl, y8⟩
      go_wp2_with fail
      refine (refGo_any s va vc L (1 + (m : Int)) ext _ (by omega) (Hrv.out.mod (y7.ext_trans y8) (fun _ _ f => f)) (by omega)).mono ?_
      rintro e w9 ⟨ao9, cp9, rfl, hr9, y9⟩
      have Hr9 := Lib.hid hr9
      generalize goL s.data.toList (1 + (m : Int)) ext L = X2 at *
      generalize goE s.size (1 + (m : Int)) L = E2 at *
      have y89 := y8.ext_trans y9
      clear hr9
      go_wp2_with fail
      refine (selsSame ao4 ao5 cp4 cp5 X1 _ (Hr4.out.mod y89 (fun _ _ f => f)) (Hr5'.out.mod y89 (fun _ _ f => f)) (by omega)).mono ?_
      rintro e w10 ⟨rfl, y10⟩
      go_wp2_with fail
      refine (selsSame ao6 ao9 cp6 cp9 X2 _ ((Hr6.out.mod y89 (fun _ _ f => f)).mod y10 (fun _ _ f => f)) (Hr9.out.mod y10 (fun _ _ f => f)) (by omega)).mono ?_
      rintro e w11 ⟨rfl, y11⟩
      go_wp2_with fail
      refine (awake9_any _).mono ?_
      rintro e v3 ⟨rfl, y12⟩
      go_wp2_with fail
      go_ret
      exact ⟨rfl, ((((hxa.ext_trans hx7).ext_trans y89).ext_trans y10).ext_trans y11).ext_trans y12⟩

set_option maxHeartbeats 800000 in
set_option maxRecDepth 1000000 in
theorem goTells_calls (w : World) (s : ByteArray) (ws : s.size ≤ 9223372036854775807) (way : Int) (ww : (Lit.int .i64 way).wf = true) (ext : Bool) (a0 : Option Addr) (c0 : Nat) (raw : List (Int × Int)) (h0 : Reads w 2 a0 raw.length (prCells raw)) (m0 : raw.length ≤ maxLen) (f0 : ∀ x ∈ raw, i64w x.1 ∧ i64w x.2)
    (a1 : Option Addr) (c1 : Nat) (ns : List (Int × Int)) (h1 : Reads w 2 a1 ns.length (prCells ns)) (m1 : ns.length ≤ maxLen) (f1 : ∀ x ∈ ns, i64w x.1 ∧ i64w x.2) :
    Calls Try.prog 5 #[.string s, .int .i64 way, .bool ext, .slice a0 raw.length c0, .slice a1 ns.length c1] w fun e w' => e = .returned (.bool true) ∧ Ext w w' := by
  unfold maxLen at m0 m1
  clear ww f0 f1
  by_cases h2 : s.size ≤ 200
  · by_cases h3 : raw.length ≤ 12
    · by_cases h4 : ns.length ≤ 12
      · exact goTells_any w s way ext a0 c0 raw h0 a1 c1 ns h1 h2 h3 h4
      · have i1 : decide ((200 : Int) < (s.size : Int)) = false := decide_eq_false (by omega)
        have i2 : decide ((12 : Int) < (raw.length : Int)) = false := decide_eq_false (by omega)
        have i3 : decide ((12 : Int) < (ns.length : Int)) = true := decide_eq_true (by omega)
        clear h0 h1
        go_enter Try.func5, Try.ntmps5
        go_wp2_with fail
        refine (awake9_any _).mono ?_
        rintro e w1 ⟨rfl, hx⟩
        go_wp2_with fail
        go_ret
        exact ⟨rfl, hx⟩
    · have i1 : decide ((200 : Int) < (s.size : Int)) = false := decide_eq_false (by omega)
      have i2 : decide ((12 : Int) < (raw.length : Int)) = true := decide_eq_true (by omega)
      clear h0 h1
      go_enter Try.func5, Try.ntmps5
      go_wp2_with fail
      refine (awake9_any _).mono ?_
      rintro e w1 ⟨rfl, hx⟩
      go_wp2_with fail
      go_ret
      exact ⟨rfl, hx⟩
  · have i1 : decide ((200 : Int) < (s.size : Int)) = true := decide_eq_true (by omega)
    clear h0 h1
    go_enter Try.func5, Try.ntmps5
    go_wp2_with fail
    refine (awake9_any _).mono ?_
    rintro e w1 ⟨rfl, hx⟩
    go_wp2_with fail
    go_ret
    exact ⟨rfl, hx⟩
end Go.Proofs.Ytmecdhbiinpepaa

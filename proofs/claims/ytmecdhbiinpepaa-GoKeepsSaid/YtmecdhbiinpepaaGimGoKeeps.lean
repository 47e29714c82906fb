/- Selections that go: with extend each Anchor stays between the ends of one that is told; without, all are carets; they are never more: the walk. Conditions: none. -/
import Derived.Test.YtmecdhbiinpepaaGimGoTells
import Derived.Test.YtmecdhbiinpepaaGimOrderP
namespace Go.Gim
/-- Does a place lie in one of these selections? -/
def hitB (p : Int) (l : List (Int × Int)) : Bool := l.any fun y => decide ((spanI y).1 ≤ p ∧ p ≤ (spanI y).2)
theorem hitB_step {p : Int} {l : List (Int × Int)} {k : Nat} {y : Int × Int} (h : l[k]? = some y) : hitB p (l.take (k + 1)) = (hitB p (l.take k) || decide ((spanI y).1 ≤ p ∧ p ≤ (spanI y).2)) := by
  obtain ⟨hk, rfl⟩ := List.getElem?_eq_some_iff.1 h
  unfold hitB
  rw [List.take_succ_eq_append_getElem hk, List.any_append]; simp
theorem hitB_yes {p : Int} {l : List (Int × Int)} (h : ∃ y ∈ l, (spanI y).1 ≤ p ∧ p ≤ (spanI y).2) : hitB p l = true := by
  obtain ⟨y, hy, hp⟩ := h
  unfold hitB; exact List.any_eq_true.2 ⟨y, hy, decide_eq_true hp⟩
end Go.Gim
namespace Go.Proofs.Ytmecdhbiinpepaa
open Go.RowKit Go.Gim

theorem lowP_norm (n : Nat) (ns : List (Int × Int)) (h0 : 0 < ns.length) (h1 : ns.length ≤ 64) : normE n (ns.map (lowP (n + 1))) = 0 := by
  refine normE_yes (by rw [List.length_map]; exact h0) (by rw [List.length_map]; exact h1) ?_
  intro y hy
  obtain ⟨x, _, rfl⟩ := List.mem_map.1 hy
  rw [mayB_span]
  have a := lowN_lt x.1 (n + 1) (by omega)
  have b := lowN_lt x.2 (n + 1) (by omega)
  unfold lowP; simp only; omega

set_option maxHeartbeats 6400000 in
set_option maxRecDepth 1000000 in
theorem goKeeps_any (w : World) (s : ByteArray) (a1 : Option Addr) (c1 : Nat) (ns : List (Int × Int)) (h1 : Reads w 2 a1 ns.length (prCells ns)) (way : Int) (hs : s.size ≤ 120) (hn0 : 0 < ns.length) (hn : ns.length ≤ 8) :
    Calls Try.prog 10 #[.string s, .slice a1 ns.length c1, .int .i64 way] w fun e w' => e = .returned (.bool true) ∧ Ext w w' := by
  have hl1 : maxLen = 9223372036854775807 := rfl
  have i1 : decide ((120 : Int) < (s.size : Int)) = false := decide_eq_false (by omega)
  have H1 := Lib.hid h1
  have Hnm := Lib.hid (lowP_norm s.size ns hn0 (by omega))
  obtain ⟨N, hN⟩ : ∃ N, N = ns.length := ⟨_, rfl⟩
  have HN := Lib.hid hN
  rw [← hN] at hn hn0 ⊢
  have i2 : ((N : Int) == 0) = false := by simp; omega
  have i3 : decide ((8 : Int) < (N : Int)) = false := decide_eq_false (by omega)
  have j1 : ¬ (8 : Int) < (N : Int) := by omega
  have j2 : ¬ N = 0 := by omega
  clear h1 hN
  go_enter Try.func10, Try.ntmps10
  go_wp2_with fail
  refine (of9_any s _ (by omega)).mono ?_
  rintro e u1 ⟨R, rfl, hR, htx, hx, _⟩
  have ha' : Ext u1 (u1.alloc (.cells #[.pointer (some ⟨R.rb, 0, none⟩)] 35)) := (Mod.refl _ u1).alloc _
  have hRa := hR.ext ha'
  have hxa := hx.ext_trans ha'
  have hG2 := fun ext ao cap l k w h1 h2 h3 => go_any R s ao cap l k ext w h1 htx h2 h3
  have HG2 := Lib.hid hG2
  clear hG2 htx
  go_wp2_with fail
  go_loopw [9, 10] (fun v i wr => ∃ k : Nat, k ≤ N ∧ i = .int .i64 k ∧ Hid (wr.ownsRow (u1.heap.size + 1) 47 2 v k (prCells ((ns.map (lowP (s.size + 1))).take k))) ∧ Ext (u1.alloc (.cells #[.pointer (some ⟨R.rb, 0, none⟩)] 35)) wr) (fun _ i _ => N - (intOf i).toNat)
  case atStart => exact ⟨0, by omega, rfl, Lib.hid (World.ownsRow_nil _ _ _ _), Mod.refl _ _⟩
  case round =>
    obtain ⟨k, hk, rfl, HO, hxr⟩ := hrel
    by_cases hlt : k < N
    · have hlt' : (k : Int) < (N : Int) := by omega
      have hk0 : (0 : Int) ≤ (k : Int) := by omega
      have hlk : k < ns.length := by rw [← HN.out]; exact hlt
      obtain ⟨b1, o1, rfl⟩ := H1.out.some (by omega)
      obtain ⟨q0, q1⟩ := reads_pair (H1.out.mod (hxa.ext_trans hxr) (fun _ _ f => f)) (List.getElem?_eq_getElem hlk)
      have hts : (ns.map (lowP (s.size + 1))).take (k + 1) = (ns.map (lowP (s.size + 1))).take k ++ [(((lowN ns[k].1 (s.size + 1) : Nat) : Int), ((lowN ns[k].2 (s.size + 1) : Nat) : Int))] := by
        rw [List.take_succ_eq_append_getElem (by simpa using hlk), List.getElem_map]; rfl
      have L1 := fun v => low_any ns[k].1 ((s.size : Int) + 1) v (by omega) (by omega)
      have L2 := fun v => low_any ns[k].2 ((s.size : Int) + 1) v (by omega) (by omega)
      rw [show ((s.size : Int) + 1).toNat = s.size + 1 from by omega] at L1 L2
      have Hts := Lib.hid hts
      clear hts
      generalize ns[k] = x at *
      obtain ⟨p, q⟩ := x
      simp only at q0 q1 L1 L2 Hts
      generalize lowN p (s.size + 1) = A at *
      generalize lowN q (s.size + 1) = B at *
      obtain ⟨va, vc, hva, _, _⟩ := ownsRow_shape HO.out
      subst hva
      have hbl := World.block_lt_of_cell? wr _ q0
      go_wp2_with fail
      refine wp_region_ext_tail1 20 (.slice va k vc) _ rfl rfl rfl (by kernel_rfl) (by kernel_rfl) (fun _ _ _ _ h => h) ?_
      simp only [List.take_succ_cons, List.take_zero, List.drop_succ_cons, List.drop_zero, Act.put, List.setIfInBounds_toArray, List.set_cons_zero, List.set_cons_succ, Nat.reduceSub]
      repeat (go_big_quiet_step (first | (with_reducible exact Calls.ext_of_same (L1 _)) | (with_reducible exact Calls.ext_of_same (L2 _))))
      refine wpQuiet_nil ?_
      intro we hxe
      have hxm := hxr.ext_trans hxe
      have Hom := Lib.hid (ownsRow_mod HO.out hxe (fun _ _ f => f))
      clear q0 q1 L1 L2
      go_wp2_with (at_builtin; refine wpList_append_reads rfl _ _ 43 rfl (u1.heap.size + 1) 47 _ 2 16 Try.info47 Try.underlying43 rfl (by decide) _ k _ rfl (Hom.out.alloc _) _ 1 1 [.int .i64 (A : Nat), .int .i64 (B : Nat)] rfl ?_ (two_cells _ _) (by omega) (by omega) ?_ ?_)
      · have := Reads.new we 47 #[.int .i64 (A : Nat), .int .i64 (B : Nat)] 2 1 rfl
        simpa using this
      · have := hxm.size; simp at this ⊢; omega
      · intro v' w7 hown hm7 hbk
        have hx7 := (hxm.alloc (.cells #[.int .i64 (A : Nat), .int .i64 (B : Nat)] 47)).trans hm7 (fun i hi e => by have h1 := (Hom.out.lt i e).1; simp at hi; omega)
        have Hown := Lib.hid hown
        clear hm7 hbk hown hxm
        go_wp2_with fail
        go_roundw
        case rel => exact ⟨k + 1, by omega, by go_num, Lib.hid (by rw [Hts.out, prCells_append]; exact Hown.out), hx7⟩
        case measure => simp [intOf]; omega
    · have hlt' : ¬ (k : Int) < (N : Int) := by omega
      obtain rfl : k = N := by omega
      have HO2 := HO.out
      rw [List.take_of_length_le (by rw [List.length_map, ← HN.out]; exact Nat.le_refl _)] at HO2
      obtain ⟨va, vc, hva, hrv⟩ := owns_reads HO2
      subst hva
      have hLl : (ns.map (lowP (s.size + 1))).length = k := by rw [List.length_map]; exact HN.out.symm
      generalize ns.map (lowP (s.size + 1)) = L0 at *
      subst hLl
      have hno := Lib.hid (norm_any s.size va vc L0 wr hrv (by omega))
      have L3 := fun v => low_any way 10 v (by omega) (by omega)
      rw [show (10 : Int).toNat = 10 from rfl] at L3
      have hm0 : (lowN way 10 : Int) < 10 := by have := lowN_lt way 10 (by omega); omega
      generalize lowN way 10 = m at *
      have HL3 := Lib.hid (fun v => Calls.same_ext (L3 v))
      have Hk := Lib.hid (go_keeps (t := s.data.toList) (way := 1 + (m : Int)) (l := L0) (by omega) (by omega) (by rw [toList_length]; exact Hnm.out))
      have hln := normL_len s.size L0
      clear HO HO2 hrv L3
      go_wp2_with fail
      refine hno.out.mono ?_
      rintro e w4 ⟨v4, rfl, hown4, y4⟩
      rw [Hnm.out]
      rw [toList_length] at Hk
      generalize normL s.size L0 = L at *
      obtain ⟨ao4, cp4, rfl, hr4⟩ := owns_reads hown4
      have Hr4 := Lib.hid hr4
      have hx4 := hxr.ext_trans y4
      clear hr4 hown4
      have hy4 := Mod.refl (fun _ => False) w4
      go_wp2_with fail
      have HS := Lib.hid (fun w' (hw' : Ext w4 w') => (⟨box_cell (hx4.ext_trans hw'), trivial, trivial, trivial⟩ : w'.cell? ⟨u1.heap.size, 0, none⟩ = some (.pointer (some ⟨R.rb, 0, none⟩)) ∧ True ∧ True ∧ True))
      refine wp_region_E (by kernel_rfl) ?_
      refine wpE_take 0 78 (v := ?_) rfl rfl (by kernel_rfl) (by kernel_rfl) (by kernel_rfl) (fun _ _ _ h => h) (by first | exact ext_draw _ | assumption) rfl ?_ ?_
      rotate_left
      · intro w' hw'
        obtain ⟨r0, r1, r2, r3⟩ := HS.out w' hw'
        refine qat_value ?_
        go_simp
        rfl
      simp only [Act.put, List.setIfInBounds_toArray, List.set_cons_zero, List.set_cons_succ]
      refine wpE_take 1 79 (v := ?_) rfl rfl (by kernel_rfl) (by kernel_rfl) (by kernel_rfl) (fun _ _ _ h => h) (by first | exact ext_draw _ | assumption) rfl ?_ ?_
      rotate_left
      · intro w' hw'
        refine qat_value ?_
        go_simp
        rfl
      simp only [Act.put, List.setIfInBounds_toArray, List.set_cons_zero, List.set_cons_succ]
      refine wpE_take 2 80 (v := ?_) rfl rfl (by kernel_rfl) (by kernel_rfl) (by kernel_rfl) (fun _ _ _ h => h) (by first | exact ext_draw _ | assumption) rfl ?_ ?_
      rotate_left
      · intro w' hw'
        refine qat_enter (by go_simp; exact ⟨rfl, rfl⟩) ?_
        exact HL3.out _
      simp only [Act.put, List.setIfInBounds_toArray, List.set_cons_zero, List.set_cons_succ]
      have hwr : IntKind.i64.wrap (1 + (m : Int)) = 1 + (m : Int) := IntWalk.i64_in _ (by omega)
      refine wpE_take 3 81 (v := ?_) rfl rfl (by kernel_rfl) (by kernel_rfl) (by kernel_rfl) (fun _ _ _ h => h) (by first | exact ext_draw _ | assumption) rfl ?_ ?_
      rotate_left
      · intro w' hw'
        refine qat_value ?_
        go_simp
        rfl
      simp only [Act.put, List.setIfInBounds_toArray, List.set_cons_zero, List.set_cons_succ]
      clear hwr
      refine wpE_take 4 82 (v := ?_) rfl rfl (by kernel_rfl) (by kernel_rfl) (by kernel_rfl) (fun _ _ _ h => h) (by first | exact ext_draw _ | assumption) rfl ?_ ?_
      rotate_left
      · intro w' hw'
        refine qat_value ?_
        go_simp
        rfl
      simp only [Act.put, List.setIfInBounds_toArray, List.set_cons_zero, List.set_cons_succ]
      refine wpE_call1 5 83 rfl rfl rfl (by kernel_rfl) (fun w' => by go_simp; exact ⟨rfl, rfl⟩) ?_
      intro v1 hv1
      have hv2 := (ext_draw w4).ext_trans hv1
      refine (HG2.out true ao4 cp4 L (1 + (m : Int)) v1 (hRa.ext (hx4.ext_trans hv2)) (Hr4.out.mod (hy4.ext_trans hv2) (fun _ _ f => f)) (by omega)).mono ?_
      rintro e w6 ⟨ao5, cp5, rfl, hr6, y6⟩
      refine ⟨_, rfl, hv2.ext_trans y6, ?_⟩
      have hv6 := hv2.ext_trans y6
      simp only [Act.put, List.setIfInBounds_toArray, List.set_cons_zero, List.set_cons_succ]
      refine wpE_take 6 77 (v := ?_) rfl rfl (by kernel_rfl) (by kernel_rfl) (by kernel_rfl) (fun _ _ _ h => h) (by first | exact ext_draw _ | assumption) rfl ?_ ?_
      rotate_left
      · intro w' hw'
        refine qat_value ?_
        go_simp
        rfl
      simp only [Act.put, List.setIfInBounds_toArray, List.set_cons_zero, List.set_cons_succ]
      refine wpE_take 7 84 (v := ?_) rfl rfl (by kernel_rfl) (by kernel_rfl) (by kernel_rfl) (fun _ _ _ h => h) (by first | exact ext_draw _ | assumption) rfl ?_ ?_
      rotate_left
      · intro w' hw'
        refine qat_value ?_
        go_simp
        rfl
      simp only [Act.put, List.setIfInBounds_toArray, List.set_cons_zero, List.set_cons_succ]
      refine wpE_take 8 85 (v := ?_) rfl rfl (by kernel_rfl) (by kernel_rfl) (by kernel_rfl) (fun _ _ _ h => h) (by first | exact ext_draw _ | assumption) rfl ?_ ?_
      rotate_left
      · intro w' hw'
        refine qat_value ?_
        go_simp
        rfl
      simp only [Act.put, List.setIfInBounds_toArray, List.set_cons_zero, List.set_cons_succ]
      refine wpE_take 9 13 (v := ?_) rfl rfl (by kernel_rfl) (by kernel_rfl) (by kernel_rfl) (fun _ _ _ h => h) (by first | exact ext_draw _ | assumption) rfl ?_ ?_
      rotate_left
      · intro w' hw'
        refine qat_value ?_
        go_simp
        rfl
      simp only [Act.put, List.setIfInBounds_toArray, List.set_cons_zero, List.set_cons_succ]
      refine wpE_take 10 14 (v := ?_) rfl rfl (by kernel_rfl) (by kernel_rfl) (by kernel_rfl) (fun _ _ _ h => h) (by first | exact ext_draw _ | assumption) rfl ?_ ?_
      rotate_left
      · intro w' hw'
        refine qat_value ?_
        go_simp
        rfl
      simp only [Act.put, List.setIfInBounds_toArray, List.set_cons_zero, List.set_cons_succ]
      refine wpE_done (by kernel_rfl) (fun w5 hu7 => ?_) _
      have hx5 := hx4.ext_trans (hv6.ext_trans hu7)
      have hy5 := hy4.ext_trans (hv6.ext_trans hu7)
      have hz5 := hv6.ext_trans hu7
      have Hr5 := Lib.hid (hr6.mod hu7 (fun _ _ f => f))
      clear hr6 hv6 hu7 y6 hv1 hv2 HS
      go_wp2_with fail
      have HS := Lib.hid (fun w' (hw' : Ext w5 w') => (⟨box_cell (hx5.ext_trans hw'), trivial, trivial, trivial⟩ : w'.cell? ⟨u1.heap.size, 0, none⟩ = some (.pointer (some ⟨R.rb, 0, none⟩)) ∧ True ∧ True ∧ True))
      refine wp_region_E (by kernel_rfl) ?_
      refine wpE_take 0 87 (v := ?_) rfl rfl (by kernel_rfl) (by kernel_rfl) (by kernel_rfl) (fun _ _ _ h => h) (by first | exact ext_draw _ | assumption) rfl ?_ ?_
      rotate_left
      · intro w' hw'
        obtain ⟨r0, r1, r2, r3⟩ := HS.out w' hw'
        refine qat_value ?_
        go_simp
        rfl
      simp only [Act.put, List.setIfInBounds_toArray, List.set_cons_zero, List.set_cons_succ]
      refine wpE_take 1 88 (v := ?_) rfl rfl (by kernel_rfl) (by kernel_rfl) (by kernel_rfl) (fun _ _ _ h => h) (by first | exact ext_draw _ | assumption) rfl ?_ ?_
      rotate_left
      · intro w' hw'
        refine qat_value ?_
        go_simp
        rfl
      simp only [Act.put, List.setIfInBounds_toArray, List.set_cons_zero, List.set_cons_succ]
      refine wpE_take 2 89 (v := ?_) rfl rfl (by kernel_rfl) (by kernel_rfl) (by kernel_rfl) (fun _ _ _ h => h) (by first | exact ext_draw _ | assumption) rfl ?_ ?_
      rotate_left
      · intro w' hw'
        refine qat_enter (by go_simp; exact ⟨rfl, rfl⟩) ?_
        exact HL3.out _
      simp only [Act.put, List.setIfInBounds_toArray, List.set_cons_zero, List.set_cons_succ]
      have hwr : IntKind.i64.wrap (1 + (m : Int)) = 1 + (m : Int) := IntWalk.i64_in _ (by omega)
      refine wpE_take 3 90 (v := ?_) rfl rfl (by kernel_rfl) (by kernel_rfl) (by kernel_rfl) (fun _ _ _ h => h) (by first | exact ext_draw _ | assumption) rfl ?_ ?_
      rotate_left
      · intro w' hw'
        refine qat_value ?_
        go_simp
        rfl
      simp only [Act.put, List.setIfInBounds_toArray, List.set_cons_zero, List.set_cons_succ]
      clear hwr
      refine wpE_take 4 91 (v := ?_) rfl rfl (by kernel_rfl) (by kernel_rfl) (by kernel_rfl) (fun _ _ _ h => h) (by first | exact ext_draw _ | assumption) rfl ?_ ?_
      rotate_left
      · intro w' hw'
        refine qat_value ?_
        go_simp
        rfl
      simp only [Act.put, List.setIfInBounds_toArray, List.set_cons_zero, List.set_cons_succ]
      refine wpE_call1 5 92 rfl rfl rfl (by kernel_rfl) (fun w' => by go_simp; exact ⟨rfl, rfl⟩) ?_
      intro v1 hv1
      have hv2 := (ext_draw w5).ext_trans hv1
      refine (HG2.out false ao4 cp4 L (1 + (m : Int)) v1 (hRa.ext (hx5.ext_trans hv2)) (Hr4.out.mod (hy5.ext_trans hv2) (fun _ _ f => f)) (by omega)).mono ?_
      rintro e w6 ⟨ao7, cp7, rfl, hr6, y6⟩
      refine ⟨_, rfl, hv2.ext_trans y6, ?_⟩
      have hv6 := hv2.ext_trans y6
      simp only [Act.put, List.setIfInBounds_toArray, List.set_cons_zero, List.set_cons_succ]
      refine wpE_take 6 86 (v := ?_) rfl rfl (by kernel_rfl) (by kernel_rfl) (by kernel_rfl) (fun _ _ _ h => h) (by first | exact ext_draw _ | assumption) rfl ?_ ?_
      rotate_left
      · intro w' hw'
        refine qat_value ?_
        go_simp
        rfl
      simp only [Act.put, List.setIfInBounds_toArray, List.set_cons_zero, List.set_cons_succ]
      refine wpE_take 7 93 (v := ?_) rfl rfl (by kernel_rfl) (by kernel_rfl) (by kernel_rfl) (fun _ _ _ h => h) (by first | exact ext_draw _ | assumption) rfl ?_ ?_
      rotate_left
      · intro w' hw'
        refine qat_value ?_
        go_simp
        rfl
      simp only [Act.put, List.setIfInBounds_toArray, List.set_cons_zero, List.set_cons_succ]
      refine wpE_take 8 94 (v := ?_) rfl rfl (by kernel_rfl) (by kernel_rfl) (by kernel_rfl) (fun _ _ _ h => h) (by first | exact ext_draw _ | assumption) rfl ?_ ?_
      rotate_left
      · intro w' hw'
        refine qat_value ?_
        go_simp
        rfl
      simp only [Act.put, List.setIfInBounds_toArray, List.set_cons_zero, List.set_cons_succ]
      refine wpE_take 9 15 (v := ?_) rfl rfl (by kernel_rfl) (by kernel_rfl) (by kernel_rfl) (fun _ _ _ h => h) (by first | exact ext_draw _ | assumption) rfl ?_ ?_
      rotate_left
      · intro w' hw'
        refine qat_value ?_
        go_simp
        rfl
      simp only [Act.put, List.setIfInBounds_toArray, List.set_cons_zero, List.set_cons_succ]
      refine wpE_take 10 16 (v := ?_) rfl rfl (by kernel_rfl) (by kernel_rfl) (by kernel_rfl) (fun _ _ _ h => h) (by first | exact ext_draw _ | assumption) rfl ?_ ?_
      rotate_left
      · intro w' hw'
        refine qat_value ?_
        go_simp
        rfl
      simp only [Act.put, List.setIfInBounds_toArray, List.set_cons_zero, List.set_cons_succ]
      refine wpE_done (by kernel_rfl) (fun w7 hu7 => ?_) _
      have hx7 := hx5.ext_trans (hv6.ext_trans hu7)
      have hy7 := hy5.ext_trans (hv6.ext_trans hu7)
      have hz7 := hv6.ext_trans hu7
      have Hr7 := Lib.hid (hr6.mod hu7 (fun _ _ f => f))
      clear hr6 hv6 hu7 y6 hv1 hv2 HS
      have hgE := Hk.out.1
      have hA1 := Hk.out.2.1 true
      have hB1 := Hk.out.2.1 false
      have Hcov := Lib.hid Hk.out.2.2.1
      have Hcar := Lib.hid Hk.out.2.2.2
      rw [hgE]
      clear Hk hgE HG2
      generalize goL s.data.toList (1 + (m : Int)) true L = A at *
      generalize goL s.data.toList (1 + (m : Int)) false L = B at *
      obtain ⟨nA, hnA⟩ : ∃ n, n = A.length := ⟨_, rfl⟩
      obtain ⟨nB, hnB⟩ : ∃ n, n = B.length := ⟨_, rfl⟩
      obtain ⟨nL, hnL⟩ : ∃ n, n = L.length := ⟨_, rfl⟩
      rw [← hnA, ← hnL] at hA1
      rw [← hnB, ← hnL] at hB1
      rw [← hnL] at hln
      have HnA := Lib.hid hnA
      have HnB := Lib.hid hnB
      have HnL := Lib.hid hnL
      rw [← hnA, ← hnB, ← hnL]
      obtain ⟨p1, p2⟩ := hA1
      obtain ⟨p3, p4⟩ := hB1
      have t1 : ((nA : Int) == 0) = false := by simp; omega
      have t2 : ((nB : Int) == 0) = false := by simp; omega
      have t3 : decide ((nL : Int) < (nA : Int)) = false := decide_eq_false (by omega)
      have t4 : decide ((nL : Int) < (nB : Int)) = false := decide_eq_false (by omega)
      have t5 : ¬ nA = 0 := by omega
      have t6 : ¬ nB = 0 := by omega
      have t7 : ¬ nL < nA := by omega
      have t8 : ¬ nL < nB := by omega
      clear hnA hnB hnL HL3 hno
      go_wp2_with fail
      go_loopw [17] (fun s17 wr => ∃ i : Nat, i ≤ nL ∧ s17 = .int .i64 i ∧ Ext w7 wr) (fun s17 _ => nL - (intOf s17).toNat)
      case atStart => exact ⟨0, by omega, rfl, Mod.refl _ _⟩
      case round =>
        obtain ⟨i, hi, rfl, hxo⟩ := hrel
        by_cases hil : i < nL
        · have hil' : (i : Int) < (nL : Int) := by omega
          have hi0 : (0 : Int) ≤ (i : Int) := by omega
          have hLi : i < L.length := by rw [← HnL.out]; exact hil
          obtain ⟨b4, o4, rfl⟩ := Hr4.out.some (by omega)
          have HLi := Lib.hid (List.getElem?_eq_getElem hLi)
          have Hcv := Lib.hid (hitB_yes (Hcov.out _ (List.getElem_mem hLi)))
          generalize L[i] = x at *
          obtain ⟨p, x2⟩ := x
          simp only at Hcv
          clear hLi
          go_wp2_with fail
          go_loopw [18, 19] (fun s18 s19 wi => ∃ k : Nat, k ≤ nA ∧ s19 = .int .i64 k ∧ s18 = .bool (hitB p (A.take k)) ∧ Ext w7 wi) (fun _ s19 _ => nA - (intOf s19).toNat)
          case atStart => exact ⟨0, by omega, rfl, rfl, hxo⟩
          case round =>
            obtain ⟨k, hk, rfl, rfl, hxi⟩ := hrel
            by_cases hkl : k < nA
            · have hkl' : (k : Int) < (nA : Int) := by omega
              have hk0 : (0 : Int) ≤ (k : Int) := by omega
              have hAk : k < A.length := by rw [← HnA.out]; exact hkl
              have HK := Lib.hid (hitB_step (p := p) (List.getElem?_eq_getElem hAk))
              obtain ⟨b5, o5, rfl⟩ := Hr5.out.some (by omega)
              obtain ⟨d0, d1⟩ := reads_pair (Hr5.out.mod (hz7.ext_trans hxi) (fun _ _ f => f)) (List.getElem?_eq_getElem hAk)
              obtain ⟨q0, q1⟩ := reads_pair (Hr4.out.mod (hy7.ext_trans hxi) (fun _ _ f => f)) HLi.out
              generalize A[k] = y at *
              obtain ⟨a, b⟩ := y
              simp only at d0 d1 q0
              clear hAk q1
              cases hb : hitB p (A.take k) with
              | true =>
                have HK2 := Lib.hid (show hitB p (A.take (k + 1)) = true by rw [HK.out, hb]; rfl)
                go_wp2_with fail
                go_quiet (fail)
                go_wp2_with fail
                go_roundw
                case rel => exact ⟨k + 1, by omega, by go_num, by rw [HK2.out], hxi.drewN _⟩
                case measure => simp [intOf]; omega
              | false =>
                rw [hb, Bool.false_or] at HK
                by_cases h1 : a < b
                · have g1 : ¬ b < a := by omega
                  have g2 : ¬ b ≤ a := by omega
                  have g3 : a ≤ b := by omega
                  have hsp : spanI (a, b) = (a, b) := by unfold spanI; rw [Prod.mk.injEq]; omega
                  rw [hsp] at HK
                  clear hsp
                  by_cases c1 : a ≤ p
                  · by_cases c2 : p ≤ b
                    · have HK2 := Lib.hid (show hitB p (A.take (k + 1)) = true by rw [HK.out]; simp; omega)
                      have b1 : decide (a ≤ p) = true := decide_eq_true c1
                      have b2 : decide (p ≤ b) = true := decide_eq_true c2
                      go_wp2_with fail
                      go_quiet (fail)
                      go_wp2_with fail
                      go_roundw
                      case rel => exact ⟨k + 1, by omega, by go_num, by rw [HK2.out], hxi.drewN _⟩
                      case measure => simp [intOf]; omega
                    · have HK2 := Lib.hid (show hitB p (A.take (k + 1)) = false by rw [HK.out, decide_eq_false_iff_not]; omega)
                      have b1 : decide (a ≤ p) = true := decide_eq_true c1
                      have b2 : decide (p ≤ b) = false := decide_eq_false c2
                      go_wp2_with fail
                      go_quiet (fail)
                      go_wp2_with fail
                      go_roundw
                      case rel => exact ⟨k + 1, by omega, by go_num, by rw [HK2.out], hxi.drewN _⟩
                      case measure => simp [intOf]; omega
                  · have HK2 := Lib.hid (show hitB p (A.take (k + 1)) = false by rw [HK.out, decide_eq_false_iff_not]; omega)
                    have b1 : decide (a ≤ p) = false := decide_eq_false c1
                    go_wp2_with fail
                    go_quiet (fail)
                    go_wp2_with fail
                    go_roundw
                    case rel => exact ⟨k + 1, by omega, by go_num, by rw [HK2.out], hxi.drewN _⟩
                    case measure => simp [intOf]; omega
                · by_cases h2 : a = b
                  · subst h2
                    have g1 : a ≤ a := Int.le_refl _
                    have hsp : spanI (a, a) = (a, a) := by unfold spanI; rw [Prod.mk.injEq]; omega
                    rw [hsp] at HK
                    clear hsp
                    by_cases c1 : a ≤ p
                    · by_cases c2 : p ≤ a
                      · have HK2 := Lib.hid (show hitB p (A.take (k + 1)) = true by rw [HK.out]; simp; omega)
                        have b1 : decide (a ≤ p) = true := decide_eq_true c1
                        have b2 : decide (p ≤ a) = true := decide_eq_true c2
                        go_wp2_with fail
                        go_quiet (fail)
                        go_wp2_with fail
                        go_roundw
                        case rel => exact ⟨k + 1, by omega, by go_num, by rw [HK2.out], hxi.drewN _⟩
                        case measure => simp [intOf]; omega
                      · have HK2 := Lib.hid (show hitB p (A.take (k + 1)) = false by rw [HK.out, decide_eq_false_iff_not]; omega)
                        have b1 : decide (a ≤ p) = true := decide_eq_true c1
                        have b2 : decide (p ≤ a) = false := decide_eq_false c2
                        go_wp2_with fail
                        go_quiet (fail)
                        go_wp2_with fail
                        go_roundw
                        case rel => exact ⟨k + 1, by omega, by go_num, by rw [HK2.out], hxi.drewN _⟩
                        case measure => simp [intOf]; omega
                    · have HK2 := Lib.hid (show hitB p (A.take (k + 1)) = false by rw [HK.out, decide_eq_false_iff_not]; omega)
                      have b1 : decide (a ≤ p) = false := decide_eq_false c1
                      go_wp2_with fail
                      go_quiet (fail)
                      go_wp2_with fail
                      go_roundw
                      case rel => exact ⟨k + 1, by omega, by go_num, by rw [HK2.out], hxi.drewN _⟩
                      case measure => simp [intOf]; omega
                  · have g1 : b < a := by omega
                    have g2 : b ≤ a := by omega
                    have g3 : ¬ a ≤ b := by omega
                    have hsp : spanI (a, b) = (b, a) := by unfold spanI; rw [Prod.mk.injEq]; omega
                    rw [hsp] at HK
                    clear hsp
                    by_cases c1 : b ≤ p
                    · by_cases c2 : p ≤ a
                      · have HK2 := Lib.hid (show hitB p (A.take (k + 1)) = true by rw [HK.out]; simp; omega)
                        have b1 : decide (b ≤ p) = true := decide_eq_true c1
                        have b2 : decide (p ≤ a) = true := decide_eq_true c2
                        go_wp2_with fail
                        go_quiet (fail)
                        go_wp2_with fail
                        go_roundw
                        case rel => exact ⟨k + 1, by omega, by go_num, by rw [HK2.out], hxi.drewN _⟩
                        case measure => simp [intOf]; omega
                      · have HK2 := Lib.hid (show hitB p (A.take (k + 1)) = false by rw [HK.out, decide_eq_false_iff_not]; omega)
                        have b1 : decide (b ≤ p) = true := decide_eq_true c1
                        have b2 : decide (p ≤ a) = false := decide_eq_false c2
                        go_wp2_with fail
                        go_quiet (fail)
                        go_wp2_with fail
                        go_roundw
                        case rel => exact ⟨k + 1, by omega, by go_num, by rw [HK2.out], hxi.drewN _⟩
                        case measure => simp [intOf]; omega
                    · have HK2 := Lib.hid (show hitB p (A.take (k + 1)) = false by rw [HK.out, decide_eq_false_iff_not]; omega)
                      have b1 : decide (b ≤ p) = false := decide_eq_false c1
                      go_wp2_with fail
                      go_quiet (fail)
                      go_wp2_with fail
                      go_roundw
                      case rel => exact ⟨k + 1, by omega, by go_num, by rw [HK2.out], hxi.drewN _⟩
                      case measure => simp [intOf]; omega
            · have hkl' : ¬ (k : Int) < (nA : Int) := by omega
              obtain rfl : k = nA := by omega
              have hh : hitB p (A.take k) = true := by rw [List.take_of_length_le (by rw [← HnA.out]; exact Nat.le_refl _)]; exact Hcv.out
              go_wp2_with fail
              go_roundw
              case rel => exact ⟨i + 1, by omega, by go_num, hxi⟩
              case measure => simp [intOf]; omega
        · have hil' : ¬ (i : Int) < (nL : Int) := by omega
          go_wp2_with fail
          go_loopw [20] (fun s20 wr => ∃ k : Nat, k ≤ nB ∧ s20 = .int .i64 k ∧ Ext w7 wr) (fun s20 _ => nB - (intOf s20).toNat)
          case atStart => exact ⟨0, by omega, rfl, hxo⟩
          case round =>
            obtain ⟨k, hk, rfl, hxb⟩ := hrel
            by_cases hkl : k < nB
            · have hkl' : (k : Int) < (nB : Int) := by omega
              have hk0 : (0 : Int) ≤ (k : Int) := by omega
              have hBk : k < B.length := by rw [← HnB.out]; exact hkl
              obtain ⟨b7, o7, rfl⟩ := Hr7.out.some (by omega)
              obtain ⟨d0, d1⟩ := reads_pair (Hr7.out.mod hxb (fun _ _ f => f)) (List.getElem?_eq_getElem hBk)
              rw [← Hcar.out _ (List.getElem_mem hBk)] at d1
              generalize B[k] = y at *
              obtain ⟨a, b⟩ := y
              simp only at d0 d1
              clear hBk
              go_wp2_with fail
              go_quiet (fail)
              go_wp2_with fail
              go_roundw
              case rel => exact ⟨k + 1, by omega, by go_num, hxb.drewN _⟩
              case measure => simp [intOf]; omega
            · have hkl' : ¬ (k : Int) < (nB : Int) := by omega
              go_wp2_with fail
              refine (awake9_any _).mono ?_
              rintro e v3 ⟨rfl, y12⟩
              go_wp2_with fail
              go_ret
              exact ⟨rfl, ((hxa.ext_trans hx7).ext_trans hxb).ext_trans y12⟩

set_option maxHeartbeats 800000 in
set_option maxRecDepth 1000000 in
theorem goKeeps_calls (w : World) (s : ByteArray) (ws : s.size ≤ 9223372036854775807) (a1 : Option Addr) (c1 : Nat) (ns : List (Int × Int)) (h1 : Reads w 2 a1 ns.length (prCells ns)) (m1 : ns.length ≤ maxLen) (f1 : ∀ x ∈ ns, i64w x.1 ∧ i64w x.2) (way : Int) (ww : (Lit.int .i64 way).wf = true) :
    Calls Try.prog 10 #[.string s, .slice a1 ns.length c1, .int .i64 way] w fun e w' => e = .returned (.bool true) ∧ Ext w w' := by
  unfold maxLen at m1
  clear ww f1
  by_cases h2 : s.size ≤ 120
  · have i1 : decide ((120 : Int) < (s.size : Int)) = false := decide_eq_false (by omega)
    by_cases h3 : ns.length = 0
    · have i2 : ((ns.length : Int) == 0) = true := by simp [h3]
      rw [h3]
      clear h1 h3 i2
      go_enter Try.func10, Try.ntmps10
      go_wp2_with fail
      refine (awake9_any _).mono ?_
      rintro e w1 ⟨rfl, hx⟩
      go_wp2_with fail
      go_ret
      exact ⟨rfl, hx⟩
    · by_cases h4 : ns.length ≤ 8
      · exact goKeeps_any w s a1 c1 ns h1 way h2 (by omega) h4
      · have i2 : ((ns.length : Int) == 0) = false := by simp; exact fun h => h3 (by rw [h]; rfl)
        have i3 : decide ((8 : Int) < (ns.length : Int)) = true := decide_eq_true (by omega)
        have j1 : ¬ ns.length = 0 := h3
        clear h1
        go_enter Try.func10, Try.ntmps10
        go_wp2_with fail
        refine (awake9_any _).mono ?_
        rintro e w1 ⟨rfl, hx⟩
        go_wp2_with fail
        go_ret
        exact ⟨rfl, hx⟩
  · have i1 : decide ((120 : Int) < (s.size : Int)) = true := decide_eq_true (by omega)
    clear h1
    go_enter Try.func10, Try.ntmps10
    go_wp2_with fail
    refine (awake9_any _).mono ?_
    rintro e w1 ⟨rfl, hx⟩
    go_wp2_with fail
    go_ret
    exact ⟨rfl, hx⟩
end Go.Proofs.Ytmecdhbiinpepaa

/- Two ropes by different dice answer the same to the same deeds: the walk. Conditions: none. -/
import Derived.Test.YtbcjlbapgidhiaaGimTwo
namespace Go.Proofs.Ytbcjlbapgidhiaa
open Go.RowKit Go.Gim

theorem low_nat' (x : Int) (n : Nat) (m : Int) (hm : m = n) (h1 : 1 ≤ n) (h2 : n ≤ 1000000) : ∃ p : Nat, p < n ∧ ∀ v, Calls Try.prog 30 #[.int .i64 x, .int .i64 m] v fun e w' => e = .returned (.int .i64 (p : Nat)) ∧ w' = v := by
  subst hm
  refine ⟨lowN x n, lowN_lt x n (by omega), fun v => ?_⟩
  have h := low_any x n v (by omega) (by omega)
  rwa [Int.toNat_natCast] at h

set_option maxHeartbeats 6400000 in
set_option maxRecDepth 1000000 in
theorem ropeDice_any (w : World) (a0 : Option Addr) (c0 : Nat) (ns : List Int) (m0 : Reads w 1 a0 ns.length (ns.map (Value.int .u32))) (z0 : ∀ n ∈ ns, n ≤ 4294967295) (a1 : Option Addr) (c1 : Nat) (ms : List Int) (m1 : Reads w 1 a1 ms.length (ms.map (Value.int .u32))) (z1 : ∀ n ∈ ms, n ≤ 4294967295) (s0 : ByteArray) (a2 : Option Addr) (c2 : Nat) (L : List Dd) (m2 : Reads w 4 a2 L.length (ddCells L)) (f2 : ∀ x ∈ L, (Lit.int .i64 x.b).wf = true)
    (h1 : ns.length ≤ 40) (h4 : ms.length ≤ 40) (h2 : s0.size ≤ 300) (h3 : muchB 12 300 L = false) :
    Calls Try.prog 8 #[.slice a0 ns.length c0, .slice a1 ms.length c1, .string s0, .slice a2 L.length c2] w fun e w' => e = .returned (.bool true) ∧ Ext w w' := by
  have i1 : ¬ (40 : Int) < (ns.length : Int) := by omega
  have i3 : ¬ (40 : Int) < (ms.length : Int) := by omega
  have i2 : ¬ (300 : Int) < (s0.size : Int) := by omega
  have hmu := much_any 12 300 a2 c2 L w m2 (by omega) (by omega) (by omega) (by omega)
  rw [h3] at hmu
  obtain ⟨hl, hsum⟩ := muchB_no h3 (by omega)
  have M0 := Lib.hid m0
  have M1 := Lib.hid m1
  have M2 := Lib.hid m2
  have Z0 := Lib.hid z0
  have Z1 := Lib.hid z1
  have F2 := Lib.hid f2
  clear h3 m0 m1 m2 z0 z1 f2
  go_enter Try.func8, Try.ntmps8
  go_wp2_with fail
  refine hmu.mono ?_
  rintro e w1 ⟨rfl, rfl⟩
  go_wp2_with fail
  refine (dice_new _ a0 c0 ns (by omega) Z0.out M0.out).mono ?_
  rintro e u1 ⟨D, rfl, hD⟩
  go_wp2_with fail
  refine (rope_one D s0 _ hD.dice (by omega)).mono ?_
  rintro e u2 ⟨A0, rfl, hF⟩
  have hA0 := Held.start (s := s0) hD.ext hD.d hF rfl
  clear hF hmu
  go_wp2_with fail
  refine (dice_new _ a1 c1 ms (by omega) Z1.out (M1.out.mod hA0.ext (fun _ _ f => f))).mono ?_
  rintro e u3 ⟨E, rfl, hE⟩
  go_wp2_with fail
  refine (rope_one E s0 _ hE.dice (by omega)).mono ?_
  rintro e u4 ⟨B0, rfl, hG⟩
  have hT0 := Lib.hid (Two.start hA0 hE hG)
  clear hG hA0
  go_wp2_with fail
  go_loopw [13] (fun i wr => ∃ (k : Nat) (A B : Rp) (z : ByteArray), k ≤ L.length ∧ i = .int .i64 k ∧ Hid (Two w1 D E A B z z wr ∧ A.rb = A0.rb ∧ B.rb = B0.rb ∧ z.size ≤ s0.size + sumS (L.take k))) (fun i _ => L.length - (intOf i).toNat)
  case atStart => exact ⟨0, A0, B0, s0, by omega, rfl, Lib.hid ⟨hT0.out, rfl, rfl, by omega⟩⟩
  case round =>
    obtain ⟨k, A, B, z, hk, rfl, HK⟩ := hrel
    by_cases hlt : k < L.length
    · have hlt' : (k : Int) < (L.length : Int) := by omega
      have hk0 : (0 : Int) ≤ (k : Int) := by omega
      obtain ⟨b, off, rfl⟩ := M2.out.some (by omega)
      obtain ⟨q0, q1, q2, q3⟩ := reads_deed (M2.out.mod HK.out.1.fst.ext (fun _ _ f => f)) (List.getElem?_eq_getElem hlt)
      have hst := sumS_step (List.getElem?_eq_getElem hlt)
      have hle := sumS_take_le L (k + 1)
      have hz := HK.out.2.2.2
      have hwf := i64_in (F2.out _ (List.getElem_mem hlt))
      generalize L[k] = x at *
      obtain ⟨P1, _, L1⟩ := low_nat' x.a 400 400 (by omega) (by omega) (by omega)
      obtain ⟨P2, _, L2⟩ := low_nat' x.a 300 300 (by omega) (by omega) (by omega)
      obtain ⟨Q, _, L3⟩ := low_nat' x.b 600 600 (by omega) (by omega) (by omega)
      have L1 := Lib.hid L1
      have L2 := Lib.hid L2
      have L3 := Lib.hid L3
      have Hwf := Lib.hid hwf
      have HT := Lib.hid HK.out.1
      have hA := HK.out.2.1
      have hB := HK.out.2.2.1
      have hz4 : z.size + x.s.size ≤ 60000 := by omega
      have hz5 : z.size + x.s.size ≤ s0.size + sumS (L.take (k + 1)) := by omega
      clear hst hle hz hwf HK q0
      have h012 : k % 3 = 0 ∨ k % 3 = 1 ∨ k % 3 = 2 := by omega
      go_wp2_with fail
      go_quiet (fail)
      rcases h012 with hm | hm | hm
      · have hm0 : (k : Int).tmod 3 = 0 := by rw [Int.tmod_eq_emod_of_nonneg (by omega)]; omega
        go_wp2_with fail
        refine (L1.out _).mono ?_
        rintro e x1 ⟨rfl, rfl⟩
        go_wp2_with fail
        refine (ins_held hA (HT.out.fst.drewN _) P1 x.s (by omega)).mono ?_
        rintro e x2 ⟨rfl, A2, hW⟩
        have T := (HT.out.on ((Mod.refl _ wr).drewN _)).wentA hW
        have hA2 := hW.rb.trans hA
        clear hW
        go_wp2_with fail
        refine (L1.out _).mono ?_
        rintro e x3 ⟨rfl, rfl⟩
        go_wp2_with fail
        refine (ins_held hB T.snd P1 x.s (by omega)).mono ?_
        rintro e x4 ⟨rfl, B2, hW⟩
        replace T := T.wentB hW
        have hB2 := hW.rb.trans hB
        have hsz := insN_size z P1 x.s
        clear hW
        generalize insN z P1 x.s = z2 at *
        generalize outE z P1 P1 = ee at *
        have HT := Lib.hid T
        obtain ⟨v, ev, V⟩ := slice_held z2 P2 Q
        obtain ⟨n0, n1, n2, n3, en, C⟩ := count_held z2 Q
        obtain ⟨u, U⟩ := upto_held z2 x.a x.b Hwf.out
        have V := Lib.hid V
        have C := Lib.hid C
        have U := Lib.hid U
        clear T
        go_wp2_with fail
        refine (L2.out _).mono ?_
        rintro e y1 ⟨rfl, rfl⟩
        go_wp2_with fail
        refine (L3.out _).mono ?_
        rintro e y1 ⟨rfl, rfl⟩
        go_wp2_with fail
        refine (V.out _ _ _ _ _ hA2 HT.out.fst).mono ?_
        rintro e y1 ⟨rfl, h1⟩
        go_wp2_with fail
        refine (L2.out _).mono ?_
        rintro e y2 ⟨rfl, rfl⟩
        go_wp2_with fail
        refine (L3.out _).mono ?_
        rintro e y2 ⟨rfl, rfl⟩
        go_wp2_with fail
        refine (V.out _ _ _ _ _ hB2 (HT.out.on h1).snd).mono ?_
        rintro e y2 ⟨rfl, h2⟩
        go_wp2_with fail
        refine (L3.out _).mono ?_
        rintro e y3 ⟨rfl, rfl⟩
        go_wp2_with fail
        refine (C.out _ _ _ _ _ hA2 ((HT.out.on h1).on h2).fst).mono ?_
        rintro e y3 ⟨rfl, h3⟩
        have h4 := (Mod.refl (fun _ => False) y3).alloc (.cells #[.int .i64 n0, .int .i64 n1, .int .i64 n2, .int .i64 n3] 52)
        have T4 := (((HT.out.on h1).on h2).on h3).on h4
        have t4 := Blk.new y3 52 #[.int .i64 n0, .int .i64 n1, .int .i64 n2, .int .i64 n3]
        have HT4 := Lib.hid T4
        clear T4 h1 h2 h3 h4
        go_wp2_with fail
        refine (L3.out _).mono ?_
        rintro e y4 ⟨rfl, rfl⟩
        go_wp2_with fail
        refine (C.out _ _ _ _ _ hB2 HT4.out.snd).mono ?_
        rintro e y5 ⟨rfl, h5⟩
        have h6 := (Mod.refl (fun _ => False) y5).alloc (.cells #[.int .i64 n0, .int .i64 n1, .int .i64 n2, .int .i64 n3] 52)
        have HT6 := Lib.hid ((HT4.out.on h5).on h6)
        have t6 := Blk.new y5 52 #[.int .i64 n0, .int .i64 n1, .int .i64 n2, .int .i64 n3]
        have t5 := t4.mod (h5.ext_trans h6) (fun f => f)
        have a0 := t5.cell 0
        have a1 := t5.cell 1
        have a2 := t5.cell 2
        have a3 := t5.cell 3
        have b0 := t6.cell 0
        have b1 := t6.cell 1
        have b2 := t6.cell 2
        have b3 := t6.cell 3
        have e1 : (v.toList == v.toList) = true := str_eq rfl
        have e2 : (z2.toList == z2.toList) = true := str_eq rfl
        clear h5 h6 t4 t5 t6
        go_wp2_with fail
        refine (U.out _ _ _ _ _ hA2 HT6.out.fst).mono ?_
        rintro e y7 ⟨rfl, h7⟩
        go_wp2_with fail
        refine (U.out _ _ _ _ _ hB2 (HT6.out.on h7).snd).mono ?_
        rintro e y8 ⟨rfl, h8⟩
        go_wp2_with fail
        refine (text_held z2 _ _ _ _ _ hA2 ((HT6.out.on h7).on h8).fst).mono ?_
        rintro e y9 ⟨rfl, h9⟩
        go_wp2_with fail
        refine (text_held z2 _ _ _ _ _ hB2 (((HT6.out.on h7).on h8).on h9).snd).mono ?_
        rintro e ya ⟨rfl, ha⟩
        go_wp2_with fail
        go_roundw
        case rel => exact ⟨k + 1, A2, B2, z2, by omega, by go_num, Lib.hid ⟨(((HT6.out.on h7).on h8).on h9).on ha, hA2, hB2, by omega⟩⟩
        case measure => simp [intOf]; omega
      · have hm0 : (k : Int).tmod 3 = 1 := by rw [Int.tmod_eq_emod_of_nonneg (by omega)]; omega
        go_wp2_with fail
        refine (del_held hA (HT.out.fst.drewN _) x.a x.b).mono ?_
        rintro e x2 ⟨rfl, A2, hW⟩
        have T := (HT.out.on ((Mod.refl _ wr).drewN _)).wentA hW
        have hA2 := hW.rb.trans hA
        clear hW
        go_wp2_with fail
        refine (del_held hB T.snd x.a x.b).mono ?_
        rintro e x4 ⟨rfl, B2, hW⟩
        replace T := T.wentB hW
        have hB2 := hW.rb.trans hB
        have hsz := delN_size z x.a x.b
        clear hW
        generalize delN z x.a x.b = z2 at *
        generalize outE z x.a x.b = ee at *
        have HT := Lib.hid T
        obtain ⟨v, ev, V⟩ := slice_held z2 P2 Q
        obtain ⟨n0, n1, n2, n3, en, C⟩ := count_held z2 Q
        obtain ⟨u, U⟩ := upto_held z2 x.a x.b Hwf.out
        have V := Lib.hid V
        have C := Lib.hid C
        have U := Lib.hid U
        clear T
        go_wp2_with fail
        refine (L2.out _).mono ?_
        rintro e y1 ⟨rfl, rfl⟩
        go_wp2_with fail
        refine (L3.out _).mono ?_
        rintro e y1 ⟨rfl, rfl⟩
        go_wp2_with fail
        refine (V.out _ _ _ _ _ hA2 HT.out.fst).mono ?_
        rintro e y1 ⟨rfl, h1⟩
        go_wp2_with fail
        refine (L2.out _).mono ?_
        rintro e y2 ⟨rfl, rfl⟩
        go_wp2_with fail
        refine (L3.out _).mono ?_
        rintro e y2 ⟨rfl, rfl⟩
        go_wp2_with fail
        refine (V.out _ _ _ _ _ hB2 (HT.out.on h1).snd).mono ?_
        rintro e y2 ⟨rfl, h2⟩
        go_wp2_with fail
        refine (L3.out _).mono ?_
        rintro e y3 ⟨rfl, rfl⟩
        go_wp2_with fail
        refine (C.out _ _ _ _ _ hA2 ((HT.out.on h1).on h2).fst).mono ?_
        rintro e y3 ⟨rfl, h3⟩
        have h4 := (Mod.refl (fun _ => False) y3).alloc (.cells #[.int .i64 n0, .int .i64 n1, .int .i64 n2, .int .i64 n3] 52)
        have T4 := (((HT.out.on h1).on h2).on h3).on h4
        have t4 := Blk.new y3 52 #[.int .i64 n0, .int .i64 n1, .int .i64 n2, .int .i64 n3]
        have HT4 := Lib.hid T4
        clear T4 h1 h2 h3 h4
        go_wp2_with fail
        refine (L3.out _).mono ?_
        rintro e y4 ⟨rfl, rfl⟩
        go_wp2_with fail
        refine (C.out _ _ _ _ _ hB2 HT4.out.snd).mono ?_
        rintro e y5 ⟨rfl, h5⟩
        have h6 := (Mod.refl (fun _ => False) y5).alloc (.cells #[.int .i64 n0, .int .i64 n1, .int .i64 n2, .int .i64 n3] 52)
        have HT6 := Lib.hid ((HT4.out.on h5).on h6)
        have t6 := Blk.new y5 52 #[.int .i64 n0, .int .i64 n1, .int .i64 n2, .int .i64 n3]
        have t5 := t4.mod (h5.ext_trans h6) (fun f => f)
        have a0 := t5.cell 0
        have a1 := t5.cell 1
        have a2 := t5.cell 2
        have a3 := t5.cell 3
        have b0 := t6.cell 0
        have b1 := t6.cell 1
        have b2 := t6.cell 2
        have b3 := t6.cell 3
        have e1 : (v.toList == v.toList) = true := str_eq rfl
        have e2 : (z2.toList == z2.toList) = true := str_eq rfl
        clear h5 h6 t4 t5 t6
        go_wp2_with fail
        refine (U.out _ _ _ _ _ hA2 HT6.out.fst).mono ?_
        rintro e y7 ⟨rfl, h7⟩
        go_wp2_with fail
        refine (U.out _ _ _ _ _ hB2 (HT6.out.on h7).snd).mono ?_
        rintro e y8 ⟨rfl, h8⟩
        go_wp2_with fail
        refine (text_held z2 _ _ _ _ _ hA2 ((HT6.out.on h7).on h8).fst).mono ?_
        rintro e y9 ⟨rfl, h9⟩
        go_wp2_with fail
        refine (text_held z2 _ _ _ _ _ hB2 (((HT6.out.on h7).on h8).on h9).snd).mono ?_
        rintro e ya ⟨rfl, ha⟩
        go_wp2_with fail
        go_roundw
        case rel => exact ⟨k + 1, A2, B2, z2, by omega, by go_num, Lib.hid ⟨(((HT6.out.on h7).on h8).on h9).on ha, hA2, hB2, by omega⟩⟩
        case measure => simp [intOf]; omega
      · have hm0 : (k : Int).tmod 3 = 2 := by rw [Int.tmod_eq_emod_of_nonneg (by omega)]; omega
        obtain ⟨z2, A2, B2, T, hA2, hB2, hsz⟩ : ∃ (z2 : ByteArray) (A2 B2 : Rp), Two w1 D E A2 B2 z2 z2 (wr.drewN nq) ∧ A2.rb = A0.rb ∧ B2.rb = B0.rb ∧ z2.size ≤ z.size := ⟨z, A, B, HT.out.on ((Mod.refl _ wr).drewN _), hA, hB, Nat.le_refl _⟩
        have HT := Lib.hid T
        obtain ⟨v, ev, V⟩ := slice_held z2 P2 Q
        obtain ⟨n0, n1, n2, n3, en, C⟩ := count_held z2 Q
        obtain ⟨u, U⟩ := upto_held z2 x.a x.b Hwf.out
        have V := Lib.hid V
        have C := Lib.hid C
        have U := Lib.hid U
        clear T
        go_wp2_with fail
        refine (L2.out _).mono ?_
        rintro e y1 ⟨rfl, rfl⟩
        go_wp2_with fail
        refine (L3.out _).mono ?_
        rintro e y1 ⟨rfl, rfl⟩
        go_wp2_with fail
        refine (V.out _ _ _ _ _ hA2 HT.out.fst).mono ?_
        rintro e y1 ⟨rfl, h1⟩
        go_wp2_with fail
        refine (L2.out _).mono ?_
        rintro e y2 ⟨rfl, rfl⟩
        go_wp2_with fail
        refine (L3.out _).mono ?_
        rintro e y2 ⟨rfl, rfl⟩
        go_wp2_with fail
        refine (V.out _ _ _ _ _ hB2 (HT.out.on h1).snd).mono ?_
        rintro e y2 ⟨rfl, h2⟩
        go_wp2_with fail
        refine (L3.out _).mono ?_
        rintro e y3 ⟨rfl, rfl⟩
        go_wp2_with fail
        refine (C.out _ _ _ _ _ hA2 ((HT.out.on h1).on h2).fst).mono ?_
        rintro e y3 ⟨rfl, h3⟩
        have h4 := (Mod.refl (fun _ => False) y3).alloc (.cells #[.int .i64 n0, .int .i64 n1, .int .i64 n2, .int .i64 n3] 52)
        have T4 := (((HT.out.on h1).on h2).on h3).on h4
        have t4 := Blk.new y3 52 #[.int .i64 n0, .int .i64 n1, .int .i64 n2, .int .i64 n3]
        have HT4 := Lib.hid T4
        clear T4 h1 h2 h3 h4
        go_wp2_with fail
        refine (L3.out _).mono ?_
        rintro e y4 ⟨rfl, rfl⟩
        go_wp2_with fail
        refine (C.out _ _ _ _ _ hB2 HT4.out.snd).mono ?_
        rintro e y5 ⟨rfl, h5⟩
        have h6 := (Mod.refl (fun _ => False) y5).alloc (.cells #[.int .i64 n0, .int .i64 n1, .int .i64 n2, .int .i64 n3] 52)
        have HT6 := Lib.hid ((HT4.out.on h5).on h6)
        have t6 := Blk.new y5 52 #[.int .i64 n0, .int .i64 n1, .int .i64 n2, .int .i64 n3]
        have t5 := t4.mod (h5.ext_trans h6) (fun f => f)
        have a0 := t5.cell 0
        have a1 := t5.cell 1
        have a2 := t5.cell 2
        have a3 := t5.cell 3
        have b0 := t6.cell 0
        have b1 := t6.cell 1
        have b2 := t6.cell 2
        have b3 := t6.cell 3
        have e1 : (v.toList == v.toList) = true := str_eq rfl
        have e2 : (z2.toList == z2.toList) = true := str_eq rfl
        clear h5 h6 t4 t5 t6
        go_wp2_with fail
        refine (U.out _ _ _ _ _ hA2 HT6.out.fst).mono ?_
        rintro e y7 ⟨rfl, h7⟩
        go_wp2_with fail
        refine (U.out _ _ _ _ _ hB2 (HT6.out.on h7).snd).mono ?_
        rintro e y8 ⟨rfl, h8⟩
        go_wp2_with fail
        refine (text_held z2 _ _ _ _ _ hA2 ((HT6.out.on h7).on h8).fst).mono ?_
        rintro e y9 ⟨rfl, h9⟩
        go_wp2_with fail
        refine (text_held z2 _ _ _ _ _ hB2 (((HT6.out.on h7).on h8).on h9).snd).mono ?_
        rintro e ya ⟨rfl, ha⟩
        go_wp2_with fail
        go_roundw
        case rel => exact ⟨k + 1, A2, B2, z2, by omega, by go_num, Lib.hid ⟨(((HT6.out.on h7).on h8).on h9).on ha, hA2, hB2, by omega⟩⟩
        case measure => simp [intOf]; omega
    · have hlt' : ¬ (k : Int) < (L.length : Int) := by omega
      go_wp2_with fail
      refine (awake3_any _).mono ?_
      rintro e u9 ⟨rfl, y9⟩
      go_wp2_with fail
      go_ret
      exact ⟨rfl, HK.out.1.fst.ext.ext_trans y9⟩

set_option maxHeartbeats 1600000 in
set_option maxRecDepth 1000000 in
theorem ropeDice_calls (w : World) (a0 : Option Addr) (c0 : Nat) (ns : List Int) (w0 : Reads w 1 a0 ns.length (ns.map (Value.int .u32))) (m0 : ns.length ≤ maxLen) (f0 : ∀ n ∈ ns, (Lit.int .u32 n).wf = true) (a1 : Option Addr) (c1 : Nat) (ms : List Int) (w1 : Reads w 1 a1 ms.length (ms.map (Value.int .u32))) (m1 : ms.length ≤ maxLen) (f1 : ∀ n ∈ ms, (Lit.int .u32 n).wf = true) (s0 : ByteArray) (ws : s0.size ≤ 9223372036854775807) (a2 : Option Addr) (c2 : Nat) (L : List Dd) (w2 : Reads w 4 a2 L.length (ddCells L)) (m2 : L.length ≤ maxLen) (f2 : ∀ x ∈ L, (Lit.int .i64 x.b).wf = true) :
    Calls Try.prog 8 #[.slice a0 ns.length c0, .slice a1 ms.length c1, .string s0, .slice a2 L.length c2] w fun e w' => e = .returned (.bool true) ∧ Ext w w' := by
  have z0 : ∀ n ∈ ns, n ≤ 4294967295 := fun n hn => u32_top (f0 n hn)
  have z1 : ∀ n ∈ ms, n ≤ 4294967295 := fun n hn => u32_top (f1 n hn)
  by_cases h1 : ns.length ≤ 40
  · have i1 : decide ((40 : Int) < (ns.length : Int)) = false := by simp; omega
    have j1 : ¬ (40 : Int) < (ns.length : Int) := by omega
    by_cases h4 : ms.length ≤ 40
    · have i4 : decide ((40 : Int) < (ms.length : Int)) = false := by simp; omega
      have j4 : ¬ (40 : Int) < (ms.length : Int) := by omega
      by_cases h2 : s0.size ≤ 300
      · have i2 : decide ((300 : Int) < (s0.size : Int)) = false := by simp; omega
        have j2 : ¬ (300 : Int) < (s0.size : Int) := by omega
        cases h3 : muchB 12 300 L with
        | false => exact ropeDice_any w a0 c0 ns w0 z0 a1 c1 ms w1 z1 s0 a2 c2 L w2 f2 h1 h4 h2 h3
        | true =>
          clear z1 f1 w1 m1
          have hmu := much_any 12 300 a2 c2 L w w2 (by omega) (by omega) (by omega) (by omega)
          rw [h3] at hmu
          clear z0 f0 w0 m0 w2 m2 f2 h3
          go_enter Try.func8, Try.ntmps8
          go_wp2_with fail
          refine hmu.mono ?_
          rintro e u1 ⟨rfl, rfl⟩
          go_wp2_with fail
          refine (awake3_any _).mono ?_
          rintro e w1 ⟨rfl, hx⟩
          go_wp2_with fail
          go_ret
          exact ⟨rfl, hx⟩
      · have j2 : (300 : Int) < (s0.size : Int) := by omega
        clear z0 f0 w0 m0 w2 m2 f2 z1 f1 w1 m1
        go_enter Try.func8, Try.ntmps8
        go_wp2_with fail
        refine (awake3_any _).mono ?_
        rintro e w1 ⟨rfl, hx⟩
        go_wp2_with fail
        go_ret
        exact ⟨rfl, hx⟩
    · have j4 : (40 : Int) < (ms.length : Int) := by omega
      clear z0 f0 w0 m0 w2 m2 f2 z1 f1 w1 m1
      go_enter Try.func8, Try.ntmps8
      go_wp2_with fail
      refine (awake3_any _).mono ?_
      rintro e w1 ⟨rfl, hx⟩
      go_wp2_with fail
      go_ret
      exact ⟨rfl, hx⟩
  · have j1 : (40 : Int) < (ns.length : Int) := by omega
    clear z0 f0 w0 m0 w2 m2 f2 z1 f1 w1 m1
    go_enter Try.func8, Try.ntmps8
    go_wp2_with fail
    refine (awake3_any _).mono ?_
    rintro e w1 ⟨rfl, hx⟩
    go_wp2_with fail
    go_ret
    exact ⟨rfl, hx⟩

end Go.Proofs.Ytbcjlbapgidhiaa

/- Ranges without parents go by edits that are apart where they go by each of these alone, from the last one to the first: the walk. Conditions: none. -/
import Derived.Test.YtffplppglicibaaGimSinglyQ
import Derived.Test.YtffplppglicibaaGimPairs
import Derived.Test.YtffplppglicibaaGimLong
import Derived.Test.YtffplppglicibaaGimTwin
import Derived.Test.YtffplppglicibaaGimAwake7
namespace Go.Proofs.Ytffplppglicibaa
open Go.RowKit Go.Gim

theorem long_mem : ∀ (l : List ByteArray) (n : Int), longB n l = false → ∀ t ∈ l, (t.size : Int) ≤ n := by
  intro l
  induction l with
  | nil => intro n _ t ht; cases ht
  | cons x r ih =>
    intro n h t ht
    simp only [longB] at h
    split at h
    · cases h
    · rcases List.mem_cons.1 ht with rfl | ht
      · omega
      · have := ih _ h t ht; omega
theorem esS_text (gs : List Int) (ts : List ByteArray) {k : Nat} (hk : k ≤ ts.length) (h : longB 200 ts = false) : ∀ e ∈ esS gs ts k, e.t.size ≤ 100000 := by
  intro e he
  obtain ⟨i, hi, rfl⟩ := List.mem_map.1 he
  have hi := List.mem_range.1 hi
  simp only
  rw [List.getD_eq_getElem?_getD, List.getElem?_eq_getElem (by omega : i < ts.length)]
  have := long_mem ts 200 h _ (List.getElem_mem (by omega : i < ts.length))
  simp only [Option.getD_some]
  omega

set_option maxHeartbeats 3200000 in
set_option maxRecDepth 1000000 in
theorem marksSingly_any (w : World) (a0 : Option Addr) (c0 : Nat) (ns : List (Int × Int)) (h0 : Reads w 2 a0 ns.length (prCells ns)) (n0 : ns.length ≤ 20)
    (a1 : Option Addr) (c1 : Nat) (ps : List Bool) (h1 : Reads w 1 a1 ps.length (ps.map Value.bool)) (m1 : ps.length ≤ 9223372036854775807)
    (a2 : Option Addr) (c2 : Nat) (gs : List Int) (h2 : Reads w 1 a2 gs.length (gs.map (Value.int .i64))) (n2 : gs.length ≤ 10)
    (a3 : Option Addr) (c3 : Nat) (ts : List ByteArray) (h3 : Reads w 1 a3 ts.length (ts.map Value.string)) (m3 : ts.length ≤ 9223372036854775807) (hlo : longB 200 ts = false) :
    Calls Try.prog 4 #[.slice a0 ns.length c0, .slice a1 ps.length c1, .slice a2 gs.length c2, .slice a3 ts.length c3] w fun e w' => e = .returned (.bool true) ∧ Ext w w' := by
  have HL := long_any 200 a3 c3 ts w h3 m3 (by omega) (by omega)
  rw [hlo] at HL
  have HL' := Lib.hid HL
  have R0 := Lib.hid h0
  have R1 := Lib.hid h1
  have R2 := Lib.hid h2
  have R3 := Lib.hid h3
  obtain ⟨N, hN⟩ : ∃ N, N = ns.length := ⟨_, rfl⟩
  have HN := Lib.hid hN
  have i1 : ¬ (20 : Int) < (N : Int) := by omega
  have i2 : ¬ (10 : Int) < (gs.length : Int) := by omega
  rw [← hN] at n0 ⊢
  clear HL h0 h1 h2 h3 hN
  go_enter Try.func4, Try.ntmps4
  go_wp2_with fail
  refine HL'.out.mono ?_
  rintro e w0 ⟨rfl, rfl⟩
  clear HL' i1 i2
  go_wp2_with fail
  refine (tnew_any w0).mono ?_
  rintro e w1 ⟨tb, mb, rfl, h1, l1, l2, hx1⟩
  have H1 := Lib.hid h1
  have L1 := Lib.hid l1
  have L2 := Lib.hid l2
  clear h1 l1 l2
  go_wp2_with fail
  go_loopw [10] (fun i wr => ∃ k : Nat, k ≤ N ∧ i = .int .i64 k ∧ Hid (TabAt wr tb mb (tabN ns ps k) k) ∧ Ext w0 wr) (fun i _ => N - (intOf i).toNat)
  case atStart => exact ⟨0, by omega, rfl, H1, hx1⟩
  case round =>
    obtain ⟨k, hk, rfl, HT, hxr⟩ := hrel
    clear H1 hx1
    have hl1 := L1.out
    have hl2 := L2.out
    by_cases hlt : k < N
    · have hlt' : (k : Int) < (N : Int) := by omega
      have hk0 : (0 : Int) ≤ (k : Int) := by omega
      have hlk : k < ns.length := by rw [← HN.out]; exact hlt
      obtain ⟨b, off, rfl⟩ := R0.out.some (by rw [← HN.out]; omega)
      obtain ⟨q0, q1⟩ := reads_pair (R0.out.mod hxr (fun _ _ f => f)) (List.getElem?_eq_getElem hlk)
      have hd : ns[k] = ns.getD k (0, 0) := by rw [List.getD_eq_getElem?_getD, List.getElem?_eq_getElem hlk]; rfl
      rw [hd] at q0 q1
      have hrg : rgS ns ps k = ⟨(lowN (ns.getD k (0, 0)).1 60 : Nat), ((lowN (ns.getD k (0, 0)).1 60 : Nat) : Int) + (lowN (ns.getD k (0, 0)).2 12 : Nat), if 2 * k + 1 < ps.length then ps.getD (2 * k) false else false, if 2 * k + 1 < ps.length then ps.getD (2 * k + 1) false else false, 0⟩ := rfl
      have HRg := Lib.hid hrg
      have hadd := Lib.hid (tabN_add ns ps k (by omega))
      have HA := Lib.hid (fun w' (h' : Ext wr w') => tadd_any tb mb (tabN ns ps k) k (rgS ns ps k) w' (HT.out.ext h') (by rw [tabN_len]; omega) (tabN_tok ns ps k (by omega)).next (by omega) (by omega) (by rw [hrg]; show (Lit.int .i64 0).wf = true; decide))
      have Hsu := Lib.hid (tabN_succ ns ps k)
      generalize ns.getD k (0, 0) = x at *
      obtain ⟨p, q⟩ := x
      simp only at q0 q1 HRg
      have BA := lowN_lt p 60 (by omega)
      have BB := lowN_lt q 12 (by omega)
      have LA := Lib.hid (lowC p 60 60 rfl (by omega) (by omega))
      have LB := Lib.hid (lowC q 12 12 rfl (by omega) (by omega))
      generalize lowN p 60 = A at *
      generalize lowN q 12 = B at *
      generalize rgS ns ps k = R at *
      have hbl := World.block_lt_of_cell? wr _ q0
      clear hd hrg
      go_wp2_with fail
      refine (LA.out _).mono ?_
      rintro e v1 ⟨rfl, rfl⟩
      go_wp2_with fail
      refine (LB.out _).mono ?_
      rintro e v2 ⟨rfl, rfl⟩
      go_upto_region 9 with fail
      have hb3 := Blk.new v2 33 #[.int .i64 A, .int .i64 ((A : Int) + B), .bool false, .bool false, .int .i64 0]
      have hx3 : Ext v2 (v2.alloc (.cells #[.int .i64 A, .int .i64 ((A : Int) + B), .bool false, .bool false, .int .i64 0] 33)) := (Mod.refl _ _).alloc _
      generalize v2.alloc (.cells #[.int .i64 A, .int .i64 ((A : Int) + B), .bool false, .bool false, .int .i64 0] 33) = v3 at *
      have hlv := hxr.size
      have nb1 : tb ≠ v2.heap.size := by have := HT.out.blk.lt; omega
      have nb2 : mb ≠ v2.heap.size := by have := HT.out.map.lt; omega
      clear q0 q1 hbl LA LB
      obtain ⟨j, hj⟩ : ∃ j, j = 2 * k := ⟨_, rfl⟩
      have hj1 : (2 : Int) * (k : Int) = (j : Int) := by omega
      obtain ⟨j2, hj2⟩ : ∃ j2, j2 = j + 1 := ⟨_, rfl⟩
      have hj3 : (j : Int) + 1 = (j2 : Int) := by omega
      have d0 := Blk.cell hb3 0
      have d1 := Blk.cell hb3 1
      have d2 := Blk.cell hb3 2
      have d3 := Blk.cell hb3 3
      have d4 := Blk.cell hb3 4
      simp only [List.getElem?_toArray, List.getElem?_cons_zero, List.getElem?_cons_succ] at d0 d1 d2 d3 d4
      have f0 := Blk.free hb3 0
      have f1 := Blk.free hb3 1
      have f2 := Blk.free hb3 2
      have f3 := Blk.free hb3 3
      have f4 := Blk.free hb3 4
      have hlt3 := Blk.lt hb3
      by_cases hc : j2 < ps.length
      · have hc1 : (j2 : Int) < (ps.length : Int) := by omega
        have hc2 : (j : Int) < (ps.length : Int) := by omega
        have hc3 : (0 : Int) ≤ (j : Int) := by omega
        have hc4 : (0 : Int) ≤ (j2 : Int) := by omega
        have hjl : j < ps.length := by omega
        obtain ⟨b1, off1, rfl⟩ := R1.out.some (by omega)
        have hgj : ps.getD j false = ps[j] := by rw [List.getD_eq_getElem?_getD, List.getElem?_eq_getElem hjl]; rfl
        have hgj2 : ps.getD j2 false = ps[j2] := by rw [List.getD_eq_getElem?_getD, List.getElem?_eq_getElem hc]; rfl
        have hr1 := R1.out.mod (hxr.ext_trans hx3) (fun _ _ f => f)
        have p0 := hr1.at (j := j) (v := .bool ps[j]) (by simp [hjl])
        have p1 := hr1.at (j := j2) (v := .bool ps[j2]) (by simp [hc])
        have hR := HRg.out
        rw [← hj, ← hj2, if_pos hc, if_pos hc, hgj, hgj2] at hR
        generalize ps[j] = P at *
        generalize ps[j2] = Q at *
        subst hR
        have hbl1 := World.block_lt_of_cell? v3 _ p0
        have hbn : b1 ≠ v2.heap.size := by
          have := World.block_lt_of_cell? v2 _ ((R1.out.mod hxr (fun _ _ f => f)).at (j := j) (v := .bool ps[j]) (by simp [hjl]))
          simp only at this
          omega
        clear hj hj2 hgj hgj2 hr1 hjl HRg
        go_wp2_with fail
        have hx3s := (hx3.setCell (p := ⟨v2.heap.size, 2, none⟩) (by simp) (.bool P)).setCell (p := ⟨v2.heap.size, 3, none⟩) (by simp) (.bool Q)
        have HA3 := Lib.hid (HA.out _ hx3s)
        refine HA3.out.mono ?_
        rintro e v4 hp4
        rcases hp4 with ⟨_, rfl, h4, hm4⟩ | ⟨hne, _⟩
        · have H4 := Lib.hid h4
          have hx4 : Ext w0 v4 := (hxr.ext_trans hx3s).trans hm4 (fun i hi e => by unfold tabS at e; omega)
          clear HA HA3 h4 hm4 hx3s hbl1 hbn p0 p1 d0 d1 d2 d3 d4 f0 f1 f2 f3 f4 hlt3
          go_wp2_with fail
          go_roundw
          case rel => exact ⟨k + 1, by omega, by go_num, Lib.hid (by rw [Hsu.out]; exact_mod_cast H4.out), hx4⟩
          case measure => simp [intOf]; omega
        · exact absurd hadd.out hne
      · have hc1 : ¬ (j2 : Int) < (ps.length : Int) := by omega
        have hR := HRg.out
        rw [← hj, ← hj2, if_neg hc, if_neg hc] at hR
        subst hR
        have HA3 := Lib.hid (HA.out _ hx3)
        clear hj hj2 HRg
        go_wp2_with fail
        refine HA3.out.mono ?_
        rintro e v4 hp4
        rcases hp4 with ⟨_, rfl, h4, hm4⟩ | ⟨hne, _⟩
        · have H4 := Lib.hid h4
          have hx4 : Ext w0 v4 := (hxr.ext_trans hx3).trans hm4 (fun i hi e => by unfold tabS at e; omega)
          clear HA HA3 h4 hm4
          go_wp2_with fail
          go_roundw
          case rel => exact ⟨k + 1, by omega, by go_num, Lib.hid (by rw [Hsu.out]; exact_mod_cast H4.out), hx4⟩
          case measure => simp [intOf]; omega
        · exact absurd hadd.out hne
    · have hlt' : ¬ (k : Int) < (N : Int) := by omega
      obtain rfl : k = N := by omega
      have HTw := Lib.hid (ttwin_any tb mb (tabN ns ps k) k wr HT.out)
      unfold TwinPost at HTw
      have HTK := Lib.hid (tabN_tok ns ps k (by omega))
      have HU := Lib.hid (tabN_u ns ps k)
      have HTl := Lib.hid (tabN_len ns ps k)
      have Hge := Lib.hid (fun (i : Nat) (hi : i < k) => getR_of_mem HTK.out.once (show ((i : Int) + 1, rgS ns ps i) ∈ tabN ns ps k from List.mem_map.2 ⟨i, List.mem_range.2 hi, rfl⟩))
      generalize tabN ns ps k = L at *
      go_wp2_with fail
      refine HTw.out.mono ?_
      rintro e w2 ⟨t2, m2, rfl, h3, l3, l4, hx3⟩
      have H2a := Lib.hid (HT.out.ext hx3)
      have H2b := Lib.hid h3
      have hq1 := HT.out.blk.lt
      have hq2 := HT.out.map.lt
      have n1 : t2 ≠ tb := by omega
      have n2' : t2 ≠ mb := by omega
      have n3 : m2 ≠ tb := by omega
      have n4 : m2 ≠ mb := by omega
      have l5 : w0.heap.size ≤ t2 := by omega
      have l6 : w0.heap.size ≤ m2 := by omega
      have hxb := hxr.ext_trans hx3
      clear HTw HT h3 l3 l4 hx3 hxr hq1 hq2
      go_wp2_with fail
      obtain ⟨G, hG⟩ : ∃ G, G = min gs.length ts.length := ⟨_, rfl⟩
      have hG1 : G ≤ gs.length := by omega
      have hG2 : G ≤ ts.length := by omega
      have HG3 := Lib.hid (show ∀ i, G ≤ i → ¬ (i < gs.length ∧ i < ts.length) from fun i h h2 => by omega)
      have hG4 : G ≤ 10 := by omega
      clear hG
      go_loopw [16, 17, 18] (fun v at_ i wr => ∃ m : Nat, m ≤ G ∧ i = .int .i64 m ∧ at_ = .int .i64 (atS gs m) ∧ Hid (wr.ownsRow w2.heap.size 37 3 v m (edE.cells (esS gs ts m))) ∧ Ext w2 wr) (fun _ _ i _ => G - (intOf i).toNat)
      case atStart => exact ⟨0, by omega, rfl, rfl, Lib.hid (World.ownsRow_nil _ _ _ _), Mod.refl _ _⟩
      case round =>
        obtain ⟨m, hm, rfl, rfl, HO, hy⟩ := hrel
        by_cases hlm : m < G
        · have g1 : (m : Int) < (gs.length : Int) := by omega
          have g2 : (m : Int) < (ts.length : Int) := by omega
          have g0 : (0 : Int) ≤ (m : Int) := by omega
          have g3 : m < gs.length := by omega
          have g4 : m < ts.length := by omega
          obtain ⟨b2, off2, rfl⟩ := R2.out.some (by omega)
          obtain ⟨b3, off3, rfl⟩ := R3.out.some (by omega)
          have r2 := R2.out.mod (hxb.ext_trans hy) (fun _ _ f => f)
          have r3 := R3.out.mod (hxb.ext_trans hy) (fun _ _ f => f)
          have p0 := r2.at (j := m) (v := .int .i64 gs[m]) (by simp [g3])
          have p1 := r3.at (j := m) (v := .string ts[m]) (by simp [g4])
          have e1 : gs[m] = gs.getD m 0 := by rw [List.getD_eq_getElem?_getD, List.getElem?_eq_getElem g3]; rfl
          have e2 : ts[m] = ts.getD m ByteArray.empty := by rw [List.getD_eq_getElem?_getD, List.getElem?_eq_getElem g4]; rfl
          rw [e1] at p0
          rw [e2] at p1
          have HFr := Lib.hid (show fromS gs m = atS gs m + 1 + (lowN (gs.getD m 0) 6 : Nat) from rfl)
          have HAt := Lib.hid (show atS gs (m + 1) = fromS gs m + (lowN (gs.getD m 0 / 8) 5 : Nat) by rw [atS.eq_2]; rfl)
          have HEs := Lib.hid (esS_succ gs ts m)
          have hbd := atS_bd gs m
          generalize gs.getD m 0 = g at *
          generalize ts.getD m ByteArray.empty = t at *
          have B6 := lowN_lt g 6 (by omega)
          have B5 := lowN_lt (g / 8) 5 (by omega)
          have L6 := Lib.hid (lowC g 6 6 rfl (by omega) (by omega))
          have L5 := Lib.hid (lowC (g / 8) 5 5 rfl (by omega) (by omega))
          generalize lowN g 6 = A at *
          generalize lowN (g / 8) 5 = B at *
          generalize atS gs m = X at *
          have hb2 := World.block_lt_of_cell? _ _ p0
          have hb3 := World.block_lt_of_cell? _ _ p1
          clear e1 e2 r2 r3 g3 g4
          go_wp2_with fail
          refine (L6.out _).mono ?_
          rintro e v1 ⟨rfl, rfl⟩
          go_wp2_with fail
          refine (L5.out _).mono ?_
          rintro e v2 ⟨rfl, rfl⟩
          obtain ⟨va, vc, hva, _, _⟩ := ownsRow_shape HO.out
          subst hva
          have hmax : maxLen = 9223372036854775807 := rfl
          clear L5 L6
          go_wp2_with (at_builtin; refine wpList_append_reads rfl _ _ 47 rfl w2.heap.size 37 _ 3 32 Try.info37 Try.underlying47 rfl (by decide) _ m _ rfl (HO.out.alloc _) _ 1 1 [.int .i64 (X + 1 + A), .int .i64 (X + 1 + A + B), .string t] rfl ?hrd (edE.one ⟨X + 1 + A, X + 1 + A + B, t⟩) (by omega) (by omega) ?hbs ?_)
          case hrd =>
            have := Reads.new v2 37 #[.int .i64 (X + 1 + A), .int .i64 (X + 1 + A + B), .string t] 3 1 rfl
            simpa using this
          case hbs => have := hy.size; simp at this ⊢; omega
          intro v' w7 hown hm7 hbk
          have hx7 := (hy.alloc (.cells #[.int .i64 (X + 1 + A), .int .i64 (X + 1 + A + B), .string t] 37)).trans hm7 (fun i hi e => by have h1 := (HO.out.lt i e).1; omega)
          have Hown := Lib.hid hown
          have HAt2 := Lib.hid (show atS gs (m + 1) = X + 1 + A + B by rw [HAt.out, HFr.out])
          clear hm7 hbk hown hmax p0 p1 hb2 hb3
          go_wp2_with fail
          go_roundw
          case rel => exact ⟨m + 1, by omega, by go_num, by rw [HAt2.out], Lib.hid (by rw [HEs.out, HAt2.out, HFr.out, edE.cells_append]; exact Hown.out), hx7⟩
          case measure => simp [intOf]; omega
        · have hmG : m = G := by omega
          have hend := HG3.out m (by omega)
          have hE0 := HO.out
          have Hasc := Lib.hid (esS_asc gs ts m)
          have Hrg := Lib.hid (asc_ranged (esS_asc gs ts m) (esS_mem gs ts (k := m) (by omega)))
          have Hln := Lib.hid (esS_len gs ts m)
          have Hsz := Lib.hid (esS_text gs ts (k := m) (by omega) hlo)
          have Hok := Lib.hid (ranged_ok Hrg.out Hsz.out)
          generalize esS gs ts m = es at *
          obtain ⟨ae, ce, hve, hre⟩ := Enc.owns_reads (E := edE) hE0
          subst hve
          have hml := Hln.out
          subst hml
          have hes : es.length ≤ 10 := by omega
          have Hre := Lib.hid hre
          have Hfar := Lib.hid (show 0 < es.length → ∀ a, ae = some a → ¬ tabS tb mb a.block from by
            intro hz a ha
            obtain ⟨g, c, hs⟩ := Enc.owns_some (E := edE) hE0 hz
            cases hs
            cases ha
            have := (Enc.owns_block (E := edE) hE0).1
            have := H2a.out.blk.lt
            have := H2a.out.map.lt
            unfold tabS
            simp only
            omega)
          have Hfar2 := Lib.hid (show 0 < es.length → ∀ a, ae = some a → ¬ tabS t2 m2 a.block from by
            intro hz a ha
            obtain ⟨g, c, hs⟩ := Enc.owns_some (E := edE) hE0 hz
            cases hs
            cases ha
            have := (Enc.owns_block (E := edE) hE0).1
            have := H2b.out.blk.lt
            have := H2b.out.map.lt
            unfold tabS
            simp only
            omega)
          have HMv := Lib.hid (tmove_all tb mb L k 65536 es ae ce wr (H2a.out.ext hy) HTK.out (by omega) (by omega) hre (by omega) Hsz.out Hfar.out)
          have Hq : (es.length < gs.length ∧ ¬ es.length < ts.length) ∨ ¬ es.length < gs.length := by
            by_cases a : es.length < gs.length
            · exact .inl ⟨a, fun b => hend ⟨a, b⟩⟩
            · exact .inr a
          clear hE0 HO hend hmG hre hlm hm
          rcases Hq with ⟨q1, q2⟩ | q1
          · have q3 : (es.length : Int) < (gs.length : Int) := by omega
            have q4 : ¬ (es.length : Int) < (ts.length : Int) := by omega
            clear q1 q2
            go_wp2_with fail
            refine HMv.out.mono ?_
            rintro e w3 hp3
            rcases hp3 with ⟨_, rfl, h5, hm5⟩ | ⟨hne, _⟩
            · have H5a := Lib.hid h5
              have H5b := Lib.hid ((H2b.out.ext hy).mod hm5 (by unfold tabS; omega) (by unfold tabS; omega))
              have Hre5 := Lib.hid (reads_mod0 Hre.out hm5 (fun hz a ha => Hfar.out hz a ha))
              have hxc : Ext w0 w3 := (hxb.ext_trans hy).trans hm5 (fun i hi e => by unfold tabS at e; omega)
              clear HMv h5 hm5
              go_wp2_with fail
              go_loopw [21] (fun i wr => ∃ (c : Nat) (j : Int), c ≤ es.length ∧ j = (c : Int) - 1 ∧ i = .int .i64 j ∧ Hid (TabAt wr t2 m2 (singT es L c) k) ∧ Mod (tabS t2 m2) w3 wr) (fun i _ => (intOf i + 1).toNat)
              case atStart => exact ⟨es.length, _, Nat.le_refl _, rfl, rfl, Lib.hid (by rw [singT_all es L (Nat.le_refl _)]; exact H5b.out), Mod.refl _ _⟩
              case round =>
                obtain ⟨c, j, hc, hj, rfl, HS, hz⟩ := hrel
                by_cases hc0 : c = 0
                · have hjn : ¬ (0 : Int) ≤ j := by omega
                  have HSz := Lib.hid (show TabAt wr t2 m2 (moveT es L) k by rw [← singT_zero HTK.out Hasc.out HU.out, ← hc0]; exact HS.out)
                  have HTz := Lib.hid (H5a.out.mod hz (by unfold tabS; omega) (by unfold tabS; omega))
                  have hxz : Ext w0 wr := hxc.trans hz (fun i hi e => by unfold tabS at e; omega)
                  have HM := Lib.hid (moveT_free HTK.out HU.out es)
                  clear hc0 hj HS H5a H5b hz hxc
                  go_wp2_with fail
                  go_loopw [22] (fun i wq => ∃ n : Nat, n ≤ k ∧ i = .int .i64 ((n : Int) + 1) ∧ Ext wr wq) (fun i _ => k + 1 - (intOf i).toNat)
                  case atStart => exact ⟨0, by omega, rfl, Mod.refl _ _⟩
                  case round =>
                    obtain ⟨n, hn, rfl, hu⟩ := hrel
                    by_cases hnk : n < k
                    · have hn1 : (n : Int) + 1 ≤ (k : Int) := by omega
                      have hgm : getR (moveT es L) ((n : Int) + 1) = some (mvR es (rgS ns ps n)) := by
                        refine getR_of_mem (HTK.out.move Hok.out (by omega) (by omega)).once ?_
                        rw [HM.out]
                        exact List.mem_map.2 ⟨_, getR_mem (Hge.out n hnk), rfl⟩
                      have hga := tget_any tb mb (moveT es L) k ((n : Int) + 1) _ (HTz.out.ext hu) (id_wf (by omega) (by omega))
                      have hgb := fun w' h' => tget_any t2 m2 (moveT es L) k ((n : Int) + 1) w' (HSz.out.ext h') (id_wf (by omega) (by omega))
                      rw [hgm] at hga hgb
                      generalize mvR es (rgS ns ps n) = r at *
                      obtain ⟨ra, rb, rp, rq, ru⟩ := r
                      rw [show (some (⟨ra, rb, rp, rq, ru⟩ : Rg)).getD rg0 = ⟨ra, rb, rp, rq, ru⟩ from rfl] at hga hgb
                      unfold rgV at hga hgb
                      simp only [Option.isSome_some] at hga hgb
                      have HGa := Lib.hid hga
                      have HGb := Lib.hid hgb
                      clear hga hgb hgm
                      go_wp2_with fail
                      refine HGa.out.mono ?_
                      rintro e v7 ⟨rfl, hx7⟩
                      have hz7 := hx7.alloc (.cells #[.int .i64 ra, .int .i64 rb, .bool rp, .bool rq, .int .i64 ru] 33)
                      have hb7 := Blk.new v7 33 #[.int .i64 ra, .int .i64 rb, .bool rp, .bool rq, .int .i64 ru]
                      go_wp2_with fail
                      refine (HGb.out _ (hu.ext_trans hz7)).mono ?_
                      rintro e v8 ⟨rfl, hx8⟩
                      have hb8 := hb7.mod hx8 (fun f => f)
                      have d0 := hb8.cell 0
                      have d1 := hb8.cell 1
                      have d2 := hb8.cell 2
                      have d3 := hb8.cell 3
                      have d4 := hb8.cell 4
                      simp only [List.getElem?_toArray, List.getElem?_cons_zero, List.getElem?_cons_succ] at d0 d1 d2 d3 d4
                      have hlb8 := hb8.lt
                      go_wp2_with fail
                      go_roundw
                      case rel => exact ⟨n + 1, by omega, by go_num, ((hu.ext_trans hz7).ext_trans hx8).alloc _⟩
                      case measure => simp [intOf]; omega
                    · have hn1 : ¬ (n : Int) + 1 ≤ (k : Int) := by omega
                      go_wp2_with fail
                      refine (awake7_any _).mono ?_
                      rintro e w9 ⟨rfl, hx9⟩
                      go_wp2_with fail
                      go_ret
                      exact ⟨rfl, (hxz.ext_trans hu).ext_trans hx9⟩
                · obtain ⟨d, rfl⟩ : ∃ d, c = d + 1 := ⟨c - 1, by omega⟩
                  obtain rfl : j = (d : Int) := by omega
                  have hd0 : (0 : Int) ≤ (d : Int) := by omega
                  have hd1 : (d : Int) < (es.length : Int) := by omega
                  have hdl : d < es.length := by omega
                  obtain ⟨be, oe, rfl⟩ := Hre5.out.some (by omega)
                  have hre6 := reads_mod0 Hre5.out hz (fun hz0 a ha => Hfar2.out hz0 a ha)
                  obtain ⟨p0, p1, p2⟩ := reads_ed hre6 (List.getElem?_eq_getElem hdl)
                  have Hstp := Lib.hid (fun (B : Int) (h : Tok (singT es L (d + 1)) k B) => singT_step (L := L) (List.getElem?_eq_getElem hdl) h HU.out)
                  have HTd := Lib.hid (singT_tok HTK.out (by omega) Hok.out HU.out (es.length - (d + 1)) (by omega))
                  have Hoke := Lib.hid (Hok.out _ (List.getElem_mem hdl))
                  generalize es[d] = e at *
                  obtain ⟨ea, eb, et⟩ := e
                  simp only at p0 p1 p2
                  have hbe := World.block_lt_of_cell? wr _ p0
                  clear hj hre6
                  go_wp2_with fail
                  have hxv : Ext wr (wr.alloc (.cells #[.int .i64 ea, .int .i64 eb, .string et] 37)) := (Mod.refl _ wr).alloc _
                  have hbv : Reads (wr.alloc (.cells #[.int .i64 ea, .int .i64 eb, .string et] 37)) 3 (some ⟨wr.heap.size, 0, none⟩) 1 (edE.cells [⟨ea, eb, et⟩]) := Reads.new wr 37 #[.int .i64 ea, .int .i64 eb, .string et] 3 1 rfl
                  generalize wr.alloc (.cells #[.int .i64 ea, .int .i64 eb, .string et] 37) = v at *
                  rw [show es.length - (es.length - (d + 1)) = d + 1 from by omega] at HTd
                  have hv1 := HS.out.blk.lt
                  have hv2 := HS.out.map.lt
                  refine (tmove_all t2 m2 (singT es L (d + 1)) k _ [⟨ea, eb, et⟩] (some ⟨wr.heap.size, 0, none⟩) 1 v (HS.out.ext hxv) HTd.out (by omega) (by omega) hbv (by simp) (by intro e he; rw [List.mem_singleton.1 he]; exact Hoke.out.2.2.2) (fun _ a ha => by cases ha; unfold tabS; simp only; omega)).mono ?_
                  rintro e v4 hp4
                  rcases hp4 with ⟨_, rfl, h6, hm6⟩ | ⟨hne, _⟩
                  · have H6 := Lib.hid h6
                    have hz6 : Mod (tabS t2 m2) w3 v4 := (hz.trans hxv (fun _ _ f => f.elim)).trans hm6 (fun _ _ f => f)
                    clear h6 hm6 p0 p1 p2 hbe hv1 hv2 hbv hxv
                    go_wp2_with fail
                    go_roundw
                    case rel => exact ⟨d, _, by omega, rfl, by go_num, Lib.hid (by rw [← Hstp.out _ HTd.out]; exact H6.out), hz6⟩
                    case measure => simp [intOf]
                  · exact absurd (asc_ranged (es := [⟨ea, eb, et⟩]) ⟨by intro e he; rw [List.mem_singleton.1 he]; exact Hoke.out.2.1, List.pairwise_singleton _ _⟩ (by intro e he; rw [List.mem_singleton.1 he]; exact ⟨Hoke.out.1, Hoke.out.2.2.1⟩)) hne
            · exact absurd Hrg.out hne
          · have q3 : ¬ (es.length : Int) < (gs.length : Int) := by omega
            clear q1
            go_wp2_with fail
            refine HMv.out.mono ?_
            rintro e w3 hp3
            rcases hp3 with ⟨_, rfl, h5, hm5⟩ | ⟨hne, _⟩
            · have H5a := Lib.hid h5
              have H5b := Lib.hid ((H2b.out.ext hy).mod hm5 (by unfold tabS; omega) (by unfold tabS; omega))
              have Hre5 := Lib.hid (reads_mod0 Hre.out hm5 (fun hz a ha => Hfar.out hz a ha))
              have hxc : Ext w0 w3 := (hxb.ext_trans hy).trans hm5 (fun i hi e => by unfold tabS at e; omega)
              clear HMv h5 hm5
              go_wp2_with fail
              go_loopw [21] (fun i wr => ∃ (c : Nat) (j : Int), c ≤ es.length ∧ j = (c : Int) - 1 ∧ i = .int .i64 j ∧ Hid (TabAt wr t2 m2 (singT es L c) k) ∧ Mod (tabS t2 m2) w3 wr) (fun i _ => (intOf i + 1).toNat)
              case atStart => exact ⟨es.length, _, Nat.le_refl _, rfl, rfl, Lib.hid (by rw [singT_all es L (Nat.le_refl _)]; exact H5b.out), Mod.refl _ _⟩
              case round =>
                obtain ⟨c, j, hc, hj, rfl, HS, hz⟩ := hrel
                by_cases hc0 : c = 0
                · have hjn : ¬ (0 : Int) ≤ j := by omega
                  have HSz := Lib.hid (show TabAt wr t2 m2 (moveT es L) k by rw [← singT_zero HTK.out Hasc.out HU.out, ← hc0]; exact HS.out)
                  have HTz := Lib.hid (H5a.out.mod hz (by unfold tabS; omega) (by unfold tabS; omega))
                  have hxz : Ext w0 wr := hxc.trans hz (fun i hi e => by unfold tabS at e; omega)
                  have HM := Lib.hid (moveT_free HTK.out HU.out es)
                  clear hc0 hj HS H5a H5b hz hxc
                  go_wp2_with fail
                  go_loopw [22] (fun i wq => ∃ n : Nat, n ≤ k ∧ i = .int .i64 ((n : Int) + 1) ∧ Ext wr wq) (fun i _ => k + 1 - (intOf i).toNat)
                  case atStart => exact ⟨0, by omega, rfl, Mod.refl _ _⟩
                  case round =>
                    obtain ⟨n, hn, rfl, hu⟩ := hrel
                    by_cases hnk : n < k
                    · have hn1 : (n : Int) + 1 ≤ (k : Int) := by omega
                      have hgm : getR (moveT es L) ((n : Int) + 1) = some (mvR es (rgS ns ps n)) := by
                        refine getR_of_mem (HTK.out.move Hok.out (by omega) (by omega)).once ?_
                        rw [HM.out]
                        exact List.mem_map.2 ⟨_, getR_mem (Hge.out n hnk), rfl⟩
                      have hga := tget_any tb mb (moveT es L) k ((n : Int) + 1) _ (HTz.out.ext hu) (id_wf (by omega) (by omega))
                      have hgb := fun w' h' => tget_any t2 m2 (moveT es L) k ((n : Int) + 1) w' (HSz.out.ext h') (id_wf (by omega) (by omega))
                      rw [hgm] at hga hgb
                      generalize mvR es (rgS ns ps n) = r at *
                      obtain ⟨ra, rb, rp, rq, ru⟩ := r
                      rw [show (some (⟨ra, rb, rp, rq, ru⟩ : Rg)).getD rg0 = ⟨ra, rb, rp, rq, ru⟩ from rfl] at hga hgb
                      unfold rgV at hga hgb
                      simp only [Option.isSome_some] at hga hgb
                      have HGa := Lib.hid hga
                      have HGb := Lib.hid hgb
                      clear hga hgb hgm
                      go_wp2_with fail
                      refine HGa.out.mono ?_
                      rintro e v7 ⟨rfl, hx7⟩
                      have hz7 := hx7.alloc (.cells #[.int .i64 ra, .int .i64 rb, .bool rp, .bool rq, .int .i64 ru] 33)
                      have hb7 := Blk.new v7 33 #[.int .i64 ra, .int .i64 rb, .bool rp, .bool rq, .int .i64 ru]
                      go_wp2_with fail
                      refine (HGb.out _ (hu.ext_trans hz7)).mono ?_
                      rintro e v8 ⟨rfl, hx8⟩
                      have hb8 := hb7.mod hx8 (fun f => f)
                      have d0 := hb8.cell 0
                      have d1 := hb8.cell 1
                      have d2 := hb8.cell 2
                      have d3 := hb8.cell 3
                      have d4 := hb8.cell 4
                      simp only [List.getElem?_toArray, List.getElem?_cons_zero, List.getElem?_cons_succ] at d0 d1 d2 d3 d4
                      have hlb8 := hb8.lt
                      go_wp2_with fail
                      go_roundw
                      case rel => exact ⟨n + 1, by omega, by go_num, ((hu.ext_trans hz7).ext_trans hx8).alloc _⟩
                      case measure => simp [intOf]; omega
                    · have hn1 : ¬ (n : Int) + 1 ≤ (k : Int) := by omega
                      go_wp2_with fail
                      refine (awake7_any _).mono ?_
                      rintro e w9 ⟨rfl, hx9⟩
                      go_wp2_with fail
                      go_ret
                      exact ⟨rfl, (hxz.ext_trans hu).ext_trans hx9⟩
                · obtain ⟨d, rfl⟩ : ∃ d, c = d + 1 := ⟨c - 1, by omega⟩
                  obtain rfl : j = (d : Int) := by omega
                  have hd0 : (0 : Int) ≤ (d : Int) := by omega
                  have hd1 : (d : Int) < (es.length : Int) := by omega
                  have hdl : d < es.length := by omega
                  obtain ⟨be, oe, rfl⟩ := Hre5.out.some (by omega)
                  have hre6 := reads_mod0 Hre5.out hz (fun hz0 a ha => Hfar2.out hz0 a ha)
                  obtain ⟨p0, p1, p2⟩ := reads_ed hre6 (List.getElem?_eq_getElem hdl)
                  have Hstp := Lib.hid (fun (B : Int) (h : Tok (singT es L (d + 1)) k B) => singT_step (L := L) (List.getElem?_eq_getElem hdl) h HU.out)
                  have HTd := Lib.hid (singT_tok HTK.out (by omega) Hok.out HU.out (es.length - (d + 1)) (by omega))
                  have Hoke := Lib.hid (Hok.out _ (List.getElem_mem hdl))
                  generalize es[d] = e at *
                  obtain ⟨ea, eb, et⟩ := e
                  simp only at p0 p1 p2
                  have hbe := World.block_lt_of_cell? wr _ p0
                  clear hj hre6
                  go_wp2_with fail
                  have hxv : Ext wr (wr.alloc (.cells #[.int .i64 ea, .int .i64 eb, .string et] 37)) := (Mod.refl _ wr).alloc _
                  have hbv : Reads (wr.alloc (.cells #[.int .i64 ea, .int .i64 eb, .string et] 37)) 3 (some ⟨wr.heap.size, 0, none⟩) 1 (edE.cells [⟨ea, eb, et⟩]) := Reads.new wr 37 #[.int .i64 ea, .int .i64 eb, .string et] 3 1 rfl
                  generalize wr.alloc (.cells #[.int .i64 ea, .int .i64 eb, .string et] 37) = v at *
                  rw [show es.length - (es.length - (d + 1)) = d + 1 from by omega] at HTd
                  have hv1 := HS.out.blk.lt
                  have hv2 := HS.out.map.lt
                  refine (tmove_all t2 m2 (singT es L (d + 1)) k _ [⟨ea, eb, et⟩] (some ⟨wr.heap.size, 0, none⟩) 1 v (HS.out.ext hxv) HTd.out (by omega) (by omega) hbv (by simp) (by intro e he; rw [List.mem_singleton.1 he]; exact Hoke.out.2.2.2) (fun _ a ha => by cases ha; unfold tabS; simp only; omega)).mono ?_
                  rintro e v4 hp4
                  rcases hp4 with ⟨_, rfl, h6, hm6⟩ | ⟨hne, _⟩
                  · have H6 := Lib.hid h6
                    have hz6 : Mod (tabS t2 m2) w3 v4 := (hz.trans hxv (fun _ _ f => f.elim)).trans hm6 (fun _ _ f => f)
                    clear h6 hm6 p0 p1 p2 hbe hv1 hv2 hbv hxv
                    go_wp2_with fail
                    go_roundw
                    case rel => exact ⟨d, _, by omega, rfl, by go_num, Lib.hid (by rw [← Hstp.out _ HTd.out]; exact H6.out), hz6⟩
                    case measure => simp [intOf]
                  · exact absurd (asc_ranged (es := [⟨ea, eb, et⟩]) ⟨by intro e he; rw [List.mem_singleton.1 he]; exact Hoke.out.2.1, List.pairwise_singleton _ _⟩ (by intro e he; rw [List.mem_singleton.1 he]; exact ⟨Hoke.out.1, Hoke.out.2.2.1⟩)) hne
            · exact absurd Hrg.out hne
end Go.Proofs.Ytffplppglicibaa

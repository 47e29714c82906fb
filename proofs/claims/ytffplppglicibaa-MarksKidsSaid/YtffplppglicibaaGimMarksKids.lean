/- Ids rise; each is among the Kids of just its parent; At tells just those that reach there: the walk. Conditions: none. -/
import Derived.Test.YtffplppglicibaaGimKidsP
import Derived.Test.YtffplppglicibaaGimSame
import Derived.Test.YtffplppglicibaaGimAwake7
import Derived.BigQuiet
namespace Go.Proofs.Ytffplppglicibaa
open Go.RowKit Go.Gim

set_option maxHeartbeats 3200000 in
set_option maxRecDepth 1000000 in
theorem marksKids_any (w : World) (ao : Option Addr) (cap : Nat) (xs : List Dm) (hr : Reads w 7 ao xs.length (dmE.cells xs)) (hok : ∀ x ∈ xs, DmOk w x) (hn : xs.length ≤ 20) (hmu : muchD xs = false) (o : Int) :
    Calls Try.prog 9 #[.slice ao xs.length cap, .int .i64 o] w fun e w' => e = .returned (.bool true) ∧ Ext w w' := by
  have HD := Lib.hid (doneD_ok hn (muchD_no hmu))
  have Hno := Lib.hid (muchD_no hmu)
  have HM := muchM_any ao cap xs w hr hok (by unfold maxLen; omega)
  rw [if_neg (by omega), hmu] at HM
  have HM' := Lib.hid HM
  obtain ⟨N, hN⟩ : ∃ N, N = xs.length := ⟨_, rfl⟩
  have HN := Lib.hid hN
  have Hr := Lib.hid hr
  have Hok := Lib.hid hok
  rw [← hN] at hn HM' ⊢
  clear hr hok hmu HM hN
  go_enter Try.func9, Try.ntmps9
  go_wp2_with fail
  refine HM'.out.mono ?_
  rintro e w0 ⟨rfl, rfl⟩
  clear HM'
  go_wp2_with fail
  refine (tnew_any w0).mono ?_
  rintro e w1 ⟨tb, mb, rfl, h1, l1, l2, hx1⟩
  have H1 := Lib.hid h1
  have L1 := Lib.hid l1
  have L2 := Lib.hid l2
  clear h1 l1 l2
  go_wp2_with fail
  go_loopw [6] (fun i wr => ∃ k : Nat, k ≤ N ∧ i = .int .i64 k ∧ Hid (TabAt wr tb mb (doneD (xs.take k)).1 (doneD (xs.take k)).2) ∧ Ext w0 wr) (fun i _ => N - (intOf i).toNat)
  case atStart => exact ⟨0, by omega, rfl, H1, hx1⟩
  case round =>
    obtain ⟨k, hk, rfl, HT, hxr⟩ := hrel
    clear H1 hx1
    have hl1 := L1.out
    have hl2 := L2.out
    by_cases hlt : k < N
    · have hlt' : (k : Int) < (N : Int) := by omega
      have hk0 : (0 : Int) ≤ (k : Int) := by omega
      have hlk : k < xs.length := by rw [← HN.out]; exact hlt
      obtain ⟨b, off, rfl⟩ := Hr.out.some (by rw [← HN.out]; omega)
      obtain ⟨⟨q0, q1, q2, q3⟩, q4, q5, q6⟩ := reads_dm (Hr.out.mod hxr (fun _ _ f => f)) (List.getElem?_eq_getElem hlk)
      have hst := doneD_snoc (List.getElem?_eq_getElem hlk)
      obtain ⟨t1, t2, _⟩ := HD.out k (by omega)
      obtain ⟨t3, t4, t5⟩ := HD.out (k + 1) (by omega)
      obtain ⟨m1, m2⟩ := Hno.out _ (List.getElem_mem hlk)
      have HC := Lib.hid (does_any xs[k] tb mb _ _ _ w0 wr HT.out t1 (by omega) (by omega) (Hok.out _ (List.getElem_mem hlk)) hxr m1 m2 hl1 hl2)
      generalize xs[k] = x at *
      unfold stepD at hst
      rw [hst] at t3 t4 t5
      have Hst := Lib.hid hst
      generalize doesD x (doneD (xs.take k)).1 (doneD (xs.take k)).2 = d at *
      simp only at t3 t4 t5
      unfold DnPost dmV at HC
      have T3 := Lib.hid t3
      have T4 := Lib.hid t4
      have T5 := Lib.hid t5
      have hbl := World.block_lt_of_cell? wr _ q0
      clear t1 t2 t3 t4 t5 m1 m2 hst
      go_wp2_with fail
      refine HC.out.mono ?_
      rintro e w2 ⟨rfl, h2, hm2⟩
      have hx2 : Ext w0 w2 := hxr.trans hm2 (fun i hi e => by unfold tabS at e; omega)
      have H2 := Lib.hid h2
      clear HC h2 hm2 hbl q0 q1 q2 q3 q4 q5 q6 HT hxr
      go_wp2_with fail
      go_roundw
      case rel => exact ⟨k + 1, by omega, by go_num, Lib.hid (by rw [Hst.out]; exact H2.out), hx2⟩
      case measure => simp [intOf]; omega
    · have hlt' : ¬ (k : Int) < (N : Int) := by omega
      obtain rfl : k = N := by omega
      obtain ⟨t1, t2, t3⟩ := HD.out k (by rw [← HN.out]; exact Nat.le_refl _)
      have h3 := HT.out
      rw [List.take_of_length_le (by rw [← HN.out]; exact Nat.le_refl _)] at h3 t1
      generalize (doneD xs).1 = L at *
      generalize (doneD xs).2 = last at *
      clear HT t2 t3 HD Hno Hok Hr
      obtain ⟨Bd, hBd⟩ : ∃ Bd : Int, Bd = 65536 + (k : Int) * 2000000 := ⟨_, rfl⟩
      rw [← hBd] at t1
      clear hBd
      have HT := Lib.hid t1
      have HI := Lib.hid (ids_any tb mb _ _ wr h3.blk h3.map t1.rise (Nat.le_trans t1.len (by omega)))
      have H2 := Lib.hid h3
      unfold Enc.Out at HI
      clear h3 t1
      go_wp2_with fail
      refine HI.out.mono ?_
      rintro e w2 ⟨v, rfl, hov, hx2⟩
      obtain ⟨a1, c1, rfl, hrd⟩ := Enc.owns_reads (E := inE) hov
      obtain ⟨M, hM⟩ : ∃ M, M = (idsR L).length := ⟨_, rfl⟩
      have HMM := Lib.hid hM
      have hMl : M = L.length := by rw [hM]; unfold idsR; rw [List.length_map]
      have HMl := Lib.hid hMl
      have hM2 : M ≤ 256 := by rw [hMl]; exact HT.out.len
      rw [← hM] at hrd ⊢
      have Hrd2 := Lib.hid hrd
      have H2b := Lib.hid (H2.out.ext hx2)
      have hxa := hxr.ext_trans hx2
      clear hov hrd HI H2 hxr hx2 hM hMl
      have HK0 := Lib.hid (tkids_any tb mb L last Bd 0 w2 H2b.out HT.out)
      unfold Enc.Out at HK0
      go_wp2_with fail
      refine HK0.out.mono ?_
      rintro e w3 ⟨v0, rfl, ho0, hx3⟩
      obtain ⟨a0, c0, rfl, _⟩ := Enc.owns_reads (E := inE) ho0
      rw [← cntK_zero]
      have Hrd := Lib.hid (Hrd2.out.mod hx3 (fun _ _ f => f))
      have H3 := Lib.hid (H2b.out.ext hx3)
      have hxb := hxa.ext_trans hx3
      clear HK0 ho0 hx3 Hrd2 H2b hxa
      go_wp2_with fail
      go_loopw [8, 9, 10] (fun mn v i wr => ∃ k : Nat, k ≤ M ∧ i = .int .i64 k ∧ mn = .int .i64 (cntK L k : Nat) ∧ Hid (wr.ownsRow w3.heap.size 3 1 v (idsBy (fun r => hasS (r.a, r.b) o) (L.take k)).length (inE.cells (idsBy (fun r => hasS (r.a, r.b) o) (L.take k)))) ∧ Ext w3 wr) (fun _ _ i _ => M - (intOf i).toNat)
      case atStart => exact ⟨0, by omega, rfl, rfl, Lib.hid (World.ownsRow_nil _ _ _ _), Mod.refl _ _⟩
      case round =>
        obtain ⟨k, hk, rfl, rfl, HO, hy⟩ := hrel
        by_cases hlt : k < M
        · have hlt' : (k : Int) < (M : Int) := by omega
          have hk0 : (0 : Int) ≤ (k : Int) := by omega
          obtain ⟨bi, oi, rfl⟩ := Hrd.out.some (by omega)
          have hmL : k < L.length := by rw [← HMl.out]; exact hlt
          have hkL : L[k]? = some (L[k]'hmL) := List.getElem?_eq_getElem _
          have hidK : (idsR L)[k]? = some (L[k]'hmL).1 := by unfold idsR; rw [List.getElem?_map, hkL]; rfl
          have q0 := rdIn_at (Hrd.out.mod hy (fun _ _ f => f)) hidK
          have hgr := getR_of_mem HT.out.once (show ((L[k]'hmL).1, (L[k]'hmL).2) ∈ L from List.getElem_mem _)
          have hib := HT.out.ids _ (List.getElem_mem hmL)
          have hst := idsBy_snoc (fun r => hasS (r.a, r.b) o) hkL
          have hcnt := cntK_step HT.out hidK
          have hlb := idsBy_len (fun r => hasS (r.a, r.b) o) (L.take k)
          rw [List.length_take] at hlb
          have hl0 := HT.out.last0
          generalize L[k]'hmL = z at *
          obtain ⟨id, ra, rb, rp, rq, ru⟩ := z
          simp only at q0 hgr hib hst hidK hcnt
          have hidw := id_wf (id := id) (by omega) (by omega)
          have hg := tget_any tb mb _ _ id wr (H3.out.ext hy) hidw
          rw [hgr] at hg
          rw [show (some (⟨ra, rb, rp, rq, ru⟩ : Rg)).getD rg0 = ⟨ra, rb, rp, rq, ru⟩ from rfl] at hg
          unfold rgV at hg
          simp only [Option.isSome_some] at hg
          have HG := Lib.hid hg
          have HidK := Lib.hid hidK
          have Hst := Lib.hid hst
          have Hcnt := Lib.hid hcnt
          have Hlb := Lib.hid hlb
          have hid1 : ¬ id < 1 := by omega
          have hid1d : decide (id < 1) = false := decide_eq_false hid1
          have hbl := World.block_lt_of_cell? wr _ q0
          clear hg hgr hkL hidK hst hcnt hib hlb hl0 hidw
          go_wp2_with fail
          refine HG.out.mono ?_
          rintro e w5 ⟨rfl, hx5⟩
          have hy6 := (hy.ext_trans hx5).alloc (.cells #[.int .i64 ra, .int .i64 rb, .bool rp, .bool rq, .int .i64 ru] 33)
          have hb6 := Blk.new w5 33 #[.int .i64 ra, .int .i64 rb, .bool rp, .bool rq, .int .i64 ru]
          have HO6 := Lib.hid (ownsRow_mod HO.out ((hx5.alloc (.cells #[.int .i64 ra, .int .i64 rb, .bool rp, .bool rq, .int .i64 ru] 33))) (fun _ _ f => f))
          have q0 := rdIn_at (Hrd.out.mod hy6 (fun _ _ f => f)) HidK.out
          clear HG hbl HO hx5 hy
          have HKg := Lib.hid (kids_get HT.out id)
          have Hid0 := Lib.hid (show id ≠ 0 by omega)
          go_upto_region 15 with fail
          generalize w5.alloc (.cells #[.int .i64 ra, .int .i64 rb, .bool rp, .bool rq, .int .i64 ru] 33) = w6 at *
          have hbl := World.block_lt_of_cell? _ _ q0
          rcases Nat.eq_zero_or_pos k with h0 | h0
          · have hk00 : decide (0 < k) = false := decide_eq_false (by omega)
            have hk01 : ¬ (0 : Int) < (k : Int) := by omega
            have hk02 : decide ((0 : Int) < (k : Int)) = false := decide_eq_false (by omega)
            clear h0
            go_quiet (fail)
            obtain ⟨w7, hw7⟩ : ∃ w7, w7 = w6.drewN nq := ⟨_, rfl⟩
            have hxe : Ext w6 w7 := by rw [hw7]; exact (Mod.refl _ w6).drewN _
            rw [← hw7]
            clear hw7 hk00 hk01 hk02 hid1 hid1d hbl
            have hy7 := hy6.ext_trans hxe
            have hb7 := hb6.mod hxe (fun f => f)
            have HO7 := Lib.hid (ownsRow_mod HO6.out hxe (fun _ _ f => f))
            clear q0 hb6 HO6 hy6
            have d0 := hb7.cell 0
            have d1 := hb7.cell 1
            simp only [List.getElem?_toArray, List.getElem?_cons_zero, List.getElem?_cons_succ] at d0 d1
            have hlb7 := hb7.lt
            by_cases ha : ra ≤ o
            · by_cases hb : o ≤ rb
              · have hso : hasS (ra, rb) o = true := decide_eq_true ⟨ha, hb⟩
                have Hst2 := Lib.hid (show idsBy (fun r => hasS (r.a, r.b) o) (L.take (k + 1)) = idsBy (fun r => hasS (r.a, r.b) o) (L.take k) ++ [id] by rw [Hst.out]; simp only [hso, if_true])
                have q0 := rdIn_at (Hrd.out.mod hy7 (fun _ _ f => f)) HidK.out
                have hbl7 := World.block_lt_of_cell? w7 _ q0
                clear hso Hst
                have hmax : maxLen = 9223372036854775807 := rfl
                go_wp2_with (at_builtin; refine wpList_append_reads rfl _ _ 43 rfl w3.heap.size 3 _ 1 8 Try.info3 Try.underlying43 rfl (by decide) _ (idsBy (fun r => hasS (r.a, r.b) o) (L.take k)).length _ rfl (HO7.out.alloc _) _ 1 1 [.int .i64 id] rfl ?hrd (inE.one id) (by have := Hlb.out; omega) (by have := Hlb.out; omega) ?hbs ?_)
                case hrd =>
                  have := Reads.new w7 3 #[.int .i64 id] 1 1 rfl
                  simpa using this
                case hbs => have := hy7.size; simp at this ⊢; omega
                intro v' wk hown hmk hbk
                have hyk0 := (hy7.alloc (.cells #[.int .i64 id] 3)).over hmk (fun i hi => (HO7.out.lt i hi).1)
                have HOK := Lib.hid (show wk.ownsRow w3.heap.size 3 1 v' (idsBy (fun r => hasS (r.a, r.b) o) (L.take (k + 1))).length (inE.cells (idsBy (fun r => hasS (r.a, r.b) o) (L.take (k + 1)))) by rw [Hst2.out, inE.cells_append, List.length_append]; exact hown)
                clear hmk hbk hown q0 d0 d1 hb7 HO7 hbl7 hlb7 hy7
                have hyk := hyk0
                have q0 := rdIn_at (Hrd.out.mod hyk (fun _ _ f => f)) HidK.out
                have hbl := World.block_lt_of_cell? wk _ q0
                have HK := Lib.hid (tkids_any tb mb L last Bd id wk (H3.out.ext hyk) HT.out)
                unfold Enc.Out at HK
                go_wp2_with fail
                refine HK.out.mono ?_
                rintro e w8 ⟨vk, rfl, hok8, hx8⟩
                obtain ⟨a8, c8, rfl, hrd8⟩ := Enc.owns_reads (E := inE) hok8
                have HS := HKg
                have HSl := Lib.hid (idsBy_len (fun r => r.u == id) L)
                have HNL := Lib.hid HT.out.len
                have Hcnt2 := Hcnt.out
                generalize (idsBy (fun r => r.u == id) L) = S at *
                obtain ⟨Q, hQ⟩ : ∃ Q, Q = S.length := ⟨_, rfl⟩
                have HQ := Lib.hid hQ
                have hQ2 : Q ≤ 256 := by rw [hQ]; exact Nat.le_trans HSl.out HNL.out
                rw [← hQ] at hrd8 ⊢
                have Hcn := Lib.hid (show cntK L (k + 1) = cntK L k + Q by rw [hQ]; exact Hcnt2)
                have Hrd8 := Lib.hid hrd8
                have HO8 := Lib.hid (ownsRow_mod HOK.out hx8 (fun _ _ f => f))
                have hy8 := hyk.ext_trans hx8
                have hck := cntK_le L k
                have hck2 := HNL.out
                clear hok8 hrd8 HK q0 hbl hQ Hcnt2 HOK hyk
                go_wp2_with fail
                go_loopw [14] (fun j wr => ∃ m : Nat, m ≤ Q ∧ j = .int .i64 m ∧ Ext w8 wr) (fun j _ => Q - (intOf j).toNat)
                case atStart => exact ⟨0, by omega, rfl, Mod.refl _ _⟩
                case round =>
                  obtain ⟨m, hmQ, rfl, hz⟩ := hrel
                  by_cases hlm : m < Q
                  · have hlm' : (m : Int) < (Q : Int) := by omega
                    have hm0 : (0 : Int) ≤ (m : Int) := by omega
                    have hmS : m < S.length := by rw [← HQ.out]; exact hlm
                    obtain ⟨b8, o8, rfl⟩ := Hrd8.out.some (by omega)
                    have p0 := rdIn_at (Hrd8.out.mod hz (fun _ _ f => f)) (List.getElem?_eq_getElem hmS)
                    obtain ⟨y, hgy, hyu, hlt8, hwf8⟩ := HS.out _ (List.getElem_mem hmS) Hid0.out
                    have HSm := Lib.hid (List.getElem?_eq_getElem hmS)
                    generalize S[m] = kid at *
                    have hlt8d : decide (kid ≤ id) = false := decide_eq_false (by omega)
                    have hg8 := fun w' (h' : Ext w8 w') => tget_any tb mb L last kid w' ((H3.out.ext hy8).ext h') hwf8
                    rw [hgy] at hg8
                    obtain ⟨ya, yb, yp, yq, yu⟩ := y
                    simp only at hyu
                    subst hyu
                    rw [show (some (⟨ya, yb, yp, yq, yu⟩ : Rg)).getD rg0 = ⟨ya, yb, yp, yq, yu⟩ from rfl] at hg8
                    unfold rgV at hg8
                    simp only [Option.isSome_some] at hg8
                    have HG8 := Lib.hid hg8
                    have hbl8 := World.block_lt_of_cell? _ _ p0
                    clear hg8 hgy hwf8
                    go_wp2_with fail
                    refine (HG8.out _ hz).mono ?_
                    rintro e w9 ⟨rfl, hx9⟩
                    have hz9 := (hz.ext_trans hx9).alloc (.cells #[.int .i64 ya, .int .i64 yb, .bool yp, .bool yq, .int .i64 yu] 33)
                    have hb9 := Blk.new w9 33 #[.int .i64 ya, .int .i64 yb, .bool yp, .bool yq, .int .i64 yu]
                    have p0 := rdIn_at (Hrd8.out.mod hz9 (fun _ _ f => f)) HSm.out
                    have q0 := rdIn_at (Hrd.out.mod (hy8.ext_trans hz9) (fun _ _ f => f)) HidK.out
                    go_upto_region 25 with fail
                    go_quiet (fail)
                    go_wp2_with fail
                    go_roundw
                    case rel => exact ⟨m + 1, by omega, by go_num, by first | exact hz9 | exact hz9.drewN _ | exact hz9.drew⟩
                    case measure => simp [intOf]; omega
                  · have hlm' : ¬ (m : Int) < (Q : Int) := by omega
                    go_wp2_with fail
                    go_roundw
                    case rel => exact ⟨k + 1, by omega, by go_num, by rw [Hcn.out]; go_num, Lib.hid (ownsRow_mod HO8.out hz (fun _ _ f => f)), hy8.ext_trans hz⟩
                    case measure => simp [intOf]; omega
              · have hso : hasS (ra, rb) o = false := decide_eq_false (fun h => hb h.2)
                have Hst2 := Lib.hid (show idsBy (fun r => hasS (r.a, r.b) o) (L.take (k + 1)) = idsBy (fun r => hasS (r.a, r.b) o) (L.take k) by rw [Hst.out]; simp only [hso, Bool.false_eq_true, if_false, List.append_nil])
                have HOK := Lib.hid (show World.ownsRow w7 w3.heap.size 3 1 _ (idsBy (fun r => hasS (r.a, r.b) o) (L.take (k + 1))).length (inE.cells (idsBy (fun r => hasS (r.a, r.b) o) (L.take (k + 1)))) by rw [Hst2.out]; exact HO7.out)
                have hyk0 := hy7
                clear hso Hst HO7 hy7
                have hyk := hyk0
                have q0 := rdIn_at (Hrd.out.mod hyk (fun _ _ f => f)) HidK.out
                have hbl := World.block_lt_of_cell? w7 _ q0
                have HK := Lib.hid (tkids_any tb mb L last Bd id w7 (H3.out.ext hyk) HT.out)
                unfold Enc.Out at HK
                go_wp2_with fail
                refine HK.out.mono ?_
                rintro e w8 ⟨vk, rfl, hok8, hx8⟩
                obtain ⟨a8, c8, rfl, hrd8⟩ := Enc.owns_reads (E := inE) hok8
                have HS := HKg
                have HSl := Lib.hid (idsBy_len (fun r => r.u == id) L)
                have HNL := Lib.hid HT.out.len
                have Hcnt2 := Hcnt.out
                generalize (idsBy (fun r => r.u == id) L) = S at *
                obtain ⟨Q, hQ⟩ : ∃ Q, Q = S.length := ⟨_, rfl⟩
                have HQ := Lib.hid hQ
                have hQ2 : Q ≤ 256 := by rw [hQ]; exact Nat.le_trans HSl.out HNL.out
                rw [← hQ] at hrd8 ⊢
                have Hcn := Lib.hid (show cntK L (k + 1) = cntK L k + Q by rw [hQ]; exact Hcnt2)
                have Hrd8 := Lib.hid hrd8
                have HO8 := Lib.hid (ownsRow_mod HOK.out hx8 (fun _ _ f => f))
                have hy8 := hyk.ext_trans hx8
                have hck := cntK_le L k
                have hck2 := HNL.out
                clear hok8 hrd8 HK q0 hbl hQ Hcnt2 HOK hyk
                go_wp2_with fail
                go_loopw [14] (fun j wr => ∃ m : Nat, m ≤ Q ∧ j = .int .i64 m ∧ Ext w8 wr) (fun j _ => Q - (intOf j).toNat)
                case atStart => exact ⟨0, by omega, rfl, Mod.refl _ _⟩
                case round =>
                  obtain ⟨m, hmQ, rfl, hz⟩ := hrel
                  by_cases hlm : m < Q
                  · have hlm' : (m : Int) < (Q : Int) := by omega
                    have hm0 : (0 : Int) ≤ (m : Int) := by omega
                    have hmS : m < S.length := by rw [← HQ.out]; exact hlm
                    obtain ⟨b8, o8, rfl⟩ := Hrd8.out.some (by omega)
                    have p0 := rdIn_at (Hrd8.out.mod hz (fun _ _ f => f)) (List.getElem?_eq_getElem hmS)
                    obtain ⟨y, hgy, hyu, hlt8, hwf8⟩ := HS.out _ (List.getElem_mem hmS) Hid0.out
                    have HSm := Lib.hid (List.getElem?_eq_getElem hmS)
                    generalize S[m] = kid at *
                    have hlt8d : decide (kid ≤ id) = false := decide_eq_false (by omega)
                    have hg8 := fun w' (h' : Ext w8 w') => tget_any tb mb L last kid w' ((H3.out.ext hy8).ext h') hwf8
                    rw [hgy] at hg8
                    obtain ⟨ya, yb, yp, yq, yu⟩ := y
                    simp only at hyu
                    subst hyu
                    rw [show (some (⟨ya, yb, yp, yq, yu⟩ : Rg)).getD rg0 = ⟨ya, yb, yp, yq, yu⟩ from rfl] at hg8
                    unfold rgV at hg8
                    simp only [Option.isSome_some] at hg8
                    have HG8 := Lib.hid hg8
                    have hbl8 := World.block_lt_of_cell? _ _ p0
                    clear hg8 hgy hwf8
                    go_wp2_with fail
                    refine (HG8.out _ hz).mono ?_
                    rintro e w9 ⟨rfl, hx9⟩
                    have hz9 := (hz.ext_trans hx9).alloc (.cells #[.int .i64 ya, .int .i64 yb, .bool yp, .bool yq, .int .i64 yu] 33)
                    have hb9 := Blk.new w9 33 #[.int .i64 ya, .int .i64 yb, .bool yp, .bool yq, .int .i64 yu]
                    have p0 := rdIn_at (Hrd8.out.mod hz9 (fun _ _ f => f)) HSm.out
                    have q0 := rdIn_at (Hrd.out.mod (hy8.ext_trans hz9) (fun _ _ f => f)) HidK.out
                    go_upto_region 25 with fail
                    go_quiet (fail)
                    go_wp2_with fail
                    go_roundw
                    case rel => exact ⟨m + 1, by omega, by go_num, by first | exact hz9 | exact hz9.drewN _ | exact hz9.drew⟩
                    case measure => simp [intOf]; omega
                  · have hlm' : ¬ (m : Int) < (Q : Int) := by omega
                    go_wp2_with fail
                    go_roundw
                    case rel => exact ⟨k + 1, by omega, by go_num, by rw [Hcn.out]; go_num, Lib.hid (ownsRow_mod HO8.out hz (fun _ _ f => f)), hy8.ext_trans hz⟩
                    case measure => simp [intOf]; omega
            · have hso : hasS (ra, rb) o = false := decide_eq_false (fun h => ha h.1)
              have Hst2 := Lib.hid (show idsBy (fun r => hasS (r.a, r.b) o) (L.take (k + 1)) = idsBy (fun r => hasS (r.a, r.b) o) (L.take k) by rw [Hst.out]; simp only [hso, Bool.false_eq_true, if_false, List.append_nil])
              have HOK := Lib.hid (show World.ownsRow w7 w3.heap.size 3 1 _ (idsBy (fun r => hasS (r.a, r.b) o) (L.take (k + 1))).length (inE.cells (idsBy (fun r => hasS (r.a, r.b) o) (L.take (k + 1)))) by rw [Hst2.out]; exact HO7.out)
              have hyk0 := hy7
              clear hso Hst HO7 hy7
              have hyk := hyk0
              have q0 := rdIn_at (Hrd.out.mod hyk (fun _ _ f => f)) HidK.out
              have hbl := World.block_lt_of_cell? w7 _ q0
              have HK := Lib.hid (tkids_any tb mb L last Bd id w7 (H3.out.ext hyk) HT.out)
              unfold Enc.Out at HK
              go_wp2_with fail
              refine HK.out.mono ?_
              rintro e w8 ⟨vk, rfl, hok8, hx8⟩
              obtain ⟨a8, c8, rfl, hrd8⟩ := Enc.owns_reads (E := inE) hok8
              have HS := HKg
              have HSl := Lib.hid (idsBy_len (fun r => r.u == id) L)
              have HNL := Lib.hid HT.out.len
              have Hcnt2 := Hcnt.out
              generalize (idsBy (fun r => r.u == id) L) = S at *
              obtain ⟨Q, hQ⟩ : ∃ Q, Q = S.length := ⟨_, rfl⟩
              have HQ := Lib.hid hQ
              have hQ2 : Q ≤ 256 := by rw [hQ]; exact Nat.le_trans HSl.out HNL.out
              rw [← hQ] at hrd8 ⊢
              have Hcn := Lib.hid (show cntK L (k + 1) = cntK L k + Q by rw [hQ]; exact Hcnt2)
              have Hrd8 := Lib.hid hrd8
              have HO8 := Lib.hid (ownsRow_mod HOK.out hx8 (fun _ _ f => f))
              have hy8 := hyk.ext_trans hx8
              have hck := cntK_le L k
              have hck2 := HNL.out
              clear hok8 hrd8 HK q0 hbl hQ Hcnt2 HOK hyk
              go_wp2_with fail
              go_loopw [14] (fun j wr => ∃ m : Nat, m ≤ Q ∧ j = .int .i64 m ∧ Ext w8 wr) (fun j _ => Q - (intOf j).toNat)
              case atStart => exact ⟨0, by omega, rfl, Mod.refl _ _⟩
              case round =>
                obtain ⟨m, hmQ, rfl, hz⟩ := hrel
                by_cases hlm : m < Q
                · have hlm' : (m : Int) < (Q : Int) := by omega
                  have hm0 : (0 : Int) ≤ (m : Int) := by omega
                  have hmS : m < S.length := by rw [← HQ.out]; exact hlm
                  obtain ⟨b8, o8, rfl⟩ := Hrd8.out.some (by omega)
                  have p0 := rdIn_at (Hrd8.out.mod hz (fun _ _ f => f)) (List.getElem?_eq_getElem hmS)
                  obtain ⟨y, hgy, hyu, hlt8, hwf8⟩ := HS.out _ (List.getElem_mem hmS) Hid0.out
                  have HSm := Lib.hid (List.getElem?_eq_getElem hmS)
                  generalize S[m] = kid at *
                  have hlt8d : decide (kid ≤ id) = false := decide_eq_false (by omega)
                  have hg8 := fun w' (h' : Ext w8 w') => tget_any tb mb L last kid w' ((H3.out.ext hy8).ext h') hwf8
                  rw [hgy] at hg8
                  obtain ⟨ya, yb, yp, yq, yu⟩ := y
                  simp only at hyu
                  subst hyu
                  rw [show (some (⟨ya, yb, yp, yq, yu⟩ : Rg)).getD rg0 = ⟨ya, yb, yp, yq, yu⟩ from rfl] at hg8
                  unfold rgV at hg8
                  simp only [Option.isSome_some] at hg8
                  have HG8 := Lib.hid hg8
                  have hbl8 := World.block_lt_of_cell? _ _ p0
                  clear hg8 hgy hwf8
                  go_wp2_with fail
                  refine (HG8.out _ hz).mono ?_
                  rintro e w9 ⟨rfl, hx9⟩
                  have hz9 := (hz.ext_trans hx9).alloc (.cells #[.int .i64 ya, .int .i64 yb, .bool yp, .bool yq, .int .i64 yu] 33)
                  have hb9 := Blk.new w9 33 #[.int .i64 ya, .int .i64 yb, .bool yp, .bool yq, .int .i64 yu]
                  have p0 := rdIn_at (Hrd8.out.mod hz9 (fun _ _ f => f)) HSm.out
                  have q0 := rdIn_at (Hrd.out.mod (hy8.ext_trans hz9) (fun _ _ f => f)) HidK.out
                  go_upto_region 25 with fail
                  go_quiet (fail)
                  go_wp2_with fail
                  go_roundw
                  case rel => exact ⟨m + 1, by omega, by go_num, by first | exact hz9 | exact hz9.drewN _ | exact hz9.drew⟩
                  case measure => simp [intOf]; omega
                · have hlm' : ¬ (m : Int) < (Q : Int) := by omega
                  go_wp2_with fail
                  go_roundw
                  case rel => exact ⟨k + 1, by omega, by go_num, by rw [Hcn.out]; go_num, Lib.hid (ownsRow_mod HO8.out hz (fun _ _ f => f)), hy8.ext_trans hz⟩
                  case measure => simp [intOf]; omega
          · obtain ⟨j, hj⟩ : ∃ j, k = j + 1 := ⟨k - 1, by omega⟩
            have hkp : decide (0 < k) = true := decide_eq_true (by omega)
            have hkp2 : decide ((0 : Int) < (k : Int)) = true := decide_eq_true (by omega)
            have hkj : (k : Int) - 1 = (j : Int) := by omega
            have hjM : (j : Int) < (M : Int) := by omega
            have hj0 : (0 : Int) ≤ (j : Int) := by omega
            have hjL : j < (idsR L).length := by rw [← HMM.out]; omega
            have qp := rdIn_at (Hrd.out.mod hy6 (fun _ _ f => f)) (List.getElem?_eq_getElem hjL)
            have hlej : ¬ id ≤ (idsR L)[j] := by
              obtain ⟨hkk, e⟩ := List.getElem?_eq_some_iff.1 HidK.out
              have := List.pairwise_iff_getElem.1 HT.out.rise j k hjL hkk (by omega)
              rw [e] at this
              omega
            have hlejd : decide (id ≤ (idsR L)[j]) = false := decide_eq_false hlej
            generalize (idsR L)[j] = idp at *
            clear hj hjL h0
            go_quiet (fail)
            obtain ⟨w7, hw7⟩ : ∃ w7, w7 = w6.drewN nq := ⟨_, rfl⟩
            have hxe : Ext w6 w7 := by rw [hw7]; exact (Mod.refl _ w6).drewN _
            rw [← hw7]
            clear hw7 hkp hkp2 hkj hjM hj0 qp hlej hlejd hid1 hid1d hbl
            have hy7 := hy6.ext_trans hxe
            have hb7 := hb6.mod hxe (fun f => f)
            have HO7 := Lib.hid (ownsRow_mod HO6.out hxe (fun _ _ f => f))
            clear q0 hb6 HO6 hy6
            have d0 := hb7.cell 0
            have d1 := hb7.cell 1
            simp only [List.getElem?_toArray, List.getElem?_cons_zero, List.getElem?_cons_succ] at d0 d1
            have hlb7 := hb7.lt
            by_cases ha : ra ≤ o
            · by_cases hb : o ≤ rb
              · have hso : hasS (ra, rb) o = true := decide_eq_true ⟨ha, hb⟩
                have Hst2 := Lib.hid (show idsBy (fun r => hasS (r.a, r.b) o) (L.take (k + 1)) = idsBy (fun r => hasS (r.a, r.b) o) (L.take k) ++ [id] by rw [Hst.out]; simp only [hso, if_true])
                have q0 := rdIn_at (Hrd.out.mod hy7 (fun _ _ f => f)) HidK.out
                have hbl7 := World.block_lt_of_cell? w7 _ q0
                clear hso Hst
                have hmax : maxLen = 9223372036854775807 := rfl
                go_wp2_with (at_builtin; refine wpList_append_reads rfl _ _ 43 rfl w3.heap.size 3 _ 1 8 Try.info3 Try.underlying43 rfl (by decide) _ (idsBy (fun r => hasS (r.a, r.b) o) (L.take k)).length _ rfl (HO7.out.alloc _) _ 1 1 [.int .i64 id] rfl ?hrd (inE.one id) (by have := Hlb.out; omega) (by have := Hlb.out; omega) ?hbs ?_)
                case hrd =>
                  have := Reads.new w7 3 #[.int .i64 id] 1 1 rfl
                  simpa using this
                case hbs => have := hy7.size; simp at this ⊢; omega
                intro v' wk hown hmk hbk
                have hyk0 := (hy7.alloc (.cells #[.int .i64 id] 3)).over hmk (fun i hi => (HO7.out.lt i hi).1)
                have HOK := Lib.hid (show wk.ownsRow w3.heap.size 3 1 v' (idsBy (fun r => hasS (r.a, r.b) o) (L.take (k + 1))).length (inE.cells (idsBy (fun r => hasS (r.a, r.b) o) (L.take (k + 1)))) by rw [Hst2.out, inE.cells_append, List.length_append]; exact hown)
                clear hmk hbk hown q0 d0 d1 hb7 HO7 hbl7 hlb7 hy7
                have hyk := hyk0
                have q0 := rdIn_at (Hrd.out.mod hyk (fun _ _ f => f)) HidK.out
                have hbl := World.block_lt_of_cell? wk _ q0
                have HK := Lib.hid (tkids_any tb mb L last Bd id wk (H3.out.ext hyk) HT.out)
                unfold Enc.Out at HK
                go_wp2_with fail
                refine HK.out.mono ?_
                rintro e w8 ⟨vk, rfl, hok8, hx8⟩
                obtain ⟨a8, c8, rfl, hrd8⟩ := Enc.owns_reads (E := inE) hok8
                have HS := HKg
                have HSl := Lib.hid (idsBy_len (fun r => r.u == id) L)
                have HNL := Lib.hid HT.out.len
                have Hcnt2 := Hcnt.out
                generalize (idsBy (fun r => r.u == id) L) = S at *
                obtain ⟨Q, hQ⟩ : ∃ Q, Q = S.length := ⟨_, rfl⟩
                have HQ := Lib.hid hQ
                have hQ2 : Q ≤ 256 := by rw [hQ]; exact Nat.le_trans HSl.out HNL.out
                rw [← hQ] at hrd8 ⊢
                have Hcn := Lib.hid (show cntK L (k + 1) = cntK L k + Q by rw [hQ]; exact Hcnt2)
                have Hrd8 := Lib.hid hrd8
                have HO8 := Lib.hid (ownsRow_mod HOK.out hx8 (fun _ _ f => f))
                have hy8 := hyk.ext_trans hx8
                have hck := cntK_le L k
                have hck2 := HNL.out
                clear hok8 hrd8 HK q0 hbl hQ Hcnt2 HOK hyk
                go_wp2_with fail
                go_loopw [14] (fun j wr => ∃ m : Nat, m ≤ Q ∧ j = .int .i64 m ∧ Ext w8 wr) (fun j _ => Q - (intOf j).toNat)
                case atStart => exact ⟨0, by omega, rfl, Mod.refl _ _⟩
                case round =>
                  obtain ⟨m, hmQ, rfl, hz⟩ := hrel
                  by_cases hlm : m < Q
                  · have hlm' : (m : Int) < (Q : Int) := by omega
                    have hm0 : (0 : Int) ≤ (m : Int) := by omega
                    have hmS : m < S.length := by rw [← HQ.out]; exact hlm
                    obtain ⟨b8, o8, rfl⟩ := Hrd8.out.some (by omega)
                    have p0 := rdIn_at (Hrd8.out.mod hz (fun _ _ f => f)) (List.getElem?_eq_getElem hmS)
                    obtain ⟨y, hgy, hyu, hlt8, hwf8⟩ := HS.out _ (List.getElem_mem hmS) Hid0.out
                    have HSm := Lib.hid (List.getElem?_eq_getElem hmS)
                    generalize S[m] = kid at *
                    have hlt8d : decide (kid ≤ id) = false := decide_eq_false (by omega)
                    have hg8 := fun w' (h' : Ext w8 w') => tget_any tb mb L last kid w' ((H3.out.ext hy8).ext h') hwf8
                    rw [hgy] at hg8
                    obtain ⟨ya, yb, yp, yq, yu⟩ := y
                    simp only at hyu
                    subst hyu
                    rw [show (some (⟨ya, yb, yp, yq, yu⟩ : Rg)).getD rg0 = ⟨ya, yb, yp, yq, yu⟩ from rfl] at hg8
                    unfold rgV at hg8
                    simp only [Option.isSome_some] at hg8
                    have HG8 := Lib.hid hg8
                    have hbl8 := World.block_lt_of_cell? _ _ p0
                    clear hg8 hgy hwf8
                    go_wp2_with fail
                    refine (HG8.out _ hz).mono ?_
                    rintro e w9 ⟨rfl, hx9⟩
                    have hz9 := (hz.ext_trans hx9).alloc (.cells #[.int .i64 ya, .int .i64 yb, .bool yp, .bool yq, .int .i64 yu] 33)
                    have hb9 := Blk.new w9 33 #[.int .i64 ya, .int .i64 yb, .bool yp, .bool yq, .int .i64 yu]
                    have p0 := rdIn_at (Hrd8.out.mod hz9 (fun _ _ f => f)) HSm.out
                    have q0 := rdIn_at (Hrd.out.mod (hy8.ext_trans hz9) (fun _ _ f => f)) HidK.out
                    go_upto_region 25 with fail
                    go_quiet (fail)
                    go_wp2_with fail
                    go_roundw
                    case rel => exact ⟨m + 1, by omega, by go_num, by first | exact hz9 | exact hz9.drewN _ | exact hz9.drew⟩
                    case measure => simp [intOf]; omega
                  · have hlm' : ¬ (m : Int) < (Q : Int) := by omega
                    go_wp2_with fail
                    go_roundw
                    case rel => exact ⟨k + 1, by omega, by go_num, by rw [Hcn.out]; go_num, Lib.hid (ownsRow_mod HO8.out hz (fun _ _ f => f)), hy8.ext_trans hz⟩
                    case measure => simp [intOf]; omega
              · have hso : hasS (ra, rb) o = false := decide_eq_false (fun h => hb h.2)
                have Hst2 := Lib.hid (show idsBy (fun r => hasS (r.a, r.b) o) (L.take (k + 1)) = idsBy (fun r => hasS (r.a, r.b) o) (L.take k) by rw [Hst.out]; simp only [hso, Bool.false_eq_true, if_false, List.append_nil])
                have HOK := Lib.hid (show World.ownsRow w7 w3.heap.size 3 1 _ (idsBy (fun r => hasS (r.a, r.b) o) (L.take (k + 1))).length (inE.cells (idsBy (fun r => hasS (r.a, r.b) o) (L.take (k + 1)))) by rw [Hst2.out]; exact HO7.out)
                have hyk0 := hy7
                clear hso Hst HO7 hy7
                have hyk := hyk0
                have q0 := rdIn_at (Hrd.out.mod hyk (fun _ _ f => f)) HidK.out
                have hbl := World.block_lt_of_cell? w7 _ q0
                have HK := Lib.hid (tkids_any tb mb L last Bd id w7 (H3.out.ext hyk) HT.out)
                unfold Enc.Out at HK
                go_wp2_with fail
                refine HK.out.mono ?_
                rintro e w8 ⟨vk, rfl, hok8, hx8⟩
                obtain ⟨a8, c8, rfl, hrd8⟩ := Enc.owns_reads (E := inE) hok8
                have HS := HKg
                have HSl := Lib.hid (idsBy_len (fun r => r.u == id) L)
                have HNL := Lib.hid HT.out.len
                have Hcnt2 := Hcnt.out
                generalize (idsBy (fun r => r.u == id) L) = S at *
                obtain ⟨Q, hQ⟩ : ∃ Q, Q = S.length := ⟨_, rfl⟩
                have HQ := Lib.hid hQ
                have hQ2 : Q ≤ 256 := by rw [hQ]; exact Nat.le_trans HSl.out HNL.out
                rw [← hQ] at hrd8 ⊢
                have Hcn := Lib.hid (show cntK L (k + 1) = cntK L k + Q by rw [hQ]; exact Hcnt2)
                have Hrd8 := Lib.hid hrd8
                have HO8 := Lib.hid (ownsRow_mod HOK.out hx8 (fun _ _ f => f))
                have hy8 := hyk.ext_trans hx8
                have hck := cntK_le L k
                have hck2 := HNL.out
                clear hok8 hrd8 HK q0 hbl hQ Hcnt2 HOK hyk
                go_wp2_with fail
                go_loopw [14] (fun j wr => ∃ m : Nat, m ≤ Q ∧ j = .int .i64 m ∧ Ext w8 wr) (fun j _ => Q - (intOf j).toNat)
                case atStart => exact ⟨0, by omega, rfl, Mod.refl _ _⟩
                case round =>
                  obtain ⟨m, hmQ, rfl, hz⟩ := hrel
                  by_cases hlm : m < Q
                  · have hlm' : (m : Int) < (Q : Int) := by omega
                    have hm0 : (0 : Int) ≤ (m : Int) := by omega
                    have hmS : m < S.length := by rw [← HQ.out]; exact hlm
                    obtain ⟨b8, o8, rfl⟩ := Hrd8.out.some (by omega)
                    have p0 := rdIn_at (Hrd8.out.mod hz (fun _ _ f => f)) (List.getElem?_eq_getElem hmS)
                    obtain ⟨y, hgy, hyu, hlt8, hwf8⟩ := HS.out _ (List.getElem_mem hmS) Hid0.out
                    have HSm := Lib.hid (List.getElem?_eq_getElem hmS)
                    generalize S[m] = kid at *
                    have hlt8d : decide (kid ≤ id) = false := decide_eq_false (by omega)
                    have hg8 := fun w' (h' : Ext w8 w') => tget_any tb mb L last kid w' ((H3.out.ext hy8).ext h') hwf8
                    rw [hgy] at hg8
                    obtain ⟨ya, yb, yp, yq, yu⟩ := y
                    simp only at hyu
                    subst hyu
                    rw [show (some (⟨ya, yb, yp, yq, yu⟩ : Rg)).getD rg0 = ⟨ya, yb, yp, yq, yu⟩ from rfl] at hg8
                    unfold rgV at hg8
                    simp only [Option.isSome_some] at hg8
                    have HG8 := Lib.hid hg8
                    have hbl8 := World.block_lt_of_cell? _ _ p0
                    clear hg8 hgy hwf8
                    go_wp2_with fail
                    refine (HG8.out _ hz).mono ?_
                    rintro e w9 ⟨rfl, hx9⟩
                    have hz9 := (hz.ext_trans hx9).alloc (.cells #[.int .i64 ya, .int .i64 yb, .bool yp, .bool yq, .int .i64 yu] 33)
                    have hb9 := Blk.new w9 33 #[.int .i64 ya, .int .i64 yb, .bool yp, .bool yq, .int .i64 yu]
                    have p0 := rdIn_at (Hrd8.out.mod hz9 (fun _ _ f => f)) HSm.out
                    have q0 := rdIn_at (Hrd.out.mod (hy8.ext_trans hz9) (fun _ _ f => f)) HidK.out
                    go_upto_region 25 with fail
                    go_quiet (fail)
                    go_wp2_with fail
                    go_roundw
                    case rel => exact ⟨m + 1, by omega, by go_num, by first | exact hz9 | exact hz9.drewN _ | exact hz9.drew⟩
                    case measure => simp [intOf]; omega
                  · have hlm' : ¬ (m : Int) < (Q : Int) := by omega
                    go_wp2_with fail
                    go_roundw
                    case rel => exact ⟨k + 1, by omega, by go_num, by rw [Hcn.out]; go_num, Lib.hid (ownsRow_mod HO8.out hz (fun _ _ f => f)), hy8.ext_trans hz⟩
                    case measure => simp [intOf]; omega
            · have hso : hasS (ra, rb) o = false := decide_eq_false (fun h => ha h.1)
              have Hst2 := Lib.hid (show idsBy (fun r => hasS (r.a, r.b) o) (L.take (k + 1)) = idsBy (fun r => hasS (r.a, r.b) o) (L.take k) by rw [Hst.out]; simp only [hso, Bool.false_eq_true, if_false, List.append_nil])
              have HOK := Lib.hid (show World.ownsRow w7 w3.heap.size 3 1 _ (idsBy (fun r => hasS (r.a, r.b) o) (L.take (k + 1))).length (inE.cells (idsBy (fun r => hasS (r.a, r.b) o) (L.take (k + 1)))) by rw [Hst2.out]; exact HO7.out)
              have hyk0 := hy7
              clear hso Hst HO7 hy7
              have hyk := hyk0
              have q0 := rdIn_at (Hrd.out.mod hyk (fun _ _ f => f)) HidK.out
              have hbl := World.block_lt_of_cell? w7 _ q0
              have HK := Lib.hid (tkids_any tb mb L last Bd id w7 (H3.out.ext hyk) HT.out)
              unfold Enc.Out at HK
              go_wp2_with fail
              refine HK.out.mono ?_
              rintro e w8 ⟨vk, rfl, hok8, hx8⟩
              obtain ⟨a8, c8, rfl, hrd8⟩ := Enc.owns_reads (E := inE) hok8
              have HS := HKg
              have HSl := Lib.hid (idsBy_len (fun r => r.u == id) L)
              have HNL := Lib.hid HT.out.len
              have Hcnt2 := Hcnt.out
              generalize (idsBy (fun r => r.u == id) L) = S at *
              obtain ⟨Q, hQ⟩ : ∃ Q, Q = S.length := ⟨_, rfl⟩
              have HQ := Lib.hid hQ
              have hQ2 : Q ≤ 256 := by rw [hQ]; exact Nat.le_trans HSl.out HNL.out
              rw [← hQ] at hrd8 ⊢
              have Hcn := Lib.hid (show cntK L (k + 1) = cntK L k + Q by rw [hQ]; exact Hcnt2)
              have Hrd8 := Lib.hid hrd8
              have HO8 := Lib.hid (ownsRow_mod HOK.out hx8 (fun _ _ f => f))
              have hy8 := hyk.ext_trans hx8
              have hck := cntK_le L k
              have hck2 := HNL.out
              clear hok8 hrd8 HK q0 hbl hQ Hcnt2 HOK hyk
              go_wp2_with fail
              go_loopw [14] (fun j wr => ∃ m : Nat, m ≤ Q ∧ j = .int .i64 m ∧ Ext w8 wr) (fun j _ => Q - (intOf j).toNat)
              case atStart => exact ⟨0, by omega, rfl, Mod.refl _ _⟩
              case round =>
                obtain ⟨m, hmQ, rfl, hz⟩ := hrel
                by_cases hlm : m < Q
                · have hlm' : (m : Int) < (Q : Int) := by omega
                  have hm0 : (0 : Int) ≤ (m : Int) := by omega
                  have hmS : m < S.length := by rw [← HQ.out]; exact hlm
                  obtain ⟨b8, o8, rfl⟩ := Hrd8.out.some (by omega)
                  have p0 := rdIn_at (Hrd8.out.mod hz (fun _ _ f => f)) (List.getElem?_eq_getElem hmS)
                  obtain ⟨y, hgy, hyu, hlt8, hwf8⟩ := HS.out _ (List.getElem_mem hmS) Hid0.out
                  have HSm := Lib.hid (List.getElem?_eq_getElem hmS)
                  generalize S[m] = kid at *
                  have hlt8d : decide (kid ≤ id) = false := decide_eq_false (by omega)
                  have hg8 := fun w' (h' : Ext w8 w') => tget_any tb mb L last kid w' ((H3.out.ext hy8).ext h') hwf8
                  rw [hgy] at hg8
                  obtain ⟨ya, yb, yp, yq, yu⟩ := y
                  simp only at hyu
                  subst hyu
                  rw [show (some (⟨ya, yb, yp, yq, yu⟩ : Rg)).getD rg0 = ⟨ya, yb, yp, yq, yu⟩ from rfl] at hg8
                  unfold rgV at hg8
                  simp only [Option.isSome_some] at hg8
                  have HG8 := Lib.hid hg8
                  have hbl8 := World.block_lt_of_cell? _ _ p0
                  clear hg8 hgy hwf8
                  go_wp2_with fail
                  refine (HG8.out _ hz).mono ?_
                  rintro e w9 ⟨rfl, hx9⟩
                  have hz9 := (hz.ext_trans hx9).alloc (.cells #[.int .i64 ya, .int .i64 yb, .bool yp, .bool yq, .int .i64 yu] 33)
                  have hb9 := Blk.new w9 33 #[.int .i64 ya, .int .i64 yb, .bool yp, .bool yq, .int .i64 yu]
                  have p0 := rdIn_at (Hrd8.out.mod hz9 (fun _ _ f => f)) HSm.out
                  have q0 := rdIn_at (Hrd.out.mod (hy8.ext_trans hz9) (fun _ _ f => f)) HidK.out
                  go_upto_region 25 with fail
                  go_quiet (fail)
                  go_wp2_with fail
                  go_roundw
                  case rel => exact ⟨m + 1, by omega, by go_num, by first | exact hz9 | exact hz9.drewN _ | exact hz9.drew⟩
                  case measure => simp [intOf]; omega
                · have hlm' : ¬ (m : Int) < (Q : Int) := by omega
                  go_wp2_with fail
                  go_roundw
                  case rel => exact ⟨k + 1, by omega, by go_num, by rw [Hcn.out]; go_num, Lib.hid (ownsRow_mod HO8.out hz (fun _ _ f => f)), hy8.ext_trans hz⟩
                  case measure => simp [intOf]; omega
        · have hlt' : ¬ (k : Int) < (M : Int) := by omega
          obtain rfl : k = M := by omega
          have hO := HO.out
          rw [List.take_of_length_le (by rw [← HMl.out]; exact Nat.le_refl _)] at hO
          have hcl : cntK L k = k := by have := cntK_all HT.out; rw [← HMl.out] at this; exact this
          rw [hcl]
          obtain ⟨ah, ch, hvh, hrh⟩ := Enc.owns_reads (E := inE) hO
          subst hvh
          have HA := Lib.hid (tat_any tb mb L last Bd o wr (H3.out.ext hy) HT.out)
          unfold Enc.Out at HA
          have Hrh := Lib.hid hrh
          have HSl := Lib.hid (Nat.le_trans (idsBy_len (fun r => hasS (r.a, r.b) o) L) HT.out.len)
          clear hO HO hrh hcl
          go_wp2_with fail
          refine HA.out.mono ?_
          rintro e w8 ⟨v8, rfl, ho8, hx8⟩
          obtain ⟨a8, c8, rfl, hr8⟩ := Enc.owns_reads (E := inE) ho8
          have hh := Hrh.out.mod hx8 (fun _ _ f => f)
          change Reads w8 1 _ _ _ at hr8
          change Reads w8 1 _ _ _ at hh
          rw [inE_cells] at hr8 hh
          have HI := Lib.hid (ints_any w8 ah a8 ch c8 _ _ hh hr8 (by have := HSl.out; omega) (by have := HSl.out; omega))
          rw [decide_eq_true rfl] at HI
          have hyz := hy.ext_trans hx8
          clear HA ho8 hr8 hh hy hx8 Hrh
          go_wp2_with fail
          refine HI.out.mono ?_
          rintro e w9 ⟨rfl, m9, rfl⟩
          go_wp2_with fail
          refine (awake7_any _).mono ?_
          rintro e w10 ⟨rfl, hx10⟩
          go_wp2_with fail
          go_ret
          exact ⟨rfl, (hxb.ext_trans hyz).ext_trans (((Mod.refl _ w8).drewN m9).ext_trans hx10)⟩

theorem marksKids_calls (w : World) (ao : Option Addr) (cap : Nat) (xs : List Dm) (hr : Reads w 7 ao xs.length (dmE.cells xs)) (hm : xs.length ≤ maxLen) (hok : ∀ x ∈ xs, DmOk w x) (o : Int) (_ : (Lit.int .i64 o).wf = true) :
    Calls Try.prog 9 #[.slice ao xs.length cap, .int .i64 o] w fun e w' => e = .returned (.bool true) ∧ Ext w w' := by
  have HM := muchM_any ao cap xs w hr hok hm
  by_cases h2 : 20 < xs.length
  · rw [if_pos h2] at HM
    clear hr hok
    go_enter Try.func9, Try.ntmps9
    go_wp2_with fail
    refine HM.mono ?_
    rintro e w0 ⟨rfl, rfl⟩
    go_wp2_with fail
    refine (awake7_any _).mono ?_
    rintro e w1 ⟨rfl, hx⟩
    go_wp2_with fail
    go_ret
    exact ⟨rfl, hx⟩
  · rw [if_neg h2] at HM
    cases hmu : muchD xs with
    | false => exact marksKids_any w ao cap xs hr hok (by omega) hmu o
    | true =>
      rw [hmu] at HM
      clear hr hok hmu
      go_enter Try.func9, Try.ntmps9
      go_wp2_with fail
      refine HM.mono ?_
      rintro e w0 ⟨rfl, rfl⟩
      go_wp2_with fail
      refine (awake7_any _).mono ?_
      rintro e w1 ⟨rfl, hx⟩
      go_wp2_with fail
      go_ret
      exact ⟨rfl, hx⟩
end Go.Proofs.Ytffplppglicibaa

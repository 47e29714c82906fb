/- What is dropped goes with all that lies in it, at any depth; nothing else goes, or moves: the walk. Conditions: none. -/
import Derived.Test.YtffplppglicibaaGimDropQ
import Derived.Test.YtffplppglicibaaGimAwake7
namespace Go.Gim
theorem climb_bd {L : Tb} {last B : Int} (hT : Tok L last B) (id : Int) {x : Int × Rg} (hx : x ∈ L) : ∀ i, climb L id x.1 i = 0 ∨ (getR L (climb L id x.1 i)).isSome = true := by
  intro i
  induction i with
  | zero => right; rw [climb.eq_1, getR_of_mem hT.once hx]; rfl
  | succ i ih =>
    rw [climb.eq_2]
    split
    · exact ih
    · rename_i h
      rcases ih with e | e
      · exact absurd (.inr e) h
      · obtain ⟨r, hr⟩ := Option.isSome_iff_exists.1 e
        unfold upOf
        rw [hr]
        rcases hT.up _ (getR_mem hr) with e2 | ⟨_, e2⟩
        · exact .inl e2
        · exact .inr e2
theorem climb_wf {L : Tb} {last B : Int} (hT : Tok L last B) (id : Int) {x : Int × Rg} (hx : x ∈ L) (i : Nat) : (Lit.int .i64 (climb L id x.1 i)).wf = true := by
  have hl := hT.last0
  have hb : 0 ≤ climb L id x.1 i ∧ climb L id x.1 i ≤ last := by
    rcases climb_bd hT id hx i with e | e
    · omega
    · obtain ⟨r, hr⟩ := Option.isSome_iff_exists.1 e
      have := hT.get hr
      omega
  simp [Lit.wf, IntKind.min, IntKind.max, IntKind.signed, IntKind.bits]; omega
end Go.Gim
namespace Go.Proofs.Ytffplppglicibaa
open Go.RowKit Go.Gim

set_option maxHeartbeats 3200000 in
set_option maxRecDepth 1000000 in
theorem marksDrop_any (w : World) (ao : Option Addr) (cap : Nat) (xs : List Dm) (hr : Reads w 7 ao xs.length (dmE.cells xs)) (hok : ∀ x ∈ xs, DmOk w x) (hn : xs.length ≤ 20) (hmu : muchD xs = false) (o : Int) (wo : (Lit.int .i64 o).wf = true) :
    Calls Try.prog 7 #[.slice ao xs.length cap, .int .i64 o] w fun e w' => e = .returned (.bool true) ∧ Ext w w' := by
  have HD := Lib.hid (doneD_ok hn (muchD_no hmu))
  have Hno := Lib.hid (muchD_no hmu)
  have HM := muchM_any ao cap xs w hr hok (by unfold maxLen; omega)
  rw [if_neg (by omega), hmu] at HM
  have HM' := Lib.hid HM
  obtain ⟨N, hN⟩ : ∃ N, N = xs.length := ⟨_, rfl⟩
  have HN := Lib.hid hN
  have Hr := Lib.hid hr
  have Hok := Lib.hid hok
  rw [← hN] at hn HM' ⊢
  clear hr hok hmu HM hN
  go_enter Try.func7, Try.ntmps7
  go_wp2_with fail
  refine HM'.out.mono ?_
  rintro e w0 ⟨rfl, rfl⟩
  clear HM'
  go_wp2_with fail
  refine (tnew_any w0).mono ?_
  rintro e w1 ⟨tb, mb, rfl, h1, l1, l2, hx1⟩
  have H1 := Lib.hid h1
  have L1 := Lib.hid l1
  have L2 := Lib.hid l2
  clear h1 l1 l2
  go_wp2_with fail
  go_loopw [6] (fun i wr => ∃ k : Nat, k ≤ N ∧ i = .int .i64 k ∧ Hid (TabAt wr tb mb (doneD (xs.take k)).1 (doneD (xs.take k)).2) ∧ Ext w0 wr) (fun i _ => N - (intOf i).toNat)
  case atStart => exact ⟨0, by omega, rfl, H1, hx1⟩
  case round =>
    obtain ⟨k, hk, rfl, HT, hxr⟩ := hrel
    clear H1 hx1
    have hl1 := L1.out
    have hl2 := L2.out
    by_cases hlt : k < N
    · have hlt' : (k : Int) < (N : Int) := by omega
      have hk0 : (0 : Int) ≤ (k : Int) := by omega
      have hlk : k < xs.length := by rw [← HN.out]; exact hlt
      obtain ⟨b, off, rfl⟩ := Hr.out.some (by rw [← HN.out]; omega)
      obtain ⟨⟨q0, q1, q2, q3⟩, q4, q5, q6⟩ := reads_dm (Hr.out.mod hxr (fun _ _ f => f)) (List.getElem?_eq_getElem hlk)
      have hst := doneD_snoc (List.getElem?_eq_getElem hlk)
      obtain ⟨t1, t2, _⟩ := HD.out k (by omega)
      obtain ⟨t3, t4, t5⟩ := HD.out (k + 1) (by omega)
      obtain ⟨m1, m2⟩ := Hno.out _ (List.getElem_mem hlk)
      have HC := Lib.hid (does_any xs[k] tb mb _ _ _ w0 wr HT.out t1 (by omega) (by omega) (Hok.out _ (List.getElem_mem hlk)) hxr m1 m2 hl1 hl2)
      generalize xs[k] = x at *
      unfold stepD at hst
      rw [hst] at t3 t4 t5
      have Hst := Lib.hid hst
      generalize doesD x (doneD (xs.take k)).1 (doneD (xs.take k)).2 = d at *
      simp only at t3 t4 t5
      unfold DnPost dmV at HC
      have T3 := Lib.hid t3
      have T4 := Lib.hid t4
      have T5 := Lib.hid t5
      have hbl := World.block_lt_of_cell? wr _ q0
      clear t1 t2 t3 t4 t5 m1 m2 hst
      go_wp2_with fail
      refine HC.out.mono ?_
      rintro e w2 ⟨rfl, h2, hm2⟩
      have hx2 : Ext w0 w2 := hxr.trans hm2 (fun i hi e => by unfold tabS at e; omega)
      have H2 := Lib.hid h2
      clear HC h2 hm2 hbl q0 q1 q2 q3 q4 q5 q6 HT hxr
      go_wp2_with fail
      go_roundw
      case rel => exact ⟨k + 1, by omega, by go_num, Lib.hid (by rw [Hst.out]; exact H2.out), hx2⟩
      case measure => simp [intOf]; omega
    · have hlt' : ¬ (k : Int) < (N : Int) := by omega
      obtain rfl : k = N := by omega
      obtain ⟨t1, t2, t3⟩ := HD.out k (by rw [← HN.out]; exact Nat.le_refl _)
      have h3 := HT.out
      rw [List.take_of_length_le (by rw [← HN.out]; exact Nat.le_refl _)] at h3 t1
      generalize (doneD xs).1 = L at *
      generalize (doneD xs).2 = last at *
      clear HT t2 t3 HD Hno Hok Hr
      obtain ⟨Bd, hBd⟩ : ∃ Bd : Int, Bd = 65536 + (k : Int) * 2000000 := ⟨_, rfl⟩
      rw [← hBd] at t1
      clear hBd
      have HT := Lib.hid t1
      have HI := Lib.hid (ids_any tb mb _ _ wr h3.blk h3.map t1.rise (Nat.le_trans t1.len (by omega)))
      have H2 := Lib.hid h3
      unfold Enc.Out at HI
      clear h3 t1
      go_wp2_with fail
      refine HI.out.mono ?_
      rintro e w2 ⟨v, rfl, hov, hx2⟩
      obtain ⟨a1, c1, rfl, hrd⟩ := Enc.owns_reads (E := inE) hov
      obtain ⟨M, hM⟩ : ∃ M, M = (idsR L).length := ⟨_, rfl⟩
      have HMM := Lib.hid hM
      have hMl : M = L.length := by rw [hM]; unfold idsR; rw [List.length_map]
      have HMl := Lib.hid hMl
      have hM2 : M ≤ 256 := by rw [hMl]; exact HT.out.len
      have hb1 := H2.out.blk.lt
      have hb2 := H2.out.map.lt
      have Hf := Lib.hid (show ∀ b off, a1 = some ⟨b, off, none⟩ → 0 < M → ¬ tabS tb mb b from by
        intro b off e h0 hs
        obtain ⟨g, c, hs2⟩ := Enc.owns_some (E := inE) hov (by rw [← hM]; exact h0)
        rw [e] at hs2
        cases hs2
        rw [e] at hov
        have := (Enc.owns_block (E := inE) hov).1
        unfold tabS at hs
        omega)
      clear hb1 hb2
      rw [← hM] at hrd ⊢
      have Hrd2 := Lib.hid hrd
      have H2b := Lib.hid (H2.out.ext hx2)
      have hxa := hxr.ext_trans hx2
      clear hov hrd HI H2 hxr hx2 hM hMl
      by_cases hM0 : M = 0
      · have HD0 := Lib.hid (tdrop_no tb mb L last o w2 H2b.out wo (getR_none_of (fun x hx => by
          have : L = [] := List.length_eq_zero_iff.1 (by rw [← HMl.out]; exact hM0)
          rw [this] at hx; cases hx)))
        have hM1 : ((M : Int) == 0) = true := by simp [hM0]
        subst hM0
        go_wp2_with fail
        refine HD0.out.mono ?_
        rintro e w3 ⟨rfl, hx3⟩
        go_wp2_with fail
        refine (awake7_any _).mono ?_
        rintro e w4 ⟨rfl, hx4⟩
        go_wp2_with fail
        go_ret
        exact ⟨rfl, (hxa.ext_trans hx3).ext_trans hx4⟩
      · have hM1 : ((M : Int) == 0) = false := by simp; exact hM0
        have hL1 := low_any o (M : Int)
        obtain ⟨q, hq, hqc⟩ := low_nat2 o M M rfl (by omega) (by omega)
        have HL1 := Lib.hid hqc
        have hqM : (q : Int) < (M : Int) := by omega
        have hq0 : (0 : Int) ≤ (q : Int) := by omega
        obtain ⟨bi, oi, rfl⟩ := Hrd2.out.some (by omega)
        have Hfar := Lib.hid (show ¬ tabS tb mb bi from Hf.out bi oi rfl (by omega))
        have hqL : q < (idsR L).length := by rw [← HMM.out]; exact hq
        have Hqi := Lib.hid (List.getElem?_eq_getElem hqL)
        have hin : (idsR L)[q] ∈ idsR L := List.getElem_mem hqL
        generalize (idsR L)[q] = id at *
        obtain ⟨zr, hzm, hze⟩ := List.mem_map.1 hin
        have hz1 := HT.out.ids zr hzm
        rw [hze] at hz1
        have hl0 := HT.out.last0
        have Hgid := Lib.hid (getR_of_mem HT.out.once (show (id, zr.2) ∈ L by rw [← hze]; exact hzm))
        have Hid0 := Lib.hid (show id ≠ 0 by omega)
        have Hidw := Lib.hid (id_wf (id := id) (by omega) (by omega))
        have q0 := rdIn_at Hrd2.out Hqi.out
        have hbl := World.block_lt_of_cell? _ _ q0
        clear hM0 hL1 hqL hin hzm hze hz1 hl0 hqc
        go_wp2_with fail
        refine (HL1.out _).mono ?_
        rintro e w2' ⟨rfl, rfl⟩
        go_wp2_with fail
        have HTw := Lib.hid (ttwin_any tb mb L last w2' H2b.out)
        unfold TwinPost at HTw
        clear q0 hbl HL1 hq hqM hq0
        refine HTw.out.mono ?_
        rintro e w3 ⟨t2, m2, rfl, h3, l3, l4, hx3⟩
        have H3a := Lib.hid (H2b.out.ext hx3)
        have hlt1 := H2b.out.blk.lt
        have hlt2 := H2b.out.map.lt
        have n1 : t2 ≠ tb := by omega
        have n2 : t2 ≠ mb := by omega
        have n3 : m2 ≠ tb := by omega
        have n4 : m2 ≠ mb := by omega
        have Hrd3 := Lib.hid (Hrd2.out.mod hx3 (fun _ _ f => f))
        have hxb := hxa.ext_trans hx3
        have HDr := Lib.hid (tdrop_yes tb mb L last Bd id zr.2 w3 H3a.out HT.out Hgid.out)
        have H3b := Lib.hid h3
        clear HTw H2b Hrd2 hxa hx3 h3 l3 l4
        go_wp2_with fail
        refine HDr.out.mono ?_
        rintro e w4 ⟨rfl, h4, hm4⟩
        have HT4 := Lib.hid (HT.out.drop id)
        have hg4 : getR (dropT L id) id = none := by
          obtain ⟨p, hp, hpe⟩ := List.getElem_of_mem (getR_mem Hgid.out)
          have := (drop_one HT.out id (show L[p]? = some (id, zr.2) by rw [List.getElem?_eq_getElem hp, hpe])).2 (.inl rfl)
          exact this
        have HDn := Lib.hid (tdrop_no tb mb (dropT L id) last id w4 h4 Hidw.out hg4)
        have H4a := Lib.hid h4
        have H4b := Lib.hid (H3b.out.mod hm4 (by unfold tabS; omega) (by unfold tabS; omega))
        have Hrd4 := Lib.hid (Hrd3.out.mod hm4 (fun a ha => by cases ha; exact Hfar.out))
        have hxc : Ext w0 w4 := hxb.trans hm4 (fun i hi e => by unfold tabS at e; omega)
        clear HDr h4 hm4 H3a H3b Hrd3 hxb hg4
        go_wp2_with fail
        refine HDn.out.mono ?_
        rintro e w5 ⟨rfl, hx5⟩
        have H5a := Lib.hid (H4a.out.ext hx5)
        have H5b := Lib.hid (H4b.out.ext hx5)
        have Hrd5 := Lib.hid (Hrd4.out.mod hx5 (fun _ _ f => f))
        have hxd := hxc.ext_trans hx5
        clear HDn H4a H4b Hrd4 hxc hx5
        go_wp2_with fail
        go_loopw [10] (fun i wr => ∃ k : Nat, k ≤ M ∧ i = .int .i64 k ∧ Ext w5 wr) (fun i _ => M - (intOf i).toNat)
        case atStart => exact ⟨0, by omega, rfl, Mod.refl _ _⟩
        case round =>
          obtain ⟨k, hk, rfl, hy⟩ := hrel
          by_cases hlt : k < M
          · have hlt' : (k : Int) < (M : Int) := by omega
            have hk0 : (0 : Int) ≤ (k : Int) := by omega
            have hmL : k < L.length := by rw [← HMl.out]; exact hlt
            have hkL : L[k]? = some (L[k]'hmL) := List.getElem?_eq_getElem _
            have hidK : (idsR L)[k]? = some (L[k]'hmL).1 := by unfold idsR; rw [List.getElem?_map, hkL]; rfl
            have q0 := rdIn_at (Hrd5.out.mod hy (fun _ _ f => f)) hidK
            have HidK := Lib.hid hidK
            have hgr := getR_of_mem HT.out.once (show ((L[k]'hmL).1, (L[k]'hmL).2) ∈ L from List.getElem_mem _)
            have hib := HT.out.ids _ (List.getElem_mem hmL)
            have hl0 := HT.out.last0
            have HCL := Lib.hid (climb_law HT.out Hid0.out k _ hkL)
            have HCb := Lib.hid (climb_wf HT.out id (List.getElem_mem hmL))
            generalize L[k]'hmL = y at *
            obtain ⟨yi, yr⟩ := y
            simp only at q0 hgr hib HCL HCb HidK
            have Hyw := Lib.hid (id_wf (id := yi) (by omega) (by omega))
            have Hgr := Lib.hid hgr
            have hbl := World.block_lt_of_cell? _ _ q0
            clear hgr hib hl0 hkL hidK hmL
            go_wp2_with fail
            go_loopw [11, 12] (fun up i wr => ∃ n : Nat, n ≤ M + 1 ∧ i = .int .i64 n ∧ up = .int .i64 (climb L id yi n) ∧ Ext w5 wr) (fun _ i _ => M + 1 - (intOf i).toNat)
            case atStart => exact ⟨0, by omega, rfl, rfl, hy⟩
            case round =>
              obtain ⟨n, hnM, rfl, rfl, hz⟩ := hrel
              by_cases hgo : n ≤ M ∧ climb L id yi n ≠ id ∧ climb L id yi n ≠ 0
              · obtain ⟨g1, g2, g3⟩ := hgo
                have g1' : (n : Int) ≤ (M : Int) := by omega
                have g2' : (climb L id yi n != id) = true := by simpa using g2
                have g3' : (climb L id yi n != 0) = true := by simpa using g3
                have hst : climb L id yi (n + 1) = upOf L (climb L id yi n) := by
                  rw [climb.eq_2, if_neg (fun h => h.elim g2 g3)]
                have Hst := Lib.hid hst
                have HGu := Lib.hid (tget_any t2 m2 L last (climb L id yi n) _ (H5b.out.ext hz) (HCb.out n))
                have Hup := Lib.hid (show ((getR L (climb L id yi n)).getD rg0).u = upOf L (climb L id yi n) from rfl)
                generalize (getR L (climb L id yi n)).isSome = bs at *
                generalize (getR L (climb L id yi n)).getD rg0 = rr at *
                obtain ⟨ra, rb, rp, rq, ru⟩ := rr
                unfold rgV at HGu
                simp only at HGu Hup
                generalize upOf L (climb L id yi n) = uu at *
                have hru := Hup.out
                subst hru
                generalize climb L id yi n = cn at *
                clear g2 g3 hst Hup q0 hbl
                go_wp2_with fail
                refine HGu.out.mono ?_
                rintro e w7 ⟨rfl, hx7⟩
                go_wp2_with fail
                go_roundw
                case rel => exact ⟨n + 1, by omega, by go_num, by rw [Hst.out], (hz.ext_trans hx7).alloc _⟩
                case measure => simp [intOf]; omega
              · have hfin : climb L id yi n = id ∨ climb L id yi n = 0 := by
                  by_cases a1 : climb L id yi n = id
                  · exact .inl a1
                  · by_cases a2 : climb L id yi n = 0
                    · exact .inr a2
                    · have e1 : n = M + 1 := by
                        have : ¬ n ≤ M := fun h => hgo ⟨h, a1, a2⟩
                        omega
                      have := climb_stay HCL.out.1 n (by omega)
                      rw [this]; exact HCL.out.1
                have hiff := HCL.out.2 n hfin
                have hcond : (decide ((n : Int) ≤ (M : Int)) = false) ∨ (climb L id yi n == id) = true ∨ (climb L id yi n == 0) = true := by
                  by_cases a0 : n ≤ M
                  · rcases hfin with h | h
                    · exact .inr (.inl (by simpa using h))
                    · exact .inr (.inr (by simpa using h))
                  · exact .inl (decide_eq_false (by omega))
                have Hgd := Lib.hid (fun r (h : getR (dropT L id) yi = some r) => Option.some.inj ((dropT_get HT.out h).symm.trans Hgr.out))
                have q0 := rdIn_at (Hrd5.out.mod hz (fun _ _ f => f)) HidK.out
                have hbl := World.block_lt_of_cell? _ _ q0
                have HG1 := Lib.hid (fun w' (h' : Ext w5 w') => tget_any t2 m2 L last yi w' (H5b.out.ext h') Hyw.out)
                have HG2 := Lib.hid (fun w' (h' : Ext w5 w') => tget_any tb mb (dropT L id) last yi w' (H5a.out.ext h') Hyw.out)
                rw [Hgr.out] at HG1
                obtain ⟨ra, rb, rp, rq, ru⟩ := yr
                rw [show (some (⟨ra, rb, rp, rq, ru⟩ : Rg)).getD rg0 = ⟨ra, rb, rp, rq, ru⟩ from rfl] at HG1
                unfold rgV at HG1 HG2
                simp only [Option.isSome_some] at HG1
                generalize climb L id yi n = cn at *
                rcases Classical.em (n ≤ M) with hnm | hnm
                · have n1' : decide ((n : Int) ≤ (M : Int)) = true := decide_eq_true (by omega)
                  have n1'' : (n : Int) ≤ (M : Int) := by omega
                  clear hcond hgo hnm
                  by_cases hci : cn = id
                  · have hno : getR (dropT L id) yi = none := hiff.1 hci
                    have Hci := Lib.hid (show (cn == id) = true by simpa using hci)
                    have hci1 : (cn == id) = true := by simpa using hci
                    have hci2 : (cn != id) = false := by simpa using hci
                    rw [hno] at HG2
                    rw [show (none : Option Rg).getD rg0 = rg0 from rfl] at HG2
                    unfold rg0 at HG2
                    simp only [Option.isSome_none] at HG2
                    clear hci hiff hfin hno Hgd
                    go_wp2_with fail
                    refine (HG1.out _ hz).mono ?_
                    rintro e w7 ⟨rfl, hx7⟩
                    have hz7 := (hz.ext_trans hx7).alloc (.cells #[.int .i64 ra, .int .i64 rb, .bool rp, .bool rq, .int .i64 ru] 33)
                    have hb7 := Blk.new w7 33 #[.int .i64 ra, .int .i64 rb, .bool rp, .bool rq, .int .i64 ru]
                    have q0 := rdIn_at (Hrd5.out.mod hz7 (fun _ _ f => f)) HidK.out
                    have hbl := World.block_lt_of_cell? _ _ q0
                    go_wp2_with fail
                    refine (HG2.out _ hz7).mono ?_
                    rintro e w8 ⟨rfl, hx8⟩
                    have hb8 := hb7.mod hx8 (fun f => f)
                    have d0 := hb8.cell 0
                    have d1 := hb8.cell 1
                    have d2 := hb8.cell 2
                    have d3 := hb8.cell 3
                    have d4 := hb8.cell 4
                    simp only [List.getElem?_toArray, List.getElem?_cons_zero, List.getElem?_cons_succ] at d0 d1 d2 d3 d4
                    have hlb8 := hb8.lt
                    clear q0 hbl
                    go_wp2_with fail
                    go_roundw
                    case rel => exact ⟨k + 1, by omega, by go_num, (hz7.ext_trans hx8).alloc _⟩
                    case measure => simp [intOf]; omega
                  · have hc0 : cn = 0 := hfin.resolve_left hci
                    have hyes : ∃ r, getR (dropT L id) yi = some r := by
                      cases hg : getR (dropT L id) yi with
                      | none => exact absurd (hiff.2 hg) hci
                      | some r => exact ⟨r, rfl⟩
                    obtain ⟨r, hr⟩ := hyes
                    have hre := Hgd.out r hr
                    subst hre
                    have hci1 : (cn == id) = false := by simpa using hci
                    have hci2 : (cn != id) = true := by simpa using hci
                    have hc1 : (cn != 0) = false := by simpa using hc0
                    rw [hr] at HG2
                    rw [show (some (⟨ra, rb, rp, rq, ru⟩ : Rg)).getD rg0 = ⟨ra, rb, rp, rq, ru⟩ from rfl] at HG2
                    simp only [Option.isSome_some] at HG2
                    clear hci hiff hfin hr Hgd hc0
                    go_wp2_with fail
                    refine (HG1.out _ hz).mono ?_
                    rintro e w7 ⟨rfl, hx7⟩
                    have hz7 := (hz.ext_trans hx7).alloc (.cells #[.int .i64 ra, .int .i64 rb, .bool rp, .bool rq, .int .i64 ru] 33)
                    have hb7 := Blk.new w7 33 #[.int .i64 ra, .int .i64 rb, .bool rp, .bool rq, .int .i64 ru]
                    have q0 := rdIn_at (Hrd5.out.mod hz7 (fun _ _ f => f)) HidK.out
                    have hbl := World.block_lt_of_cell? _ _ q0
                    go_wp2_with fail
                    refine (HG2.out _ hz7).mono ?_
                    rintro e w8 ⟨rfl, hx8⟩
                    have hb8 := hb7.mod hx8 (fun f => f)
                    have d0 := hb8.cell 0
                    have d1 := hb8.cell 1
                    have d2 := hb8.cell 2
                    have d3 := hb8.cell 3
                    have d4 := hb8.cell 4
                    simp only [List.getElem?_toArray, List.getElem?_cons_zero, List.getElem?_cons_succ] at d0 d1 d2 d3 d4
                    have hlb8 := hb8.lt
                    clear q0 hbl
                    go_wp2_with fail
                    go_roundw
                    case rel => exact ⟨k + 1, by omega, by go_num, (hz7.ext_trans hx8).alloc _⟩
                    case measure => simp [intOf]; omega
                · have n1' : decide ((n : Int) ≤ (M : Int)) = false := decide_eq_false (by omega)
                  have n1'' : ¬ (n : Int) ≤ (M : Int) := by omega
                  clear hcond hgo hnm
                  by_cases hci : cn = id
                  · have hno : getR (dropT L id) yi = none := hiff.1 hci
                    have Hci := Lib.hid (show (cn == id) = true by simpa using hci)
                    have hci1 : (cn == id) = true := by simpa using hci
                    have hci2 : (cn != id) = false := by simpa using hci
                    rw [hno] at HG2
                    rw [show (none : Option Rg).getD rg0 = rg0 from rfl] at HG2
                    unfold rg0 at HG2
                    simp only [Option.isSome_none] at HG2
                    clear hci hiff hfin hno Hgd
                    go_wp2_with fail
                    refine (HG1.out _ hz).mono ?_
                    rintro e w7 ⟨rfl, hx7⟩
                    have hz7 := (hz.ext_trans hx7).alloc (.cells #[.int .i64 ra, .int .i64 rb, .bool rp, .bool rq, .int .i64 ru] 33)
                    have hb7 := Blk.new w7 33 #[.int .i64 ra, .int .i64 rb, .bool rp, .bool rq, .int .i64 ru]
                    have q0 := rdIn_at (Hrd5.out.mod hz7 (fun _ _ f => f)) HidK.out
                    have hbl := World.block_lt_of_cell? _ _ q0
                    go_wp2_with fail
                    refine (HG2.out _ hz7).mono ?_
                    rintro e w8 ⟨rfl, hx8⟩
                    have hb8 := hb7.mod hx8 (fun f => f)
                    have d0 := hb8.cell 0
                    have d1 := hb8.cell 1
                    have d2 := hb8.cell 2
                    have d3 := hb8.cell 3
                    have d4 := hb8.cell 4
                    simp only [List.getElem?_toArray, List.getElem?_cons_zero, List.getElem?_cons_succ] at d0 d1 d2 d3 d4
                    have hlb8 := hb8.lt
                    clear q0 hbl
                    go_wp2_with fail
                    go_roundw
                    case rel => exact ⟨k + 1, by omega, by go_num, (hz7.ext_trans hx8).alloc _⟩
                    case measure => simp [intOf]; omega
                  · have hc0 : cn = 0 := hfin.resolve_left hci
                    have hyes : ∃ r, getR (dropT L id) yi = some r := by
                      cases hg : getR (dropT L id) yi with
                      | none => exact absurd (hiff.2 hg) hci
                      | some r => exact ⟨r, rfl⟩
                    obtain ⟨r, hr⟩ := hyes
                    have hre := Hgd.out r hr
                    subst hre
                    have hci1 : (cn == id) = false := by simpa using hci
                    have hci2 : (cn != id) = true := by simpa using hci
                    have hc1 : (cn != 0) = false := by simpa using hc0
                    rw [hr] at HG2
                    rw [show (some (⟨ra, rb, rp, rq, ru⟩ : Rg)).getD rg0 = ⟨ra, rb, rp, rq, ru⟩ from rfl] at HG2
                    simp only [Option.isSome_some] at HG2
                    clear hci hiff hfin hr Hgd hc0
                    go_wp2_with fail
                    refine (HG1.out _ hz).mono ?_
                    rintro e w7 ⟨rfl, hx7⟩
                    have hz7 := (hz.ext_trans hx7).alloc (.cells #[.int .i64 ra, .int .i64 rb, .bool rp, .bool rq, .int .i64 ru] 33)
                    have hb7 := Blk.new w7 33 #[.int .i64 ra, .int .i64 rb, .bool rp, .bool rq, .int .i64 ru]
                    have q0 := rdIn_at (Hrd5.out.mod hz7 (fun _ _ f => f)) HidK.out
                    have hbl := World.block_lt_of_cell? _ _ q0
                    go_wp2_with fail
                    refine (HG2.out _ hz7).mono ?_
                    rintro e w8 ⟨rfl, hx8⟩
                    have hb8 := hb7.mod hx8 (fun f => f)
                    have d0 := hb8.cell 0
                    have d1 := hb8.cell 1
                    have d2 := hb8.cell 2
                    have d3 := hb8.cell 3
                    have d4 := hb8.cell 4
                    simp only [List.getElem?_toArray, List.getElem?_cons_zero, List.getElem?_cons_succ] at d0 d1 d2 d3 d4
                    have hlb8 := hb8.lt
                    clear q0 hbl
                    go_wp2_with fail
                    go_roundw
                    case rel => exact ⟨k + 1, by omega, by go_num, (hz7.ext_trans hx8).alloc _⟩
                    case measure => simp [intOf]; omega
          · have hlt' : ¬ (k : Int) < (M : Int) := by omega
            go_wp2_with fail
            refine (awake7_any _).mono ?_
            rintro e w9 ⟨rfl, hx9⟩
            go_wp2_with fail
            go_ret
            exact ⟨rfl, (hxd.ext_trans hy).ext_trans hx9⟩

theorem marksDrop_calls (w : World) (ao : Option Addr) (cap : Nat) (xs : List Dm) (hr : Reads w 7 ao xs.length (dmE.cells xs)) (hm : xs.length ≤ maxLen) (hok : ∀ x ∈ xs, DmOk w x) (o : Int) (wo : (Lit.int .i64 o).wf = true) :
    Calls Try.prog 7 #[.slice ao xs.length cap, .int .i64 o] w fun e w' => e = .returned (.bool true) ∧ Ext w w' := by
  have HM := muchM_any ao cap xs w hr hok hm
  by_cases h2 : 20 < xs.length
  · rw [if_pos h2] at HM
    clear hr hok
    go_enter Try.func7, Try.ntmps7
    go_wp2_with fail
    refine HM.mono ?_
    rintro e w0 ⟨rfl, rfl⟩
    go_wp2_with fail
    refine (awake7_any _).mono ?_
    rintro e w1 ⟨rfl, hx⟩
    go_wp2_with fail
    go_ret
    exact ⟨rfl, hx⟩
  · rw [if_neg h2] at HM
    cases hmu : muchD xs with
    | false => exact marksDrop_any w ao cap xs hr hok (by omega) hmu o wo
    | true =>
      rw [hmu] at HM
      clear hr hok hmu
      go_enter Try.func7, Try.ntmps7
      go_wp2_with fail
      refine HM.mono ?_
      rintro e w0 ⟨rfl, rfl⟩
      go_wp2_with fail
      refine (awake7_any _).mono ?_
      rintro e w1 ⟨rfl, hx⟩
      go_wp2_with fail
      go_ret
      exact ⟨rfl, hx⟩
end Go.Proofs.Ytffplppglicibaa

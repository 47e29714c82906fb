/- At all times each range's From is at most its To, and it lies within its parent's: the walk. Conditions: none. -/
import Derived.Test.YtffplppglicibaaGimWithinP
import Derived.Test.YtffplppglicibaaGimAwake7
namespace Go.Proofs.Ytffplppglicibaa
open Go.RowKit Go.Gim

set_option maxHeartbeats 3200000 in
set_option maxRecDepth 1000000 in
theorem marksWithin_any (w : World) (ao : Option Addr) (cap : Nat) (xs : List Dm) (hr : Reads w 7 ao xs.length (dmE.cells xs)) (hok : ∀ x ∈ xs, DmOk w x) (hn : xs.length ≤ 20) (hmu : muchD xs = false) :
    Calls Try.prog 5 #[.slice ao xs.length cap] w fun e w' => e = .returned (.bool true) ∧ Ext w w' := by
  have HD := Lib.hid (doneD_ok hn (muchD_no hmu))
  have Hno := Lib.hid (muchD_no hmu)
  have HM := muchM_any ao cap xs w hr hok (by unfold maxLen; omega)
  rw [if_neg (by omega), hmu] at HM
  have HM' := Lib.hid HM
  obtain ⟨N, hN⟩ : ∃ N, N = xs.length := ⟨_, rfl⟩
  have HN := Lib.hid hN
  have Hr := Lib.hid hr
  have Hok := Lib.hid hok
  rw [← hN] at hn HM' ⊢
  clear hr hok hmu HM hN
  go_enter Try.func5, Try.ntmps5
  go_wp2_with fail
  refine HM'.out.mono ?_
  rintro e w0 ⟨rfl, rfl⟩
  clear HM'
  go_wp2_with fail
  refine (tnew_any w0).mono ?_
  rintro e w1 ⟨tb, mb, rfl, h1, l1, l2, hx1⟩
  have H1 := Lib.hid h1
  have L1 := Lib.hid l1
  have L2 := Lib.hid l2
  clear h1 l1 l2
  go_wp2_with fail
  go_loopw [4] (fun i wr => ∃ k : Nat, k ≤ N ∧ i = .int .i64 k ∧ Hid (TabAt wr tb mb (doneD (xs.take k)).1 (doneD (xs.take k)).2) ∧ Ext w0 wr) (fun i _ => N - (intOf i).toNat)
  case atStart => exact ⟨0, by omega, rfl, H1, hx1⟩
  case round =>
    obtain ⟨k, hk, rfl, HT, hxr⟩ := hrel
    clear H1 hx1
    have hl1 := L1.out
    have hl2 := L2.out
    by_cases hlt : k < N
    · have hlt' : (k : Int) < (N : Int) := by omega
      have hk0 : (0 : Int) ≤ (k : Int) := by omega
      have hlk : k < xs.length := by rw [← HN.out]; exact hlt
      obtain ⟨b, off, rfl⟩ := Hr.out.some (by rw [← HN.out]; omega)
      obtain ⟨⟨q0, q1, q2, q3⟩, q4, q5, q6⟩ := reads_dm (Hr.out.mod hxr (fun _ _ f => f)) (List.getElem?_eq_getElem hlk)
      have hst := doneD_snoc (List.getElem?_eq_getElem hlk)
      obtain ⟨t1, t2, _⟩ := HD.out k (by omega)
      obtain ⟨t3, t4, t5⟩ := HD.out (k + 1) (by omega)
      obtain ⟨m1, m2⟩ := Hno.out _ (List.getElem_mem hlk)
      have HC := Lib.hid (does_any xs[k] tb mb _ _ _ w0 wr HT.out t1 (by omega) (by omega) (Hok.out _ (List.getElem_mem hlk)) hxr m1 m2 hl1 hl2)
      generalize xs[k] = x at *
      unfold stepD at hst
      rw [hst] at t3 t4 t5
      have Hst := Lib.hid hst
      generalize doesD x (doneD (xs.take k)).1 (doneD (xs.take k)).2 = d at *
      simp only at t3 t4 t5
      unfold DnPost dmV at HC
      have T3 := Lib.hid t3
      have T4 := Lib.hid t4
      have T5 := Lib.hid t5
      have hbl := World.block_lt_of_cell? wr _ q0
      clear t1 t2 t3 t4 t5 m1 m2 hst
      go_wp2_with fail
      refine HC.out.mono ?_
      rintro e w2 ⟨rfl, h2, hm2⟩
      have hx2 : Ext w0 w2 := hxr.trans hm2 (fun i hi e => by unfold tabS at e; omega)
      have HI := Lib.hid (ids_any tb mb _ _ w2 h2.blk h2.map T3.out.rise (Nat.le_trans T3.out.len (by omega)))
      have H2 := Lib.hid h2
      unfold Enc.Out at HI
      clear HC h2 hm2 hbl q0 q1 q2 q3 q4 q5 q6 HT hxr
      go_wp2_with fail
      refine HI.out.mono ?_
      rintro e w3 ⟨v, rfl, hov, hx3⟩
      obtain ⟨a1, c1, rfl, hrd⟩ := Enc.owns_reads (E := inE) hov
      obtain ⟨M, hM⟩ : ∃ M, M = (idsR d.L).length := ⟨_, rfl⟩
      have HMM := Lib.hid hM
      have hM2 : M ≤ 256 := by rw [hM]; unfold idsR; rw [List.length_map]; exact T3.out.len
      rw [← hM] at hrd ⊢
      have Hrd := Lib.hid hrd
      have H3 := Lib.hid (H2.out.ext hx3)
      have hx4 := hx2.ext_trans hx3
      clear hov hrd HI H2 hx2 hx3 hM
      go_wp2_with fail
      go_loopw [6] (fun j wr => ∃ m : Nat, m ≤ M ∧ j = .int .i64 m ∧ Ext w3 wr) (fun j _ => M - (intOf j).toNat)
      case atStart => exact ⟨0, by omega, rfl, Mod.refl _ _⟩
      case round =>
        obtain ⟨m, hmM, rfl, hy⟩ := hrel
        by_cases hlm : m < M
        · have hlm' : (m : Int) < (M : Int) := by omega
          have hm0 : (0 : Int) ≤ (m : Int) := by omega
          obtain ⟨bi, oi, rfl⟩ := Hrd.out.some (by omega)
          have hmL : m < d.L.length := by have := HMM.out; unfold idsR at this; rw [List.length_map] at this; omega
          have hkL : d.L[m]? = some (d.L[m]'hmL) := List.getElem?_eq_getElem _
          have q0 := rdIn_at (Hrd.out.mod hy (fun _ _ f => f)) (show (idsR d.L)[m]? = some (d.L[m]'hmL).1 by unfold idsR; rw [List.getElem?_map, hkL]; rfl)
          have hgr := getR_of_mem T3.out.once (show ((d.L[m]'hmL).1, (d.L[m]'hmL).2) ∈ d.L from List.getElem_mem _)
          have hib := T3.out.ids _ (List.getElem_mem hmL)
          have hbd := T3.out.bd _ (List.getElem_mem hmL)
          have hup := T5.out _ (List.getElem_mem hmL)
          have hupo := T3.out.up _ (List.getElem_mem hmL)
          have hl0 := T3.out.last0
          generalize d.L[m]'hmL = z at *
          obtain ⟨id, ra, rb, rp, rq, ru⟩ := z
          simp only at q0 hgr hib hbd hup hupo
          have hg := tget_any tb mb _ _ id wr (H3.out.ext hy) (id_wf (by omega) (by omega))
          rw [hgr] at hg
          rw [show (some (⟨ra, rb, rp, rq, ru⟩ : Rg)).getD rg0 = ⟨ra, rb, rp, rq, ru⟩ from rfl] at hg
          unfold rgV at hg
          simp only [Option.isSome_some] at hg
          have HG := Lib.hid hg
          have Hup := Lib.hid hup
          have Hupo := Lib.hid hupo
          have Hib := Lib.hid hib
          have hab : ¬ rb < ra := by omega
          have hbl := World.block_lt_of_cell? wr _ q0
          clear hg hgr hkL hup hupo hib hbd hl0
          go_wp2_with fail
          refine HG.out.mono ?_
          rintro e w5 ⟨rfl, hx5⟩
          have hy5 := hy.ext_trans hx5
          clear HG q0 hbl
          by_cases hu0 : ru = 0
          · subst hu0
            go_wp2_with fail
            go_roundw
            case rel => exact ⟨m + 1, by omega, by go_num, hy5.alloc _⟩
            case measure => simp [intOf]; omega
          · obtain ⟨up, hgu, hu1, hu2⟩ := Hup.out hu0
            have hub : (Lit.int .i64 ru).wf = true := by
              have := Hib.out
              have hul := T3.out.get hgu
              have := T3.out.last0
              exact id_wf (by omega) (by omega)
            have HG2 := Lib.hid (fun w' (h' : Ext w5 w') => tget_any tb mb _ _ ru w' (H3.out.ext (hy5.ext_trans h')) hub)
            rw [hgu] at HG2
            obtain ⟨ua, ubb, upp, upq, uu⟩ := up
            rw [show (some (⟨ua, ubb, upp, upq, uu⟩ : Rg)).getD rg0 = ⟨ua, ubb, upp, upq, uu⟩ from rfl] at HG2
            unfold rgV at HG2
            simp only [Option.isSome_some] at HG2
            simp only at hu1 hu2
            have hu3 : ¬ ra < ua := by omega
            have hu4 : ¬ ubb < rb := by omega
            have hun : (ru == 0) = false := by simpa using hu0
            clear hgu hub hu1 hu2
            go_wp2_with fail
            have hxo : Ext w5 (w5.alloc (.cells #[.int .i64 ra, .int .i64 rb, .bool rp, .bool rq, .int .i64 ru] 33)) := (Mod.refl _ _).alloc _
            have hbo := Blk.new w5 33 #[.int .i64 ra, .int .i64 rb, .bool rp, .bool rq, .int .i64 ru]
            refine (HG2.out _ hxo).mono ?_
            rintro e w6 ⟨rfl, hx6⟩
            have hbo6 := hbo.mod hx6 (fun f => f)
            have hy6 := (hy5.ext_trans hxo).ext_trans hx6
            have d0 := hbo6.cell 0
            have d1 := hbo6.cell 1
            simp only [List.getElem?_toArray, List.getElem?_cons_zero, List.getElem?_cons_succ] at d0 d1
            have hlb := hbo6.lt
            clear HG2 hxo hbo hx6 hbo6 hy5 hx5
            go_wp2_with fail
            go_roundw
            case rel => exact ⟨m + 1, by omega, by go_num, hy6.alloc _⟩
            case measure => simp [intOf]; omega
        · have hlm' : ¬ (m : Int) < (M : Int) := by omega
          go_wp2_with fail
          go_roundw
          case rel => exact ⟨k + 1, by omega, by go_num, Lib.hid (by rw [Hst.out]; exact H3.out.ext hy), hx4.ext_trans hy⟩
          case measure => simp [intOf]; omega
    · have hlt' : ¬ (k : Int) < (N : Int) := by omega
      go_wp2_with fail
      refine (awake7_any _).mono ?_
      rintro e w9 ⟨rfl, hx9⟩
      go_wp2_with fail
      go_ret
      exact ⟨rfl, hxr.ext_trans hx9⟩

theorem marksWithin_calls (w : World) (ao : Option Addr) (cap : Nat) (xs : List Dm) (hr : Reads w 7 ao xs.length (dmE.cells xs)) (hm : xs.length ≤ maxLen) (hok : ∀ x ∈ xs, DmOk w x) :
    Calls Try.prog 5 #[.slice ao xs.length cap] w fun e w' => e = .returned (.bool true) ∧ Ext w w' := by
  by_cases h2 : 20 < xs.length
  · have HM := muchM_any ao cap xs w hr hok hm
    rw [if_pos h2] at HM
    clear hr hok
    go_enter Try.func5, Try.ntmps5
    go_wp2_with fail
    refine HM.mono ?_
    rintro e w0 ⟨rfl, rfl⟩
    go_wp2_with fail
    refine (awake7_any _).mono ?_
    rintro e w1 ⟨rfl, hx⟩
    go_wp2_with fail
    go_ret
    exact ⟨rfl, hx⟩
  · cases hmu : muchD xs with
    | false => exact marksWithin_any w ao cap xs hr hok (by omega) hmu
    | true =>
      have HM := muchM_any ao cap xs w hr hok hm
      rw [if_neg h2, hmu] at HM
      clear hr hok hmu
      go_enter Try.func5, Try.ntmps5
      go_wp2_with fail
      refine HM.mono ?_
      rintro e w0 ⟨rfl, rfl⟩
      go_wp2_with fail
      refine (awake7_any _).mono ?_
      rintro e w1 ⟨rfl, hx⟩
      go_wp2_with fail
      go_ret
      exact ⟨rfl, hx⟩
end Go.Proofs.Ytffplppglicibaa

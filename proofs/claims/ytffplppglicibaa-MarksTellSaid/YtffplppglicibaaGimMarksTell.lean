/- Whatever is done to a table, it answers, and holds, what the document tells: the walk. Conditions: none. -/
import Derived.Test.YtffplppglicibaaGimSame7
import Derived.Test.YtffplppglicibaaGimAwake7
import Derived.Test.YtffplppglicibaaGimWithinP
import Derived.Test.YtffplppglicibaaGimLaw
namespace Go.Proofs.Ytffplppglicibaa
open Go.RowKit Go.Gim

set_option maxHeartbeats 3200000 in
set_option maxRecDepth 1000000 in
theorem marksTell_any (w : World) (ao : Option Addr) (cap : Nat) (xs : List Dm) (hr : Reads w 7 ao xs.length (dmE.cells xs)) (hok : ∀ x ∈ xs, DmOk w x) (hn : xs.length ≤ 20) (hmu : muchD xs = false) (o : Int) :
    Calls Try.prog 8 #[.slice ao xs.length cap, .int .i64 o] w fun e w' => e = .returned (.bool true) ∧ Ext w w' := by
  have HD := Lib.hid (doneD_ok hn (muchD_no hmu))
  have Hno := Lib.hid (muchD_no hmu)
  have HM := muchM_any ao cap xs w hr hok (by unfold maxLen; omega)
  rw [if_neg (by omega), hmu] at HM
  have HM' := Lib.hid HM
  obtain ⟨N, hN⟩ : ∃ N, N = xs.length := ⟨_, rfl⟩
  have HN := Lib.hid hN
  have Hr := Lib.hid hr
  have Hok := Lib.hid hok
  rw [← hN] at hn HM' ⊢
  clear hr hok hmu HM hN
  go_enter Try.func8, Try.ntmps8
  go_wp2_with fail
  refine HM'.out.mono ?_
  rintro e w0 ⟨rfl, rfl⟩
  clear HM'
  go_wp2_with fail
  refine (tnew_any w0).mono ?_
  rintro e w1 ⟨tb, mb, rfl, h1, l1, l2, hx1⟩
  have H1 := Lib.hid h1
  have L1 := Lib.hid l1
  have L2 := Lib.hid l2
  clear h1 l1 l2
  go_upto_region 4 with fail
  obtain ⟨u, hu⟩ : ∃ u, u = w1.alloc (.cells #[.slice none 0 0, .slice none 0 0, .int .i64 0] 63) := ⟨_, rfl⟩
  have hxu : Ext w1 u := by rw [hu]; exact (Mod.refl _ w1).alloc _
  have HU0 := Lib.hid (show RefAt u w0.heap.size w1.heap.size (.slice none 0 0) (.slice none 0 0) [] 0 from ⟨by rw [hu]; exact Blk.new _ _ _, hx1.size, World.ownsRow_nil _ _ _ _, World.ownsRow_nil _ _ _ _⟩)
  have HT0 := Lib.hid (H1.out.ext hxu)
  have hx0 := hx1.ext_trans hxu
  rw [← hu]
  obtain ⟨ub, hub⟩ : ∃ ub, ub = w1.heap.size := ⟨_, rfl⟩
  rw [← hub] at HU0 ⊢
  clear hu hub H1 hx1 hxu
  go_wp2_with fail
  go_loopw [7] (fun i wr => ∃ k : Nat, k ≤ N ∧ i = .int .i64 k ∧ Hid (TabAt wr tb mb (doneD (xs.take k)).1 (doneD (xs.take k)).2) ∧ Hid (∃ v1 v2, RefAt wr w0.heap.size ub v1 v2 (doneD (xs.take k)).1 (doneD (xs.take k)).2) ∧ Ext w0 wr) (fun i _ => N - (intOf i).toNat)
  case atStart => exact ⟨0, by omega, rfl, HT0, Lib.hid ⟨_, _, HU0.out⟩, hx0⟩
  case round =>
    obtain ⟨k, hk, rfl, HT, HU, hxr⟩ := hrel
    clear HT0 HU0 hx0
    have hl1 := L1.out
    have hl2 := L2.out
    by_cases hlt : k < N
    · have hlt' : (k : Int) < (N : Int) := by omega
      have hk0 : (0 : Int) ≤ (k : Int) := by omega
      have hlk : k < xs.length := by rw [← HN.out]; exact hlt
      obtain ⟨b, off, rfl⟩ := Hr.out.some (by rw [← HN.out]; omega)
      obtain ⟨⟨q0, q1, q2, q3⟩, q4, q5, q6⟩ := reads_dm (Hr.out.mod hxr (fun _ _ f => f)) (List.getElem?_eq_getElem hlk)
      have hst := doneD_snoc (List.getElem?_eq_getElem hlk)
      obtain ⟨t1, t2, _⟩ := HD.out k (by omega)
      obtain ⟨t3, t4, t5⟩ := HD.out (k + 1) (by omega)
      obtain ⟨m1, m2⟩ := Hno.out _ (List.getElem_mem hlk)
      obtain ⟨v1, v2, hU⟩ := HU.out
      have HC := Lib.hid (does_any xs[k] tb mb _ _ _ w0 wr HT.out t1 (by omega) (by omega) (Hok.out _ (List.getElem_mem hlk)) hxr m1 m2 hl1 hl2)
      have HY := Lib.hid (fun (w2 : World) (hU2 : RefAt w2 w0.heap.size ub v1 v2 (doneD (xs.take k)).1 (doneD (xs.take k)).2) (hx2 : Ext w0 w2) => says_any xs[k] ub v1 v2 _ _ _ w0 w2 hU2 t1 (by omega) (by omega) (Hok.out _ (List.getElem_mem hlk)) hx2 m1 m2)
      have Hq := Lib.hid (fun (w2 : World) (hx2 : Ext w0 w2) => reads_dm (Hr.out.mod hx2 (fun _ _ f => f)) (List.getElem?_eq_getElem hlk))
      generalize xs[k] = x at *
      unfold stepD at hst
      rw [hst] at t3 t4 t5
      have Hst := Lib.hid hst
      generalize doesD x (doneD (xs.take k)).1 (doneD (xs.take k)).2 = d at *
      simp only at t3 t4 t5
      unfold DnPost dmV at HC
      unfold RnPost dmV at HY
      have T3 := Lib.hid t3
      have hU' := Lib.hid hU
      have hbl := World.block_lt_of_cell? wr _ q0
      clear t1 t2 t3 t4 t5 m1 m2 hst hU
      go_wp2_with fail
      refine HC.out.mono ?_
      rintro e w2 ⟨rfl, h2, hm2⟩
      have hx2 : Ext w0 w2 := hxr.trans hm2 (fun i hi e => by unfold tabS at e; omega)
      have H2 := Lib.hid h2
      have HU2 := Lib.hid (hU'.out.tab HT.out hm2)
      clear HC h2 hm2 hbl q0 q1 q2 q3 q4 q5 q6 HT hxr HU hU'
      have HY2 := Lib.hid (HY.out w2 HU2.out hx2)
      obtain ⟨⟨q0, q1, q2, q3⟩, q4, q5, q6⟩ := Hq.out w2 hx2
      have hbl := World.block_lt_of_cell? w2 _ q0
      clear HY HU2 Hq
      go_wp2_with fail
      refine HY2.out.mono ?_
      rintro e w3 ⟨rfl, h3, hm3⟩
      obtain ⟨v3, v4, h3⟩ := h3
      have H3 := Lib.hid (H2.out.refs hm3)
      have HU3 := Lib.hid h3
      have hx3 : Ext w0 w3 := hx2.trans hm3 (fun i hi e => by have := e.1; omega)
      have HSm := Lib.hid (same7_any o tb mb _ ub v3 v4 d.L d.last _ w3 H3.out h3 T3.out)
      have e1 : (d.n != d.n) = false := by simp
      have e2 : (d.e != d.e) = false := by simp
      clear HY2 h3 hm3 hbl q0 q1 q2 q3 q4 q5 q6 hx2 H2
      go_wp2_with fail
      refine HSm.out.mono ?_
      rintro e w4 ⟨rfl, hx4⟩
      clear HSm
      go_wp2_with fail
      go_roundw
      case rel => exact ⟨k + 1, by omega, by go_num, Lib.hid (by rw [Hst.out]; exact H3.out.ext hx4), Lib.hid (by rw [Hst.out]; exact ⟨v3, v4, HU3.out.ext hx4⟩), hx3.ext_trans hx4⟩
      case measure => simp [intOf]; omega
    · have hlt' : ¬ (k : Int) < (N : Int) := by omega
      obtain rfl : k = N := by omega
      obtain ⟨t1, t2, t3⟩ := HD.out k (by rw [← HN.out]; exact Nat.le_refl _)
      have hg := tget_any tb mb _ _ 0 wr HT.out (id_wf (by omega) (by omega))
      rw [t1.zero] at hg
      rw [show (none : Option Rg).getD rg0 = ⟨0, 0, false, false, 0⟩ from rfl] at hg
      unfold rgV at hg
      simp only [Option.isSome_none] at hg
      have HG := Lib.hid hg
      clear hg t1 t2 t3 HT HU HD Hno Hok Hr
      go_wp2_with fail
      refine HG.out.mono ?_
      rintro e w2 ⟨rfl, hx2⟩
      go_wp2_with fail
      refine (awake7_any _).mono ?_
      rintro e w9 ⟨rfl, hx9⟩
      go_wp2_with fail
      go_ret
      exact ⟨rfl, ((hxr.ext_trans hx2).alloc _).ext_trans hx9⟩

theorem marksTell_calls (w : World) (ao : Option Addr) (cap : Nat) (xs : List Dm) (hr : Reads w 7 ao xs.length (dmE.cells xs)) (hm : xs.length ≤ maxLen) (hok : ∀ x ∈ xs, DmOk w x) (o : Int) (_ : (Lit.int .i64 o).wf = true) :
    Calls Try.prog 8 #[.slice ao xs.length cap, .int .i64 o] w fun e w' => e = .returned (.bool true) ∧ Ext w w' := by
  have HM := muchM_any ao cap xs w hr hok hm
  by_cases h2 : 20 < xs.length
  · rw [if_pos h2] at HM
    clear hr hok
    go_enter Try.func8, Try.ntmps8
    go_wp2_with fail
    refine HM.mono ?_
    rintro e w0 ⟨rfl, rfl⟩
    go_wp2_with fail
    refine (awake7_any _).mono ?_
    rintro e w1 ⟨rfl, hx⟩
    go_wp2_with fail
    go_ret
    exact ⟨rfl, hx⟩
  · rw [if_neg h2] at HM
    cases hmu : muchD xs with
    | false => exact marksTell_any w ao cap xs hr hok (by omega) hmu o
    | true =>
      rw [hmu] at HM
      clear hr hok hmu
      go_enter Try.func8, Try.ntmps8
      go_wp2_with fail
      refine HM.mono ?_
      rintro e w0 ⟨rfl, rfl⟩
      go_wp2_with fail
      refine (awake7_any _).mono ?_
      rintro e w1 ⟨rfl, hx⟩
      go_wp2_with fail
      go_ret
      exact ⟨rfl, hx⟩
end Go.Proofs.Ytffplppglicibaa

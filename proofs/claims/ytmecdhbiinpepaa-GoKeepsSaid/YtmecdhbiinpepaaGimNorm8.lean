/- The document's Norm; whether two slices of selections are the same. Conditions: less than 65 selections. -/
import Derived.Test.YtmecdhbiinpepaaGimMerge8
import Derived.Test.YtmecdhbiinpepaaGimPackI
namespace Go.Proofs.Ytmecdhbiinpepaa
open Go.RowKit Go.Gim

set_option maxHeartbeats 1600000 in
set_option maxRecDepth 1000000 in
theorem refNorm_nil (n : Int) (ao : Option Addr) (cap : Nat) (w : World) :
    Calls Try.prog 48 #[.int .i64 n, .slice ao 0 cap] w (NormPost 47 n [] w) := by
  go_enter Try.func48, Try.ntmps48
  go_wp2_with fail
  go_ret2
  exact ⟨_, rfl, World.ownsRow_nil _ _ _ _, Mod.refl _ _⟩

set_option maxHeartbeats 1600000 in
set_option maxRecDepth 1000000 in
theorem refNorm_in (n : Int) (ao : Option Addr) (cap : Nat) (l : List (Int × Int)) (w : World) (hr : Reads w 2 ao l.length (prCells l)) (h0 : 0 < l.length) (hn : l.length ≤ 64) :
    Calls Try.prog 48 #[.int .i64 n, .slice ao l.length cap] w (NormPost 47 n l w) := by
  have He := Lib.hid (normE_in (n := n) h0 (by omega))
  have Hr := Lib.hid hr
  have Ho := Lib.hid (fun v hv => refMerge_in ao cap l v hv h0 (by omega))
  obtain ⟨b, off, rfl⟩ := hr.some h0
  obtain ⟨N, hN⟩ : ∃ N, N = l.length := ⟨_, rfl⟩
  have HN := Lib.hid hN
  rw [← hN] at h0 hn ⊢
  have j1 : ¬ (N : Int) = 0 := by omega
  have j2 : ¬ 64 < (N : Int) := by omega
  have j3 : ¬ 64 < N := by omega
  have j4 : ¬ N = 0 := by omega
  clear hr hN
  go_enter Try.func48, Try.ntmps48
  go_wp2_with fail
  go_loopw [6] (fun i wr => ∃ k : Nat, k ≤ N ∧ i = .int .i64 k ∧ Hid (∀ x ∈ l.take k, mayB (spanI x) n = true) ∧ Ext w wr) (fun i _ => N - (intOf i).toNat)
  case atStart => exact ⟨0, by omega, rfl, Lib.hid (by simp), Mod.refl _ _⟩
  case round =>
    obtain ⟨k, hk, rfl, HA, hx⟩ := hrel
    by_cases hlt : k < N
    · have hlt' : (k : Int) < (N : Int) := by omega
      have hk0 : (0 : Int) ≤ (k : Int) := by omega
      have hlk : k < l.length := by rw [← HN.out]; exact hlt
      obtain ⟨c0, c1⟩ := reads_pair (Hr.out.mod hx (fun _ _ f => f)) (List.getElem?_eq_getElem hlk)
      have hts := List.take_succ_eq_append_getElem hlk
      have Hmem := Lib.hid (List.getElem_mem hlk)
      generalize l[k] = x at *
      have Hts := Lib.hid hts
      have hbl := World.block_lt_of_cell? _ _ c0
      clear hts hlk
      go_wp2_with fail
      refine (refSpan_any x _).mono ?_
      rintro e w1 ⟨rfl, y1⟩
      go_wp2_with fail
      refine (refMay_any (spanI x) n _).mono ?_
      rintro e w2 ⟨rfl, y2⟩
      have hx2 := (hx.ext_trans y1).ext_trans y2
      cases hm : mayB (spanI x) n with
      | true =>
        have Hm := Lib.hid hm
        clear y1 y2 c0 c1 hm
        go_wp2_with fail
        go_roundw
        case rel => exact ⟨k + 1, by omega, by go_num, Lib.hid (by rw [Hts.out]; intro y hy; rcases List.mem_append.1 hy with h | h; exact HA.out y h; rw [List.mem_singleton.1 h]; exact Hm.out), hx2⟩
        case measure => simp [intOf]; omega
      | false =>
        have Hm := Lib.hid hm
        have HE := Lib.hid (show normE n l = 3 by
          rw [He.out, if_neg]
          intro hall
          have := List.all_eq_true.1 hall x Hmem.out
          rw [Hm.out] at this; cases this)
        clear y1 y2 c0 c1 hm
        go_wp2_with fail
        go_ret2
        exact ⟨_, by rw [HE.out]; rfl, by rw [show normL n l = [] by unfold normL; rw [HE.out]; rfl]; exact World.ownsRow_nil _ _ _ _, hx2⟩
    · have hlt' : ¬ (k : Int) < (N : Int) := by omega
      obtain rfl : k = N := by omega
      have HE := Lib.hid (show normE n l = 0 by
        have h1 := HA.out
        rw [HN.out, List.take_of_length_le (Nat.le_refl _)] at h1
        rw [He.out, if_pos (List.all_eq_true.2 h1)])
      have ho := Ho.out _ (Hr.out.mod hx (fun _ _ f => f))
      rw [← HN.out] at ho
      have Ho2 := Lib.hid ho
      clear ho Ho
      go_wp2_with fail
      refine Ho2.out.mono ?_
      rintro e w3 ⟨g, c, rfl, hown, y3⟩
      have HO := Lib.hid (ownsRow_base hown hx.size)
      clear hown
      go_wp2_with fail
      go_ret2
      exact ⟨_, by rw [HE.out]; rfl, by rw [show normL n l = orderN l by unfold normL; rw [HE.out]; rfl]; exact HO.out, hx.ext_trans y3⟩

theorem refNorm_any (n : Int) (ao : Option Addr) (cap : Nat) (l : List (Int × Int)) (w : World) (hr : Reads w 2 ao l.length (prCells l)) (hn : l.length ≤ 64) :
    Calls Try.prog 48 #[.int .i64 n, .slice ao l.length cap] w (NormPost 47 n l w) := by
  by_cases h0 : 0 < l.length
  · exact refNorm_in n ao cap l w hr h0 hn
  · obtain rfl : l = [] := List.length_eq_zero_iff.1 (by omega)
    exact refNorm_nil n ao cap w

set_option maxHeartbeats 1600000 in
set_option maxRecDepth 1000000 in
theorem selsSame (a b : Option Addr) (c d : Nat) (l : List (Int × Int)) (w : World) (ha : Reads w 2 a l.length (prCells l)) (hb : Reads w 2 b l.length (prCells l)) (hn : l.length ≤ 1000000) :
    Calls Try.prog 24 #[.slice a l.length c, .slice b l.length d] w fun e w' => e = .returned (.bool true) ∧ Ext w w' := by
  have Ha := Lib.hid ha
  have Hb := Lib.hid hb
  obtain ⟨N, hN⟩ : ∃ N, N = l.length := ⟨_, rfl⟩
  have HN := Lib.hid hN
  rw [← hN] at hn ⊢
  clear ha hb hN
  go_enter Try.func24, Try.ntmps24
  go_wp2_with fail
  go_loopw [5] (fun i wr => ∃ k : Nat, k ≤ N ∧ i = .int .i64 k ∧ Ext w wr) (fun i _ => N - (intOf i).toNat)
  case atStart => exact ⟨0, by omega, rfl, Mod.refl _ _⟩
  case round =>
    obtain ⟨k, hk, rfl, hx⟩ := hrel
    by_cases hlt : k < N
    · have hlt' : (k : Int) < (N : Int) := by omega
      have hk0 : (0 : Int) ≤ (k : Int) := by omega
      have hlk : k < l.length := by rw [← HN.out]; exact hlt
      obtain ⟨b1, o1, rfl⟩ := Ha.out.some (by omega)
      obtain ⟨b2, o2, rfl⟩ := Hb.out.some (by omega)
      obtain ⟨c0, c1⟩ := reads_pair (Ha.out.mod hx (fun _ _ f => f)) (List.getElem?_eq_getElem hlk)
      obtain ⟨d0, d1⟩ := reads_pair (Hb.out.mod hx (fun _ _ f => f)) (List.getElem?_eq_getElem hlk)
      generalize l[k] = x at *
      obtain ⟨p, q⟩ := x
      clear hlk
      go_wp2_with fail
      go_quiet (fail)
      go_wp2_with fail
      go_roundw
      case rel => exact ⟨k + 1, by omega, by go_num, hx.drewN _⟩
      case measure => simp [intOf]; omega
    · have hlt' : ¬ (k : Int) < (N : Int) := by omega
      go_wp2_with fail
      go_ret
      exact ⟨rfl, hx⟩
end Go.Proofs.Ytmecdhbiinpepaa

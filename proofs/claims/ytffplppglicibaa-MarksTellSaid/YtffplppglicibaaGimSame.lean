/- Two lists of texts, of numbers, held against each other by the statements' own functions. Conditions: lists of at most 1000000. -/
import Derived.Test.YtffplppglicibaaGimBase
import Derived.Test.YtffplppglicibaaRows
namespace Go.Proofs.Ytffplppglicibaa
open Go.RowKit Go.Gim

theorem getD_of {α : Type} {l : List α} {j : Nat} {d : α} (h : j < l.length) : l[j]? = some (l.getD j d) := by simp [List.getD, h]
theorem ne_at {α : Type} [DecidableEq α] (d : α) : ∀ (xs ys : List α), xs.length = ys.length → xs ≠ ys → ∃ j, j < xs.length ∧ xs.getD j d ≠ ys.getD j d
  | [], [], _, h => absurd rfl h
  | x :: xs, y :: ys, hl, h => by
    by_cases hx : x = y
    · subst hx
      obtain ⟨j, hj, hne⟩ := ne_at d xs ys (by simpa using hl) (fun e => h (by rw [e]))
      exact ⟨j + 1, by simpa using hj, by simpa [List.getD] using hne⟩
    · exact ⟨0, by simp, by simpa [List.getD] using hx⟩
  | [], _ :: _, hl, _ => by simp at hl
  | _ :: _, [], hl, _ => by simp at hl

set_option maxHeartbeats 1600000 in
set_option maxRecDepth 1000000 in
theorem ints_any (w : World) (ao bo : Option Addr) (cx cy : Nat) (xs ys : List Int) (h1 : Reads w 1 ao xs.length (xs.map (Value.int .i64))) (h2 : Reads w 1 bo ys.length (ys.map (Value.int .i64))) (hl : xs.length ≤ 1000000) (hl2 : ys.length ≤ 1000000) :
    Calls Try.prog 28 #[.slice ao xs.length cx, .slice bo ys.length cy] w fun e w' => e = .returned (.bool (decide (xs = ys))) ∧ ∃ m, w' = w.drewN m := by
  by_cases hn : xs.length = ys.length
  · have hne : ((xs.length : Int) != (ys.length : Int)) = false := by simp [hn]
    have Hn := Lib.hid hn
    clear hn
    go_enter Try.func28, Try.ntmps28
    go_wp2_with fail
    go_loopw [5] (fun i wr => ∃ (k m : Nat), k ≤ xs.length ∧ i = .int .i64 k ∧ wr = w.drewN m ∧ ∀ j, j < k → xs.getD j 0 = ys.getD j 0) (fun i _ => xs.length - (intOf i).toNat)
    case atStart => exact ⟨0, 0, Nat.zero_le _, rfl, rfl, fun j hj => absurd hj (Nat.not_lt_zero _)⟩
    case round =>
      obtain ⟨k, m, hk, rfl, rfl, hs⟩ := hrel
      have Hs := Lib.hid hs
      clear hs
      by_cases hlt : k < xs.length
      · have hlt2 : k < ys.length := by rw [← Hn.out]; exact hlt
        obtain ⟨b1, o1, rfl⟩ := h1.some (by omega)
        obtain ⟨b2, o2, rfl⟩ := h2.some (by omega)
        have c1 := h1.at (j := k) (v := (Value.int .i64) (xs.getD k 0)) (by rw [List.getElem?_map, getD_of hlt]; rfl)
        have c2 := h2.at (j := k) (v := (Value.int .i64) (ys.getD k 0)) (by rw [List.getElem?_map, getD_of hlt2]; rfl)
        have i1 : (k : Int) < (xs.length : Int) := by omega
        have i2 : (k : Int) < (ys.length : Int) := by omega
        by_cases he : xs.getD k 0 = ys.getD k 0
        · rw [← he] at c2
          generalize hv : xs.getD k 0 = v at *
          have Hv : Hid (xs.getD k 0 = ys.getD k 0) := by rw [hv]; exact he
          clear he hv h1 h2
          go_wp2_with fail
          go_quiet (fail)
          go_wp2_with fail
          go_roundw
          case rel =>
            refine ⟨k + 1, _, by omega, by go_num, rfl, fun j hj => ?_⟩
            by_cases e : j = k
            · rw [e]; exact Hv.out
            · exact Hs.out j (by omega)
          case measure => simp [intOf]; omega
        · generalize hv : xs.getD k 0 = v at *
          generalize hu : ys.getD k 0 = u at *
          have Hv : Hid (xs ≠ ys) := fun e => he (by rw [← hv, ← hu, e])
          have hb := (show (v == u) = false by simpa using he)
          clear h1 h2 hv hu he
          go_wp2_with fail
          go_quiet (fail)
          go_wp2_with fail
          go_ret
          exact ⟨ret_bool (decide_eq_false Hv.out).symm, _, World.drewN_drewN _ _ _⟩
      · have i1 : ¬ ((k : Int) < (xs.length : Int)) := by omega
        have he : xs = ys := by
          apply Classical.byContradiction
          intro hne
          obtain ⟨j, hj, hjn⟩ := ne_at 0 xs ys Hn.out hne
          exact hjn (Hs.out j (by omega))
        have He := Lib.hid he
        clear he
        go_wp2_with fail
        go_ret
        exact ⟨ret_bool (decide_eq_true He.out).symm, _, rfl⟩
  · have hne : ((xs.length : Int) != (ys.length : Int)) = true := by simp; omega
    have hd : decide (xs = ys) = false := decide_eq_false (fun e => hn (by rw [e]))
    rw [hd]
    clear hd hn
    go_enter Try.func28, Try.ntmps28
    go_wp2_with fail
    go_ret
    exact ⟨rfl, 0, rfl⟩

end Go.Proofs.Ytffplppglicibaa

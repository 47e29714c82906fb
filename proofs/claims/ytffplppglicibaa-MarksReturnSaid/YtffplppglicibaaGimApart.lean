/- span.Apart: does each stretch begin behind the one ahead of it? Conditions: fewer than 20 stretches. -/
import Derived.Test.YtffplppglicibaaGimSortSp
import Derived.Test.YtffplppglicibaaGimSpanM
namespace Go.Gim
theorem apartB_yes {l : List (Int × Int)} (h : ∀ i, i < l.length → okAt (sorted lessB l) i = true) : apartB l = true :=
  List.all_eq_true.2 (fun i hi => h i (List.mem_range.1 hi))
theorem apartB_no {l : List (Int × Int)} {i : Nat} (hi : i < l.length) (h : okAt (sorted lessB l) i = false) : apartB l = false := by
  rw [Bool.eq_false_iff]
  intro ha
  rw [List.all_eq_true.1 ha i (List.mem_range.2 hi)] at h
  cases h
end Go.Gim
namespace Go.Proofs.Ytffplppglicibaa
open Go.RowKit Go.Gim

set_option maxHeartbeats 3200000 in
set_option maxRecDepth 1000000 in
theorem apart_some (b off cap : Nat) (l : List (Int × Int)) (w : World) (hr : Reads w 2 (some ⟨b, off, none⟩) l.length (prE.cells l)) (h0 : 0 < l.length) (hn : l.length ≤ 19) :
    Calls Try.prog 33 #[.slice (some ⟨b, off, none⟩) l.length cap] w fun e w' => e = .returned (.bool (apartB l)) ∧ Ext w w' := by
  have Hc := Lib.hid (cloneSp_some b off cap l w hr h0 (by omega))
  have Hs := Lib.hid (fun g c w' (h : prE.Row w' g 31 l) => sortSp_any g c l w' h h0 hn)
  unfold Enc.New at Hc
  have Hyes := Lib.hid (apartB_yes (l := l))
  have Hno := Lib.hid (fun i hi h => apartB_no (l := l) (i := i) hi h)
  have Hsl := Lib.hid (sorted_length lessB l)
  generalize sorted lessB l = S at *
  generalize apartB l = B at *
  obtain ⟨N, hN⟩ : ∃ N, N = l.length := ⟨_, rfl⟩
  rw [← hN] at h0 hn Hyes Hno Hsl Hc Hs ⊢
  clear hr hN
  go_enter Try.func33, Try.ntmps33
  go_wp2_with fail
  refine Hc.out.mono ?_
  rintro e w1 ⟨g, c, rfl, hown, hx1⟩
  have hrow1 := Enc.Row.of_owns (E := prE) hown
  have hg := (Enc.owns_block (E := prE) hown).1
  clear hown
  go_wp2_with fail
  refine (Hs.out g c w1 hrow1).mono ?_
  rintro e w2 ⟨rfl, hrow2, hm2⟩
  have hx2 : Ext w w2 := hx1.trans hm2 (fun i hi e => by omega)
  have Hrow := Lib.hid hrow2
  clear hrow1 hrow2 hm2 hx1 Hc Hs
  go_wp2_with fail
  go_loopw [12] (fun s12 wr => ∃ k : Nat, k ≤ N ∧ s12 = .int .i64 k ∧ Hid (prE.Row wr g 31 S ∧ ∀ i, i < k → okAt S i = true) ∧ Ext w wr) (fun s12 _ => N - (intOf s12).toNat)
  case atStart => exact ⟨0, by omega, rfl, Lib.hid ⟨Hrow.out, fun i hi => absurd hi (Nat.not_lt_zero i)⟩, hx2⟩
  case round =>
    clear Hrow hx2
    obtain ⟨k, hk, rfl, HK, hx⟩ := hrel
    by_cases hlt : k < N
    · have hlt' : (k : Int) < (N : Int) := by omega
      have hk0 : (0 : Int) ≤ (k : Int) := by omega
      have hkS : S[k]? = some (S[k]'(by rw [Hsl.out]; exact hlt)) := List.getElem?_eq_getElem _
      obtain ⟨c0, c1⟩ := SpRow_cell HK.out.1 hkS
      have hgl := HK.out.1.lt
      have hok := okAt_is hkS
      generalize S[k]'(by rw [Hsl.out]; exact hlt) = x at *
      have Hok := Lib.hid hok
      have Hk := Lib.hid hlt
      clear hok hkS
      by_cases h1 : x.2 < x.1
      · have b1 : decide (x.2 < x.1) = true := decide_eq_true h1
        have Hb := Lib.hid (Hno.out k hlt (by rw [Hok.out, b1]; rfl))
        go_wp2_with fail
        go_quiet (fail)
        go_wp2_with fail
        go_ret
        exact ⟨ret_bool Hb.out.symm, ((hx.alloc _).drewN _)⟩
      · have b1 : decide (x.2 < x.1) = false := decide_eq_false h1
        cases k with
        | zero =>
          have b2 : decide ((0 : Int) < 0) = false := rfl
          have Ho := Lib.hid (show okAt S 0 = true by rw [Hok.out, b1]; rfl)
          go_wp2_with fail
          go_quiet (fail)
          go_wp2_with fail
          go_roundw
          case rel => exact ⟨1, by omega, by go_num, Lib.hid ⟨HK.out.1.mod (((Mod.refl (fun _ => False) _).alloc _).drewN _) (fun f => f), fun i hi => (show i = 0 by omega) ▸ Ho.out⟩, (hx.alloc _).drewN _⟩
          case measure => simp [intOf]; omega
        | succ j =>
          have hjS : S[j]? = some (S[j]'(by rw [Hsl.out]; omega)) := List.getElem?_eq_getElem _
          obtain ⟨d0, d1⟩ := SpRow_cell HK.out.1 hjS
          have hok2 : okAt S (j + 1) = (!decide (x.2 < x.1) && apart1 x (some (S[j]'(by rw [Hsl.out]; omega)))) := by rw [Hok.out]; show (_ && apart1 x S[j]?) = _; rw [hjS]
          generalize S[j]'(by rw [Hsl.out]; omega) = y at *
          rw [b1] at hok2
          have b2 : decide ((0 : Int) < (j : Int) + 1) = true := decide_eq_true (by omega)
          have e2 : IntKind.i64.wrap ((j : Int) + 1 - 1) = (j : Int) := by rw [show (j : Int) + 1 - 1 = j from by omega]; exact IntWalk.i64_in _ (by omega)
          have e3 : (0 : Int) ≤ (j : Int) := by omega
          have e4 : (j : Int) < (N : Int) := by omega
          have e5 : (j : Int) ≤ 19 := by omega
          cases h2 : (x.1 == y.1) with
          | true =>
            have Hb := Lib.hid (Hno.out (j + 1) hlt (by rw [hok2]; show (!false && !(decide (x.1 = y.1) || decide (x.1 < y.2))) = _; rw [decide_eq_true (show x.1 = y.1 by simpa using h2)]; rfl))
            clear hok2 hjS Hok
            go_wp2_with fail
            go_quiet (fail)
            go_wp2_with fail
            go_ret
            exact ⟨ret_bool Hb.out.symm, ((hx.alloc _).drewN _)⟩
          | false =>
            by_cases h3 : x.1 < y.2
            · have b3 : decide (x.1 < y.2) = true := decide_eq_true h3
              have Hb := Lib.hid (Hno.out (j + 1) hlt (by rw [hok2]; show (!false && !(decide (x.1 = y.1) || decide (x.1 < y.2))) = _; rw [b3, Bool.or_true]; rfl))
              clear hok2 hjS Hok
              go_wp2_with fail
              go_quiet (fail)
              go_wp2_with fail
              go_ret
              exact ⟨ret_bool Hb.out.symm, ((hx.alloc _).drewN _)⟩
            · have b3 : decide (x.1 < y.2) = false := decide_eq_false h3
              have Ho := Lib.hid (show okAt S (j + 1) = true by rw [hok2]; show (!false && !(decide (x.1 = y.1) || decide (x.1 < y.2))) = _; rw [b3, decide_eq_false (show ¬ x.1 = y.1 by simpa using h2)]; rfl)
              clear hok2 hjS Hok
              go_wp2_with fail
              go_quiet (fail)
              go_wp2_with fail
              go_roundw
              case rel =>
                refine ⟨j + 2, by have := Hk.out; omega, by go_num, Lib.hid ⟨HK.out.1.mod (((Mod.refl (fun _ => False) _).alloc _).drewN _) (fun f => f), fun i hi => ?_⟩, (hx.alloc _).drewN _⟩
                by_cases e : i = j + 1
                · rw [e]; exact Ho.out
                · exact HK.out.2 i (by omega)
              case measure => simp [intOf]; omega
    · have hlt' : ¬ (k : Int) < (N : Int) := by omega
      obtain rfl : k = N := by omega
      have Hb := Lib.hid (Hyes.out HK.out.2)
      go_wp2_with fail
      go_ret
      exact ⟨ret_bool Hb.out.symm, hx⟩
set_option maxHeartbeats 800000 in
set_option maxRecDepth 1000000 in
theorem apart_none (cap : Nat) (w : World) : Calls Try.prog 33 #[.slice none 0 cap] w fun e w' => e = .returned (.bool (apartB [])) ∧ Ext w w' := by
  go_enter Try.func33, Try.ntmps33
  go_wp2_with fail
  refine (cloneSp_nil cap w).mono ?_
  rintro e w1 ⟨rfl, rfl⟩
  go_wp2_with fail
  refine (sortSp_none none 0 w1).mono ?_
  rintro e w1 ⟨rfl, rfl⟩
  go_wp2_with fail
  refine wp_loop_rounds 1 ?_
  rw [rounds_succ]
  go_wp2_with fail
  go_ret
  exact ⟨rfl, Mod.refl _ _⟩
/-- A slice that has none is nil. -/
def NilOr (ao : Option Addr) (n : Nat) : Prop := n = 0 → ao = none
theorem apart_any (ao : Option Addr) (cap : Nat) (l : List (Int × Int)) (w : World) (hr : Reads w 2 ao l.length (prE.cells l)) (h0 : NilOr ao l.length) (hn : l.length ≤ 19) :
    Calls Try.prog 33 #[.slice ao l.length cap] w fun e w' => e = .returned (.bool (apartB l)) ∧ Ext w w' := by
  cases l with
  | nil => rw [h0 rfl]; exact apart_none cap w
  | cons x r =>
    obtain ⟨b, off, rfl⟩ := hr.some (by simp)
    exact apart_some b off cap (x :: r) w hr (by simp) hn
end Go.Proofs.Ytffplppglicibaa

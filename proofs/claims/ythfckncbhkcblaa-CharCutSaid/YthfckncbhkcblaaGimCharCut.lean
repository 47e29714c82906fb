/- A text cut at one of its places has the characters of both parts; cut elsewhere it hasn't: the walk. Conditions: none. -/
import Derived.Test.YthfckncbhkcblaaGimCharA
import Derived.Test.YthfckncbhkcblaaGimDice
import Derived.Deep.RegionLaw
import Derived.Deep.DeepCutAuto
namespace Go.Proofs.Ythfckncbhkcblaa
open Go.RowKit Go.Gim

/-- The places of the text: 0 and those behind it. -/
def placesL (l : List UInt8) : List Nat := 0 :: placesAt l 0

/-- A place that begins a character, or the end. -/
def Starts (l : List UInt8) (k : Nat) : Prop := k = 0 ∨ k = l.length ∨ ∃ h : k < l.length, inB l[k] = false

theorem mem_placesAt (l : List UInt8) : ∀ (f a k : Nat), l.length - a ≤ f → a ≤ l.length → (k ∈ placesAt l a ↔ a < k ∧ k ≤ l.length ∧ (k = l.length ∨ ∃ h : k < l.length, inB l[k] = false))
  | 0, a, k, hf, ha => by
    rw [placesAt_end l a (by omega)]
    exact ⟨(fun h => by cases h), fun ⟨h1, h2, _⟩ => absurd h1 (by omega)⟩
  | f + 1, a, k, hf, ha => by
    by_cases hlt : a < l.length
    · have h1 := endN_gt l a
      have h2 := endN_le l a hlt
      rw [placesAt_step l a hlt, List.mem_cons, mem_placesAt l f (endN l a) k (by omega) h2]
      constructor
      · rintro (rfl | ⟨g1, g2, g3⟩)
        · refine ⟨h1, h2, ?_⟩
          rcases Nat.lt_or_ge (endN l a) l.length with h | h
          · exact .inr ⟨h, endN_stop l a h⟩
          · exact .inl (by omega)
        · exact ⟨by omega, g2, g3⟩
      · rintro ⟨g1, g2, g3⟩
        rcases Nat.lt_trichotomy k (endN l a) with h | h | h
        · rcases g3 with g3 | ⟨g3, g4⟩
          · omega
          · rw [endN_in l a k g1 h g3] at g4; cases g4
        · exact .inl h
        · exact .inr ⟨h, g2, g3⟩
    · rw [placesAt_end l a (by omega)]
      exact ⟨(fun h => by cases h), fun ⟨h1, h2, _⟩ => absurd h1 (by omega)⟩

theorem mem_placesL (l : List UInt8) (k : Nat) (hk : k ≤ l.length) : k ∈ placesL l ↔ Starts l k := by
  rw [placesL, List.mem_cons, mem_placesAt l _ 0 k (Nat.le_refl _) (Nat.zero_le _)]
  unfold Starts
  constructor
  · rintro (h | ⟨h1, h2, h3⟩)
    · exact .inl h
    · exact .inr h3
  · intro h
    by_cases h0 : k = 0
    · exact .inl h0
    · rcases h with h | h
      · exact absurd h h0
      · exact .inr ⟨by omega, hk, h⟩

/-- What stands behind a place is told of that part alone. -/
theorem endN_drop (l : List UInt8) (k a : Nat) : endN l (k + a) = k + endN (l.drop k) a := by
  unfold endN; rw [List.drop_drop]
  have e : k + (a + 1) = k + a + 1 := by omega
  rw [e]; omega
theorem charsAt_drop (l : List UInt8) (k : Nat) : ∀ (f a : Nat), l.length - (k + a) ≤ f → charsAt (l.drop k) a = charsAt l (k + a)
  | 0, a, hf => by rw [charsAt_end _ a (by rw [List.length_drop]; omega), charsAt_end _ _ (by omega)]
  | f + 1, a, hf => by
    by_cases h : k + a < l.length
    · have h2 : a < (l.drop k).length := by rw [List.length_drop]; omega
      have h1 := endN_gt (l.drop k) a
      rw [charsAt_step _ a h2, charsAt_step _ _ h, charsAt_drop l k f (endN (l.drop k) a) (by omega), endN_drop, List.drop_drop]
      congr 2; omega
    · rw [charsAt_end _ a (by rw [List.length_drop]; omega), charsAt_end _ _ (by omega)]

/-- Cut at a place: both parts' characters. -/
theorem charsAt_take (l : List UInt8) (k : Nat) (hk : k ≤ l.length) (hs : Starts l k) : ∀ (f a : Nat), k - a ≤ f → a ≤ k → (a = 0 ∨ True) → charsAt (l.take k) a ++ charsAt l k = charsAt l a
  | 0, a, hf, ha, _ => by
    obtain rfl : a = k := by omega
    rw [charsAt_end (l.take a) a (by simp; omega)]; rfl
  | f + 1, a, hf, ha, _ => by
    by_cases h : a < k
    · have hlt : a < (l.take k).length := by simp; omega
      have e : endN (l.take k) a = endN l a := by
        have h1 := endN_gt l a
        have h2 := endN_le l a (by omega)
        have hle : endN l a ≤ k := by
          rcases Nat.lt_or_ge k (endN l a) with h3 | h3
          · rcases hs with hs | hs | ⟨hs, hb⟩
            · omega
            · omega
            · rw [endN_in l a k h h3 hs] at hb; cases hb
          · exact h3
        refine endN_eq (l.take k) a (endN l a) h1 (by simp; omega) ?_ ?_
        · intro j hj g1 g2
          rw [List.getElem_take]
          exact endN_in l a j g1 g2 (by simp at hj; omega)
        · intro hi
          rw [List.getElem_take]
          exact endN_stop l a (by simp at hi; omega)
      have h1 := endN_gt l a
      have hle : endN l a ≤ k := by
        rcases Nat.lt_or_ge k (endN l a) with h3 | h3
        · rcases hs with hs | hs | ⟨hs, hb⟩
          · omega
          · have := endN_le l a (by omega); omega
          · rw [endN_in l a k h h3 hs] at hb; cases hb
        · exact h3
      rw [charsAt_step _ a hlt, charsAt_step l a (by omega), List.cons_append, e, charsAt_take l k hk hs f (endN l a) (by omega) hle (.inr trivial)]
      congr 1
      rw [List.drop_take, List.take_take, Nat.min_eq_left (by omega)]
    · obtain rfl : a = k := by omega
      rw [charsAt_end (l.take a) a (by simp; omega)]; rfl

theorem chars_cut (l : List UInt8) (k : Nat) (hk : k ≤ l.length) (hs : Starts l k) : charsAt (l.take k) 0 ++ charsAt (l.drop k) 0 = charsAt l 0 := by
  rw [charsAt_drop l k _ 0 (Nat.le_refl _), Nat.add_zero]
  exact charsAt_take l k hk hs k 0 (by omega) (Nat.zero_le _) (.inl rfl)

def sumlen (cs : List (List UInt8)) : Nat := (cs.map List.length).sum
theorem sum_all (l : List UInt8) : ∀ (f a : Nat), l.length - a ≤ f → a ≤ l.length → a + sumlen (charsAt l a) = l.length
  | 0, a, hf, ha => by rw [charsAt_end l a (by omega)]; simp [sumlen]; omega
  | f + 1, a, hf, ha => by
    by_cases h : a < l.length
    · have h1 := endN_gt l a
      have h2 := endN_le l a h
      have ih := sum_all l f (endN l a) (by omega) h2
      rw [charsAt_step l a h]
      have e : ((l.drop a).take (endN l a - a)).length = endN l a - a := by simp; omega
      simp only [sumlen, List.map_cons, List.sum_cons, e] at ih ⊢
      omega
    · rw [charsAt_end l a (by omega)]; simp [sumlen]; omega
theorem sum_take (l : List UInt8) : ∀ (f a n : Nat), l.length - a ≤ f → a ≤ l.length → a + sumlen ((charsAt l a).take n) = a ∨ a + sumlen ((charsAt l a).take n) ∈ placesAt l a
  | 0, a, n, hf, ha => by rw [charsAt_end l a (by omega)]; simp [sumlen]
  | f + 1, a, n, hf, ha => by
    by_cases h : a < l.length
    · cases n with
      | zero => left; simp [sumlen]
      | succ n =>
        have h1 := endN_gt l a
        have h2 := endN_le l a h
        have ih := sum_take l f (endN l a) n (by omega) h2
        right
        rw [charsAt_step l a h, placesAt_step l a h]
        have e : ((l.drop a).take (endN l a - a)).length = endN l a - a := by simp; omega
        simp only [sumlen, List.take_succ_cons, List.map_cons, List.sum_cons, e] at ih ⊢
        have e2 : a + (endN l a - a + (List.map List.length ((charsAt l (endN l a)).take n)).sum) = endN l a + (List.map List.length ((charsAt l (endN l a)).take n)).sum := by omega
        rw [e2]
        rcases ih with ih | ih
        · rw [ih]; simp
        · exact List.mem_cons_of_mem _ ih
    · rw [charsAt_end l a (by omega)]; simp [sumlen]

theorem chars_cut_iff (l : List UInt8) (k : Nat) (hk : k ≤ l.length) : charsAt (l.take k) 0 ++ charsAt (l.drop k) 0 = charsAt l 0 ↔ k ∈ placesL l := by
  constructor
  · intro h
    have h1 := sum_all (l.take k) _ 0 (Nat.le_refl _) (Nat.zero_le _)
    have h2 := sum_take l _ 0 (charsAt (l.take k) 0).length (Nat.le_refl _) (Nat.zero_le _)
    rw [← h, List.take_left, h1] at h2
    have e : (l.take k).length = k := by simp; omega
    rw [e] at h2
    rw [placesL, List.mem_cons]; exact h2
  · intro h
    exact chars_cut l k hk ((mem_placesL l k hk).1 h)

set_option maxHeartbeats 1600000 in
set_option maxRecDepth 1000000 in
theorem charCut_long (w : World) (s : ByteArray) (at_ : Int) (h : 150 < s.size) (h1 : s.size ≤ 9223372036854775807) :
    Calls Try.prog 8 #[.string s, .int .i64 at_] w fun e w' => e = .returned (.bool true) ∧ Ext w w' := by
  have i1 : (150 : Int) < (s.size : Int) := by omega
  go_enter Try.func8, Try.ntmps8
  go_wp2_with fail
  refine (awake11_any _).mono ?_
  rintro e w' ⟨rfl, hx⟩
  go_wp2_with fail
  go_ret
  exact ⟨rfl, hx⟩

set_option maxHeartbeats 3200000 in
set_option maxRecDepth 1000000 in
theorem charCut_any (w : World) (s : ByteArray) (at_ : Int) (h : s.size ≤ 150) :
    Calls Try.prog 8 #[.string s, .int .i64 at_] w fun e w' => e = .returned (.bool true) ∧ Ext w w' := by
  have i1 : ¬ ((150 : Int) < (s.size : Int)) := by omega
  have hkn := lowN_lt at_ (s.size + 1) (by omega)
  have hpl := placesAt_len s.data.toList 0
  rw [toList_length] at hpl
  go_enter Try.func8, Try.ntmps8
  go_wp2_with fail
  refine (low_any at_ ((s.size : Int) + 1) _ (by omega) (by omega)).mono ?_
  rintro e w' ⟨rfl, rfl⟩
  rw [show ((s.size : Int) + 1).toNat = s.size + 1 from by omega]
  generalize lowN at_ (s.size + 1) = k at *
  go_wp2_with fail
  refine (places_any s _ (by omega)).mono ?_
  rintro e w1 ⟨ap, cp, rfl, hp, hx1⟩
  have hpr := Reads.own hp
  have hpl2 : (0 :: placesAt s.data.toList 0).length ≤ 200 := by simp only [List.length_cons]; omega
  have hcut := chars_cut_iff s.data.toList k (by rw [toList_length]; omega)
  unfold placesL at hcut
  generalize 0 :: placesAt s.data.toList 0 = ps at *
  have Hcut := Lib.hid hcut
  clear hcut hp
  go_wp2_with fail
  go_loopw [6, 8] (fun pl i wr => ∃ (j : Nat), j ≤ ps.length ∧ i = .int .i64 j ∧ pl = .bool (decide (k ∈ ps.take j)) ∧ wr = w1) (fun _ i _ => ps.length - (intOf i).toNat)
  case atStart => exact ⟨0, Nat.zero_le _, rfl, by simp, rfl⟩
  case round =>
    obtain ⟨j, hj, rfl, rfl, rfl⟩ := hrel
    by_cases hlt : j < ps.length
    · have i2 : (j : Int) < (ps.length : Int) := by omega
      obtain ⟨b, off, rfl⟩ := hpr.some (by omega)
      have hv : (ints ps)[j]? = some (.int .i64 (ps.getD j 0 : Nat)) := by simp [ints, List.getD, hlt]
      have c0 := hpr.at hv
      have htk : ps.take (j + 1) = ps.take j ++ [ps.getD j 0] := by
        rw [List.take_succ_eq_append_getElem hlt]; simp [List.getD, hlt]
      have Htk := Lib.hid htk
      clear htk hv
      generalize hq : ps.getD j 0 = q at *
      clear hq
      cases hm : decide (k ∈ ps.take j)
      · have hq2 : decide (k ∈ ps.take (j + 1)) = ((q : Int) == (k : Int)) := by
          rw [Htk.out, Bool.eq_iff_iff]
          simp only [decide_eq_false_iff_not] at hm
          simp [hm]; omega
        have Hq2 := Lib.hid hq2
        clear hm hq2
        go_wp2_with fail
        go_roundw
        case rel => exact ⟨j + 1, by omega, by go_num, by rw [Hq2.out], trivial⟩
        case measure => simp [intOf]; omega
      · have hq2 : decide (k ∈ ps.take (j + 1)) = true := by
          rw [Htk.out]
          simp only [decide_eq_true_eq] at hm
          simp [hm]
        have Hq2 := Lib.hid hq2
        clear hm hq2
        go_wp2_with fail
        go_roundw
        case rel => exact ⟨j + 1, by omega, by go_num, by rw [Hq2.out], trivial⟩
        case measure => simp [intOf]; omega
    · have i2 : ¬ ((j : Int) < (ps.length : Int)) := by omega
      have hj' : j = ps.length := by omega
      have i3 : (k : Int) ≤ (s.size : Int) := by omega
      rw [List.take_of_length_le (by omega)]
      have hpl3 : decide (charsAt (s.extract 0 k).data.toList 0 ++ charsAt (s.extract k s.size).data.toList 0 = charsAt s.data.toList 0) = decide (k ∈ ps) := by
        refine decide_eq_decide.2 ?_
        rw [extract_bs, extract_bs, bs_toList, bs_toList, List.drop_zero, Nat.sub_zero]
        have e : (s.data.toList.drop k).take (s.size - k) = s.data.toList.drop k := List.take_of_length_le (by simp)
        rw [e]; exact Hcut.out
      generalize decide (k ∈ ps) = pl at *
      clear hpr hpl hpl2 hj
      go_wp2_with fail
      have l1 := charsAt_len (s.extract 0 k).data.toList 0
      have l2 := charsAt_len (s.extract k s.size).data.toList 0
      have l3 := charsAt_len s.data.toList 0
      have z1 : (s.extract 0 k).size ≤ 150 := by rw [ByteArray.size_extract]; omega
      have z2 : (s.extract k s.size).size ≤ 150 := by rw [ByteArray.size_extract]; omega
      rw [toList_length] at l1 l2 l3
      generalize hC1 : charsAt (s.extract 0 k).data.toList 0 = c1 at *
      generalize hC2 : charsAt (s.extract k s.size).data.toList 0 = c2 at *
      have HC1 := Lib.hid hC1
      have HC2 := Lib.hid hC2
      clear hC1 hC2
      obtain ⟨cb, hcb⟩ : ∃ cb, cb = c1 ++ c2 := ⟨_, rfl⟩
      have hcl : cb.length ≤ 400 := by rw [hcb, List.length_append]; omega
      rw [← hcb] at hpl3
      have Hpl := Lib.hid hpl3
      have Hcb := Lib.hid hcb
      clear hpl3 hcb
      go_cut [9] (fun v wc => ∃ ao cap, v = .slice ao cb.length cap ∧ wc.ownsRow w'.heap.size 9 1 (.slice ao cb.length cap) cb.length (strs cb) ∧ Ext w' wc)
      case rest =>
        obtain ⟨ao, cap, rfl, hob, hxc⟩ := hcut
        go_wp2_with fail
        refine (split_any s _ (by omega)).mono ?_
        rintro e w5 ⟨a5, c5, rfl, h5, hx5⟩
        go_wp2_with fail
        refine (texts_strs w5 ao a5 cap c5 cb _ ((Reads.own hob).mod hx5 (fun _ _ f => f)) (Reads.own h5) (by omega) (by omega)).mono ?_
        rintro e w6 ⟨rfl, m6, rfl⟩
        rw [Hpl.out]
        go_wp2_with fail
        refine (awake11_any _).mono ?_
        rintro e w7 ⟨rfl, hx7⟩
        go_wp2_with fail
        go_ret
        exact ⟨rfl, ((hxc.ext_trans hx5).drewN m6).ext_trans hx7⟩
      case first =>
        have hm0 : maxLen = 9223372036854775807 := rfl
        have e1 := hx1.size
        go_region_law (first
          | (go_simp; go_at_call_of 19 (Value.string (s.extract 0 k)); refine (split_any _ _ (by omega)).mono ?_; rintro e wS1 ⟨aS1, cS1, rfl, hS1, hxS1⟩; rw [HC1.out] at hS1 ⊢)
          | (go_simp; go_at_call_of 19 (Value.string (s.extract k s.size)); refine (split_any _ _ (by omega)).mono ?_; rintro e wS2 ⟨aS2, cS2, rfl, hS2, hxS2⟩; rw [HC2.out] at hS2 ⊢)
          | (refine step_append_reads rfl _ _ 34 rfl w'.heap.size 9 (.string ByteArray.empty) 1 16 Try.info9 Try.underlying34 rfl (by decide) _ 0 [] rfl ?hown _ c1.length _ (strs c1) rfl ?hr (map_oneCell _ (fun _ => rfl) _) (by omega) (by omega) ?b3 ?_
             case hown => first | exact World.ownsRow_lit wS1 #[] 0 (Nat.le_trans e1 (by have := hxS1.size; simpa using this)) (by omega) rfl | exact ownsRow_mod (World.ownsRow.drew (World.ownsRow_lit wr #[] 0 e1 (by omega) rfl)) hxS1 (fun _ _ f => f)
             case hr => first | exact Reads.own hS1 | exact (Reads.own hS1).alloc _
             case b3 => have e2 := hxS1.size; simp at e2 ⊢; omega
             intro vA wA hownA hmA hbA
             have hsz := hxS1.size
             have hEA : Ext w' wA := by
               first
                 | exact Mod.over ((hx1.alloc _).drew.ext_trans hxS1) hmA (fun k hk => by cases hk; exact e1)
                 | exact Mod.over ((hx1.drew.ext_trans hxS1).alloc _) hmA (fun k hk => by cases hk; exact Nat.le_trans e1 hsz)
             simp only [Nat.zero_add, List.nil_append] at hownA
             clear hmA hbA hS1 hxS1 hsz
             obtain ⟨aA, cA, rfl, _, _⟩ := ownsRow_shape hownA)
          | (refine step_append_reads rfl _ _ 34 rfl w'.heap.size 9 (.string ByteArray.empty) 1 16 Try.info9 Try.underlying34 rfl (by decide) _ c1.length (strs c1) rfl (ownsRow_mod hownA hxS2 (fun _ _ f => f)) _ c2.length _ (strs c2) rfl (Reads.own hS2) (map_oneCell _ (fun _ => rfl) _) (by omega) (by omega) ?b3 ?_
             case b3 => have e2 := hxS2.size; have e3 := hEA.size; omega
             intro vB wB hownB hmB hbB
             have hEB : Ext w' wB := (hEA.ext_trans hxS2).trans hmB (fun i hi e => by have := (hownA.lt i e).1; omega)
             clear hmB hbB hS2 hxS2 hownA hEA
             obtain ⟨aB, cB, rfl, _, _⟩ := ownsRow_shape hownB))
        all_goals
          go_wp2_with fail
          go_meet
          case rel =>
            rw [Hcb.out]
            exact ⟨aB, cB, by simp, by simpa [strs] using hownB, hEB⟩

theorem charCut_calls (w : World) (s : ByteArray) (h1 : s.size ≤ maxLen) (at_ : Int) (_ : (Lit.int .i64 at_).wf = true) :
    Calls Try.prog 8 #[.string s, .int .i64 at_] w fun e w' => e = .returned (.bool true) ∧ Ext w w' := by
  unfold maxLen at h1
  by_cases a : s.size ≤ 150
  · exact charCut_any w s at_ a
  · exact charCut_long w s at_ (by omega) (by omega)

end Go.Proofs.Ythfckncbhkcblaa

/- Characters, joined, are the text; all but the first are proper, and each is its own first one: the walk. Conditions: none. -/
import Derived.Test.YthfckncbhkcblaaGimCharA
import Derived.Test.YthfckncbhkcblaaGimShelf
import Derived.Test.YthfckncbhkcblaaGimTail
namespace Go.Proofs.Ythfckncbhkcblaa
open Go.RowKit Go.Gim

theorem join_flat (xs : List (List UInt8)) : Lib.join xs [] = xs.flatten := by
  unfold Lib.join
  induction xs with
  | nil => rfl
  | cons x r ih =>
    cases r with
    | nil => simp [List.intercalate]
    | cons y r => simpa [List.intercalate, List.intersperse] using ih

theorem chars_flat (l : List UInt8) : ∀ (f a : Nat), l.length - a ≤ f → (charsAt l a).flatten = l.drop a
  | 0, a, hf => by rw [charsAt_end l a (by omega), List.drop_of_length_le (by omega)]; rfl
  | f + 1, a, hf => by
    by_cases h : a < l.length
    · have h1 := endN_gt l a
      rw [charsAt_step l a h, List.flatten_cons, chars_flat l f (endN l a) (by omega)]
      have e : l.drop (endN l a) = (l.drop a).drop (endN l a - a) := by rw [List.drop_drop]; congr 1; omega
      rw [e, List.take_append_drop]
    · rw [charsAt_end l a (by omega), List.drop_of_length_le (by omega)]; rfl

/-- A character is its own first one. -/
theorem char_own (l : List UInt8) (a : Nat) (h : a < l.length) : endN ((l.drop a).take (endN l a - a)) 0 = endN l a - a ∧ ((l.drop a).take (endN l a - a)).length = endN l a - a := by
  have h1 := endN_gt l a
  have h2 := endN_le l a h
  have hlen : ((l.drop a).take (endN l a - a)).length = endN l a - a := by simp; omega
  refine ⟨endN_eq _ 0 _ (by omega) (by omega) ?_ (fun hi => by omega), hlen⟩
  intro j hj g1 g2
  rw [List.getElem_take, List.getElem_drop]
  exact endN_in l a (a + j) (by omega) (by omega) (by omega)

theorem chars_size (l : List UInt8) : ∀ (f a : Nat), l.length - a ≤ f → ∀ c ∈ charsAt l a, c.length ≤ l.length
  | 0, a, hf, c, hc => by rw [charsAt_end l a (by omega)] at hc; cases hc
  | f + 1, a, hf, c, hc => by
    by_cases h : a < l.length
    · have h1 := endN_gt l a
      rw [charsAt_step l a h] at hc
      rcases List.mem_cons.1 hc with rfl | hc
      · have := endN_le l a h
        have h2 := (char_own l a h).2
        omega
      · exact chars_size l f (endN l a) (by omega) c hc
    · rw [charsAt_end l a (by omega)] at hc; cases hc

def OwnChar (c : List UInt8) : Prop := 0 < c.length ∧ endN c 0 = c.length
theorem chars_own (l : List UInt8) : ∀ (f a : Nat), l.length - a ≤ f → ∀ c ∈ charsAt l a, OwnChar c
  | 0, a, hf, c, hc => by rw [charsAt_end l a (by omega)] at hc; cases hc
  | f + 1, a, hf, c, hc => by
    by_cases h : a < l.length
    · have h1 := endN_gt l a
      rw [charsAt_step l a h] at hc
      rcases List.mem_cons.1 hc with rfl | hc
      · obtain ⟨g1, g2⟩ := char_own l a h
        exact ⟨by omega, by omega⟩
      · exact chars_own l f (endN l a) (by omega) c hc
    · rw [charsAt_end l a (by omega)] at hc; cases hc
theorem chars_proper (l : List UInt8) : ∀ (f a : Nat), l.length - a ≤ f → (∀ h : a < l.length, inB l[a] = false) → ∀ c ∈ charsAt l a, properL c = true
  | 0, a, hf, _, c, hc => by rw [charsAt_end l a (by omega)] at hc; cases hc
  | f + 1, a, hf, ha, c, hc => by
    by_cases h : a < l.length
    · have h1 := endN_gt l a
      rw [charsAt_step l a h] at hc
      rcases List.mem_cons.1 hc with rfl | hc
      · obtain ⟨g1, g2⟩ := char_own l a h
        have hb := ha h
        generalize hcc : (l.drop a).take (endN l a - a) = c at *
        match c, g1, g2, hcc with
        | [], _, g2, _ => simp at g2; omega
        | x :: r, g1, g2, hcc =>
          have hx : x = l[a] := by
            have h3 : (x :: r)[0]? = some x := rfl
            rw [← hcc, List.getElem?_take, if_pos (by omega), List.getElem?_drop, Nat.add_zero, List.getElem?_eq_getElem h] at h3
            exact (Option.some.inj h3).symm
          have hbx : inB x = false := by rw [hx]; exact hb
          simp only [properL, hbx, Bool.not_false, Bool.true_and, decide_eq_true_eq]
          rw [g1, g2]
      · exact chars_proper l f (endN l a) (by omega) (fun h2 => endN_stop l a h2) c hc
    · rw [charsAt_end l a (by omega)] at hc; cases hc
theorem firstL_own (c : List UInt8) (h : OwnChar c) : firstL c = c := by
  unfold firstL
  split
  · rename_i e; exact e.symm
  · rw [h.2, List.take_length]
theorem chars_tail (l : List UInt8) (k : Nat) (h0 : 0 < k) (hk : k < (charsAt l 0).length) : properL ((charsAt l 0).getD k []) = true := by
  by_cases hl : 0 < l.length
  · rw [charsAt_step l 0 hl] at hk ⊢
    obtain ⟨j, rfl⟩ : ∃ j, k = j + 1 := ⟨k - 1, by omega⟩
    have hj : j < (charsAt l (endN l 0)).length := by simpa using hk
    have : (charsAt l (endN l 0)).getD j [] ∈ charsAt l (endN l 0) := by simp [List.getD, hj]
    simpa [List.getD] using chars_proper l _ (endN l 0) (Nat.le_refl _) (fun h2 => endN_stop l 0 h2) _ this
  · rw [charsAt_end l 0 (by omega)] at hk; simp at hk

set_option maxHeartbeats 1600000 in
set_option maxRecDepth 1000000 in
theorem join_any (w : World) (ao : Option Addr) (cap : Nat) (cs : List (List UInt8)) (hr : Reads w 1 ao cs.length (strs cs)) (hc : cs.length ≤ cap) (hl : cs.length ≤ 100000) (hf : cs.flatten.length ≤ 1000000) :
    Calls Try.prog 30 #[.slice ao cs.length cap] w fun e w' => e = .returned (.string (bs cs.flatten)) ∧ Ext w w' := by
  by_cases h0 : cs.length = 0
  · have hcs : cs = [] := List.length_eq_zero_iff.1 h0
    subst hcs
    show Calls _ _ #[.slice ao 0 cap] _ _
    go_enter Try.func30, Try.ntmps30
    go_wp2_with fail
    refine (Try.strings_Join_none ao cap _ _).mono ?_
    rintro e w' ⟨rfl, rfl⟩
    go_wp2_with fail
    go_ret
    exact ⟨rfl, Mod.refl _ _⟩
  · obtain ⟨b, off, rfl, hcell⟩ := hr.2 (by omega)
    have hcells : ∀ (j : Nat) x, (cs.map bs)[j]? = some x → w.cell? ⟨b, off + j, none⟩ = some (.string x) := by
      intro j x hx
      have hj : j < cs.length := by have := (List.getElem?_eq_some_iff.1 hx).1; simpa using this
      rw [hcell j (by rw [strs_length]; exact hj), strs_map, List.getElem?_map, hx]; rfl
    have hbk : b < w.heap.size := by
      have hx : (cs.map bs)[0]? = some ((cs.map bs).getD 0 ByteArray.empty) := getD_of (by simp; omega)
      exact World.block_lt_of_cell? w _ (hcells 0 _ hx)
    have hj : Lib.join ((cs.map bs).map (·.data.toList)) (⟨#[]⟩ : ByteArray).data.toList = cs.flatten := by
      show Lib.join ((cs.map bs).map (·.data.toList)) [] = cs.flatten
      rw [join_flat, List.map_map]
      have : (fun x : ByteArray => x.data.toList) ∘ bs = id := by funext x; rfl
      rw [this, List.map_id]
    have hjoin := Try.strings_Join b off cap (cs.map bs) ⟨#[]⟩
    rw [hj, List.length_map] at hjoin
    have Hjoin := Lib.hid hjoin
    have Hcells := Lib.hid hcells
    clear hjoin hcells hj hcell hr
    go_enter Try.func30, Try.ntmps30
    go_wp2_with fail
    refine (Hjoin.out _ Hcells.out hbk (by omega) hc (by omega)).mono ?_
    rintro e w' ⟨rfl, hx⟩
    go_wp2_with fail
    go_ret
    exact ⟨rfl, Mod.of_below hx⟩

set_option maxHeartbeats 1600000 in
set_option maxRecDepth 1000000 in
theorem charJoins_long (w : World) (s : ByteArray) (h : 200 < s.size) (h1 : s.size ≤ 9223372036854775807) :
    Calls Try.prog 10 #[.string s] w fun e w' => e = .returned (.bool true) ∧ Ext w w' := by
  have i1 : (200 : Int) < (s.size : Int) := by omega
  go_enter Try.func10, Try.ntmps10
  go_wp2_with fail
  refine (awake11_any _).mono ?_
  rintro e w' ⟨rfl, hx⟩
  go_wp2_with fail
  go_ret
  exact ⟨rfl, hx⟩

set_option maxHeartbeats 3200000 in
set_option maxRecDepth 1000000 in
theorem charJoins_any (w : World) (s : ByteArray) (h : s.size ≤ 200) :
    Calls Try.prog 10 #[.string s] w fun e w' => e = .returned (.bool true) ∧ Ext w w' := by
  have i1 : ¬ ((200 : Int) < (s.size : Int)) := by omega
  have hl := charsAt_len s.data.toList 0
  rw [toList_length] at hl
  have hown := chars_own s.data.toList _ 0 (Nat.le_refl _)
  have htail := chars_tail s.data.toList
  have hsz := chars_size s.data.toList _ 0 (Nat.le_refl _)
  rw [toList_length] at hsz
  have hflat : (charsAt s.data.toList 0).flatten = s.data.toList := by rw [chars_flat _ _ 0 (Nat.le_refl _)]; rfl
  go_enter Try.func10, Try.ntmps10
  go_wp2_with fail
  refine (split_any s _ (by omega)).mono ?_
  rintro e w1 ⟨ao, cap, rfl, hrow, hx1⟩
  have hcap : (charsAt s.data.toList 0).length ≤ cap := by
    obtain ⟨ao', cap', he, hn, _⟩ := ownsRow_shape hrow
    cases he; exact hn
  have hr := Reads.own hrow
  have hfl : (charsAt s.data.toList 0).flatten.length ≤ 1000000 := by rw [hflat, toList_length]; omega
  have hbf : bs (charsAt s.data.toList 0).flatten = s := by rw [hflat, bs_of]
  have Hbf := Lib.hid hbf
  have Hown := Lib.hid hown
  have Hsz := Lib.hid hsz
  have Htail := Lib.hid htail
  generalize charsAt s.data.toList 0 = cs at *
  clear hown htail hflat hbf hrow hsz
  go_wp2_with fail
  refine (join_any w1 ao cap cs hr hcap (by omega) hfl).mono ?_
  rintro e w2 ⟨rfl, hx2⟩
  rw [Hbf.out]
  have hE2 := hx1.ext_trans hx2
  have hr2 := hr.mod hx2 (fun _ _ f => f)
  clear hr hfl hcap hx1 hx2
  go_wp2_with fail
  go_loopw [4] (fun i wr => ∃ (k : Nat), k ≤ cs.length ∧ i = .int .i64 k ∧ Ext w2 wr) (fun i _ => cs.length - (intOf i).toNat)
  case atStart => exact ⟨0, Nat.zero_le _, rfl, Mod.refl _ _⟩
  case round =>
    obtain ⟨k, hk, rfl, hx⟩ := hrel
    by_cases hlt : k < cs.length
    · have i2 : (k : Int) < (cs.length : Int) := by omega
      have hrr := hr2.mod hx (fun _ _ f => f)
      obtain ⟨b, off, rfl⟩ := hr2.some (by omega)
      have hmem : cs.getD k [] ∈ cs := by simp [List.getD, hlt]
      have ho := Hown.out _ hmem
      have hz := Hsz.out _ hmem
      have hp : 0 < k → properL (cs.getD k []) = true := fun h0 => Htail.out k h0 hlt
      have hc := hrr.at (j := k) (v := .string (bs (cs.getD k []))) (by simp [strs, List.getD, hlt])
      have hlb : b < wr.heap.size := World.block_lt_of_cell? _ _ hc
      generalize cs.getD k [] = c at *
      obtain ⟨q, hq⟩ : ∃ q, q = bs c := ⟨_, rfl⟩
      rw [← hq] at hc
      have hqs : q.size = c.length := by rw [hq, bs_size]
      have hql : q.data.toList = c := by rw [hq, bs_toList]
      have hf1 : bs (firstL q.data.toList) = q := by rw [hql, firstL_own c ho, ← hq]
      have hlen1 : (charsAt q.data.toList 0).length = 1 := by rw [hql]; exact (chars_one c ho.1).2 ho.2
      have hpr : 0 < k → properL q.data.toList = true := by rw [hql]; exact hp
      have hne : (((q.size : Nat) : Int) == 0) = false := beq_eq_false_iff_ne.2 (by have := ho.1; omega)
      have hle : q.size ≤ 100000 := by omega
      have Hf1 := Lib.hid hf1
      have Hlen1 := Lib.hid hlen1
      have Hpr := Lib.hid hpr
      clear hf1 hlen1 hpr hp ho hql hqs hq hmem hz
      have hkeep : ∀ w3, Ext wr w3 → w3.cell? ⟨b, off + k, none⟩ = some (.string q) := fun w3 h3 => (h3.cell (p := ⟨b, off + k, none⟩) hlb (fun f => f)).trans hc
      by_cases h0 : k = 0
      · obtain rfl : k = 0 := by omega
        have hc0 : wr.cell? ⟨b, off, none⟩ = some (.string q) := by simpa using hc
        have hfst := first_any q wr.drew hle
        rw [Hf1.out] at hfst
        have Hfst := Lib.hid hfst
        clear hfst hc hkeep
        go_wp2_with fail
        refine wp_region_quiet_tail 35 (by kernel_rfl) (by kernel_rfl) ?_
        simp only [List.take_succ_cons, List.take_zero, List.drop_succ_cons, List.drop_zero]
        repeat (first | go_big_quiet_skip | (go_big_quiet_want; go_big_quiet_op; (first | go_big_quiet_on | ((with_reducible refine ⟨_, Hfst.out, ?_⟩); go_big_quiet_on))))
        refine wpQuiet_nil ?_
        go_wp2_with fail
        refine (split_any q _ hle).mono ?_
        rintro e w6 ⟨a6, c6, rfl, _, hx6⟩
        rw [Hlen1.out]
        go_wp2_with fail
        go_roundw
        case rel => exact ⟨1, by omega, by go_num, (hx.drew).ext_trans hx6⟩
        case measure => simp [intOf]; omega
      · have i3 : 0 < k := by omega
        have hfst := first_any q wr.drew hle
        rw [Hf1.out] at hfst
        have Hfst := Lib.hid hfst
        have hprp := proper_any q wr.drew hle
        rw [Hpr.out (by omega)] at hprp
        have Hprp := Lib.hid hprp
        clear hfst hprp hkeep
        go_wp2_with fail
        refine wp_region_quiet_tail 35 (by kernel_rfl) (by kernel_rfl) ?_
        simp only [List.take_succ_cons, List.take_zero, List.drop_succ_cons, List.drop_zero]
        repeat (first | go_big_quiet_skip | (go_big_quiet_want; go_big_quiet_op; (first | go_big_quiet_on | ((with_reducible refine ⟨_, Hprp.out, ?_⟩); go_big_quiet_on) | ((with_reducible refine ⟨_, Hfst.out, ?_⟩); go_big_quiet_on))))
        refine wpQuiet_nil ?_
        go_wp2_with fail
        refine (split_any q _ hle).mono ?_
        rintro e w6 ⟨a6, c6, rfl, _, hx6⟩
        rw [Hlen1.out]
        go_wp2_with fail
        go_roundw
        case rel => exact ⟨k + 1, by omega, by go_num, (hx.drew).ext_trans hx6⟩
        case measure => simp [intOf]; omega
    · have i2 : ¬ ((k : Int) < (cs.length : Int)) := by omega
      go_wp2_with fail
      refine (awake11_any _).mono ?_
      rintro e w' ⟨rfl, hx3⟩
      go_wp2_with fail
      go_ret
      exact ⟨rfl, (hE2.ext_trans hx).ext_trans hx3⟩

theorem charJoins_calls (w : World) (s : ByteArray) (h1 : s.size ≤ maxLen) :
    Calls Try.prog 10 #[.string s] w fun e w' => e = .returned (.bool true) ∧ Ext w w' := by
  unfold maxLen at h1
  by_cases a : s.size ≤ 200
  · exact charJoins_any w s a
  · exact charJoins_long w s (by omega) (by omega)

end Go.Proofs.Ythfckncbhkcblaa

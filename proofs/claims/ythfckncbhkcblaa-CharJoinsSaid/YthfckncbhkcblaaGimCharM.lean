/- What First, Proper and Word of package char and of the document answer; lists of texts and of numbers held against each other. Conditions: texts of at most 100000 bytes. -/
import Derived.Test.YthfckncbhkcblaaGimCharS
import Derived.Test.YthfckncbhkcblaaGimCharF
namespace Go.Proofs.Ythfckncbhkcblaa
open Go.RowKit Go.Gim

/-- A text's first character. -/
def firstL (l : List UInt8) : List UInt8 := if l = [] then [] else l.take (endN l 0)

set_option maxHeartbeats 1600000 in
set_option maxRecDepth 1000000 in
theorem first_any (s : ByteArray) (w : World) (hs : s.size ≤ 100000) :
    Calls Try.prog 23 #[.string s] w fun e w' => e = .returned (.string (bs (firstL s.data.toList))) ∧ w' = w := by
  by_cases h0 : s.data.toList = []
  · have hs0 : s = ⟨#[]⟩ := by rw [← bs_of s, h0]; rfl
    subst hs0
    have hf : firstL (⟨#[]⟩ : ByteArray).data.toList = [] := rfl
    rw [hf]
    go_enter Try.func23, Try.ntmps23
    go_wp2_with fail
    go_ret
    exact ⟨rfl, rfl⟩
  · have hb : s.toList.isEmpty = false := by rw [ByteArray.toList_eq]; simpa using h0
    have hlen : 0 < s.size := by
      rw [← toList_length]; exact List.length_pos_iff.2 h0
    have he := endN_le s.data.toList 0 (by rw [toList_length]; exact hlen)
    rw [toList_length] at he
    have hf : .string (bs (firstL s.data.toList)) = Value.string (s.extract 0 (endN s.data.toList 0)) := by
      rw [extract_bs]; simp [firstL, h0]
    rw [hf]
    clear hf h0
    go_enter Try.func23, Try.ntmps23
    go_wp2_with fail
    refine (end_any s 0 _ (by decide) (by omega) (by omega)).mono ?_
    rintro e w' ⟨rfl, rfl⟩
    rw [show (0 : Int).toNat = 0 from rfl]
    generalize hB : endN s.data.toList 0 = b at *
    have HB := Lib.hid hB
    clear hB
    have i2 : (b : Int) ≤ (s.size : Int) := by omega
    go_wp2_with fail
    go_ret
    exact ⟨ret_string (by rw [HB.out]), rfl⟩

def wordB (c : UInt8) : Bool := decide (97 ≤ c.toNat ∧ c.toNat ≤ 122) || decide (65 ≤ c.toNat ∧ c.toNat ≤ 90) || decide (48 ≤ c.toNat ∧ c.toNat ≤ 57) || decide (c.toNat = 95)

set_option maxHeartbeats 1600000 in
set_option maxRecDepth 1000000 in
theorem word_one (c : UInt8) (w : World) :
    Calls Try.prog 28 #[.string ⟨#[c]⟩] w fun e w' => e = .returned (.bool (wordB c)) ∧ w' = w := by
  have hc : (⟨#[c]⟩ : ByteArray)[0]'(Nat.zero_lt_one) = c := rfl
  go_enter Try.func28, Try.ntmps28
  go_wp2_with fail
  all_goals go_ret
  all_goals refine ⟨ret_bool ?_, rfl⟩
  all_goals
    rw [Bool.eq_iff_iff]
    simp only [hc] at *
    simp [wordB]
    omega

set_option maxHeartbeats 1600000 in
set_option maxRecDepth 1000000 in
theorem word_none (s : ByteArray) (w : World) (h : s.size ≠ 1) :
    Calls Try.prog 28 #[.string s] w fun e w' => e = .returned (.bool false) ∧ w' = w := by
  have hne : (((s.size : Nat) : Int) != 1) = true := by simp; omega
  clear h
  go_enter Try.func28, Try.ntmps28
  go_wp2_with fail
  go_ret
  exact ⟨rfl, rfl⟩

def wordL (l : List UInt8) : Bool := match l with
  | [c] => wordB c
  | _ => false
theorem size_one (s : ByteArray) (h : s.size = 1) : ∃ c, s = ⟨#[c]⟩ := by
  rcases s with ⟨⟨l⟩⟩
  match l, h with
  | [c], _ => exact ⟨c, rfl⟩
theorem wordL_ne (s : ByteArray) (h : s.size ≠ 1) : wordL s.data.toList = false := by
  rcases s with ⟨⟨l⟩⟩
  match l, h with
  | [], _ => rfl
  | [c], h => exact absurd rfl h
  | _ :: _ :: _, _ => rfl

theorem word_any (s : ByteArray) (w : World) :
    Calls Try.prog 28 #[.string s] w fun e w' => e = .returned (.bool (wordL s.data.toList)) ∧ w' = w := by
  by_cases h : s.size = 1
  · obtain ⟨c, rfl⟩ := size_one s h
    exact word_one c w
  · rw [wordL_ne s h]; exact word_none s w h

set_option maxHeartbeats 1600000 in
set_option maxRecDepth 1000000 in
theorem letter_any (c : UInt8) (w : World) :
    Calls Try.prog 34 #[.int .u8 c.toNat] w fun e w' => e = .returned (.bool (decide (65 ≤ c.toNat ∧ c.toNat ≤ 90) || decide (97 ≤ c.toNat ∧ c.toNat ≤ 122))) ∧ w' = w := by
  go_enter Try.func34, Try.ntmps34
  go_wp2_with fail
  all_goals go_ret
  all_goals refine ⟨ret_bool ?_, rfl⟩
  all_goals
    rw [Bool.eq_iff_iff]
    simp
    omega

set_option maxHeartbeats 1600000 in
set_option maxRecDepth 1000000 in
theorem digit_any (c : UInt8) (w : World) :
    Calls Try.prog 35 #[.int .u8 c.toNat] w fun e w' => e = .returned (.bool (decide (48 ≤ c.toNat ∧ c.toNat ≤ 57))) ∧ w' = w := by
  go_enter Try.func35, Try.ntmps35
  go_wp2_with fail
  all_goals go_ret
  all_goals refine ⟨ret_bool ?_, rfl⟩
  all_goals
    rw [Bool.eq_iff_iff]
    simp
    omega

set_option maxHeartbeats 1600000 in
set_option maxRecDepth 1000000 in
theorem refWord_one (c : UInt8) (w : World) :
    Calls Try.prog 29 #[.string ⟨#[c]⟩] w fun e w' => e = .returned (.bool (wordB c)) ∧ w' = w := by
  have hc : (⟨#[c]⟩ : ByteArray)[0]'(Nat.zero_lt_one) = c := rfl
  generalize hA : (decide (65 ≤ c.toNat ∧ c.toNat ≤ 90) || decide (97 ≤ c.toNat ∧ c.toNat ≤ 122)) = a
  generalize hD : decide (48 ≤ c.toNat ∧ c.toNat ≤ 57) = d
  have hL := fun w => letter_any c w
  have hG := fun w => digit_any c w
  rw [hA] at hL
  rw [hD] at hG
  have hw : wordB c = (a || d || decide (c.toNat = 95)) := by
    rw [← hA, ← hD]; simp only [wordB]
    cases decide (97 ≤ c.toNat ∧ c.toNat ≤ 122) <;> cases decide (65 ≤ c.toNat ∧ c.toNat ≤ 90) <;> rfl
  rw [hw]
  have HL := Lib.hid hL
  have HG := Lib.hid hG
  clear hA hD hL hG hw
  go_enter Try.func29, Try.ntmps29
  go_wp2_with fail
  refine (HL.out _).mono ?_
  rintro e w' ⟨rfl, rfl⟩
  cases a
  · go_wp2_with fail
    refine (HG.out _).mono ?_
    rintro e w' ⟨rfl, rfl⟩
    cases d
    · go_wp2_with fail
      all_goals go_ret
      all_goals refine ⟨ret_bool ?_, rfl⟩
      all_goals
        rw [Bool.eq_iff_iff]
        simp only [hc] at *
        simp
        omega
    · go_wp2_with fail
      go_ret
      exact ⟨rfl, rfl⟩
  · go_wp2_with fail
    go_ret
    exact ⟨rfl, rfl⟩

set_option maxHeartbeats 1600000 in
set_option maxRecDepth 1000000 in
theorem refWord_none (s : ByteArray) (w : World) (h : s.size ≠ 1) :
    Calls Try.prog 29 #[.string s] w fun e w' => e = .returned (.bool false) ∧ w' = w := by
  have hne : (((s.size : Nat) : Int) == 1) = false := by simp; omega
  clear h
  go_enter Try.func29, Try.ntmps29
  go_wp2_with fail
  go_ret
  exact ⟨rfl, rfl⟩

theorem refWord_any (s : ByteArray) (w : World) :
    Calls Try.prog 29 #[.string s] w fun e w' => e = .returned (.bool (wordL s.data.toList)) ∧ w' = w := by
  by_cases h : s.size = 1
  · obtain ⟨c, rfl⟩ := size_one s h
    exact refWord_one c w
  · rw [wordL_ne s h]; exact refWord_none s w h

/-- Is it one proper character? -/
def properL (l : List UInt8) : Bool := match l with
  | [] => false
  | c :: _ => !inB c && decide (endN l 0 = l.length)
theorem properL_nil : properL [] = false := rfl
theorem properL_pos (s : ByteArray) (h : 0 < s.size) : properL s.data.toList = (!inB (s[0]'h) && decide (endN s.data.toList 0 = s.size)) := by
  rcases s with ⟨⟨l⟩⟩
  match l, h with
  | c :: r, _ => rfl
/-- One character, as many as the document counts. -/
theorem chars_one (l : List UInt8) (h : 0 < l.length) : ((charsAt l 0).length = 1) ↔ endN l 0 = l.length := by
  rw [charsAt_step l 0 h]
  have h2 := endN_le l 0 h
  constructor
  · intro h1
    rcases Nat.lt_or_ge (endN l 0) l.length with h3 | h3
    · rw [charsAt_step l _ h3] at h1; simp at h1
    · omega
  · intro h1
    rw [h1, charsAt_end l _ (Nat.le_refl _)]; rfl

set_option maxHeartbeats 1600000 in
set_option maxRecDepth 1000000 in
theorem proper_any (s : ByteArray) (w : World) (hs : s.size ≤ 100000) :
    Calls Try.prog 24 #[.string s] w fun e w' => e = .returned (.bool (properL s.data.toList)) ∧ w' = w := by
  by_cases h0 : s.size = 0
  · have hs0 : s = ⟨#[]⟩ := by
      rcases s with ⟨⟨l⟩⟩
      match l, h0 with
      | [], _ => rfl
    subst hs0
    show Calls _ _ _ _ fun e w' => e = .returned (.bool false) ∧ w' = w
    clear h0 hs
    go_enter Try.func24, Try.ntmps24
    go_wp2_with fail
    go_ret
    exact ⟨rfl, rfl⟩
  · have hp : 0 < s.size := by omega
    have hp' : (0 : Int) < (s.size : Int) := by omega
    have hb : s.toList.isEmpty = false := by rw [ByteArray.toList_eq]; simpa using (List.length_pos_iff.1 (show 0 < s.data.toList.length from hp))
    have hb2 : (!s.toList.isEmpty) = true := by rw [hb]; rfl
    rw [properL_pos s hp]
    clear h0
    cases hi : inB s[0]
    · generalize hB : endN s.data.toList 0 = b at *
      have HB := Lib.hid hB
      have HI := Lib.hid hi
      clear hB hi
      by_cases hbs : b = s.size
      · have h1 : (((b : Nat) : Int) == (s.size : Int)) = true := by simp [hbs]
        have hd : (decide (b = s.size)) = true := by simp [hbs]
        rw [hd]
        clear hd hbs
        go_enter Try.func24, Try.ntmps24
        go_wp2_with fail
        refine (inside_no _ _ HI.out).mono ?_
        rintro e w' ⟨rfl, rfl⟩
        go_wp2_with fail
        refine (end_zero s b _ HB.out (by omega)).mono ?_
        rintro e w' ⟨rfl, rfl⟩
        go_wp2_with fail
        go_ret
        exact ⟨rfl, rfl⟩
      · have h1 : (((b : Nat) : Int) == (s.size : Int)) = false := by simp; omega
        have hd : (decide (b = s.size)) = false := by simp [hbs]
        rw [hd]
        clear hd hbs
        go_enter Try.func24, Try.ntmps24
        go_wp2_with fail
        refine (inside_no _ _ HI.out).mono ?_
        rintro e w' ⟨rfl, rfl⟩
        go_wp2_with fail
        refine (end_zero s b _ HB.out (by omega)).mono ?_
        rintro e w' ⟨rfl, rfl⟩
        go_wp2_with fail
        go_ret
        exact ⟨rfl, rfl⟩
    · have HI := Lib.hid hi
      clear hi
      go_enter Try.func24, Try.ntmps24
      go_wp2_with fail
      refine (inside_yes _ _ HI.out).mono ?_
      rintro e w' ⟨rfl, rfl⟩
      go_wp2_with fail
      go_ret
      exact ⟨rfl, rfl⟩

set_option maxHeartbeats 1600000 in
set_option maxRecDepth 1000000 in
theorem refProper_any (s : ByteArray) (w : World) (hs : s.size ≤ 100000) :
    Calls Try.prog 25 #[.string s] w fun e w' => e = .returned (.bool (properL s.data.toList)) ∧ Ext w w' := by
  by_cases h0 : s.size = 0
  · have hs0 : s = ⟨#[]⟩ := by
      rcases s with ⟨⟨l⟩⟩
      match l, h0 with
      | [], _ => rfl
    subst hs0
    show Calls _ _ _ _ fun e w' => e = .returned (.bool false) ∧ Ext w w'
    clear h0 hs
    go_enter Try.func25, Try.ntmps25
    go_wp2_with fail
    go_ret
    exact ⟨rfl, Mod.refl _ _⟩
  · have hp : 0 < s.size := by omega
    have hp' : (0 : Int) < (s.size : Int) := by omega
    rw [properL_pos s hp]
    have hone := chars_one s.data.toList hp
    rw [toList_length] at hone
    cases hi : inB s[0]
    · have HI : Hid ((!inB s[0]) = true) := by rw [hi]; rfl
      clear hi
      by_cases hbs : endN s.data.toList 0 = s.size
      · have hl := hone.2 hbs
        have hd : (decide (endN s.data.toList 0 = s.size)) = true := by simp [hbs]
        rw [hd]
        have Hl := Lib.hid hl
        clear hd hbs hone hl h0
        go_enter Try.func25, Try.ntmps25
        go_wp2_with fail
        refine (lead_any _ _).mono ?_
        rintro e w' ⟨rfl, rfl⟩
        rw [HI.out]
        go_wp2_with fail
        refine (refSplit_any s _ hs).mono ?_
        rintro e w2 ⟨ao, cap, rfl, _, hx⟩
        rw [Hl.out]
        go_wp2_with fail
        go_ret
        exact ⟨rfl, hx⟩
      · have hl : ((((charsAt s.data.toList 0).length : Nat) : Int) == 1) = false := by
          simp; intro h; exact hbs (hone.1 (by omega))
        have hd : (decide (endN s.data.toList 0 = s.size)) = false := by simp [hbs]
        rw [hd]
        clear hd hbs hone h0
        go_enter Try.func25, Try.ntmps25
        go_wp2_with fail
        refine (lead_any _ _).mono ?_
        rintro e w' ⟨rfl, rfl⟩
        rw [HI.out]
        go_wp2_with fail
        refine (refSplit_any s _ hs).mono ?_
        rintro e w2 ⟨ao, cap, rfl, _, hx⟩
        go_wp2_with fail
        go_ret
        exact ⟨rfl, hx⟩
    · have HI : Hid ((!inB s[0]) = false) := by rw [hi]; rfl
      clear hi hone h0
      go_enter Try.func25, Try.ntmps25
      go_wp2_with fail
      refine (lead_any _ _).mono ?_
      rintro e w' ⟨rfl, rfl⟩
      rw [HI.out]
      go_wp2_with fail
      go_ret
      exact ⟨rfl, Mod.refl _ _⟩

end Go.Proofs.Ythfckncbhkcblaa

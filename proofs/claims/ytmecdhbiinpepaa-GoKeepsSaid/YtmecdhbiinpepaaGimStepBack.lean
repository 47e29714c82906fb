/- From where a character begins, right and then left leads back, and left and then right, but at the ends; between there is no other such place: the plain law and the walk. Conditions: none. -/
import Derived.Test.YtmecdhbiinpepaaGimStepRises
namespace Go.Gim
theorem downN_eq (p : UInt8 → Bool) (l : List UInt8) : ∀ a j, j ≤ a → (∀ i, j < i → i ≤ a → p (l.getD i 0) = true) → (j = 0 ∨ p (l.getD j 0) = false) → downN p l a = j := by
  intro a
  induction a with
  | zero => intro j h _ _; obtain rfl : j = 0 := by omega
            rfl
  | succ a ih =>
    intro j h1 h2 h3
    rw [show downN p l (a + 1) = if p (l.getD (a + 1) 0) then downN p l a else a + 1 from rfl]
    by_cases he : j = a + 1
    · subst he
      rcases h3 with h3 | h3
      · omega
      · rw [if_neg (by rw [h3]; decide)]
    · rw [if_pos (h2 (a + 1) (by omega) (Nat.le_refl _))]
      exact ih j (by omega) (fun i hi1 hi2 => h2 i hi1 (by omega)) h3
theorem downN_in (p : UInt8 → Bool) (l : List UInt8) : ∀ a i, downN p l a < i → i ≤ a → p (l.getD i 0) = true := by
  intro a
  induction a with
  | zero => intro i h1 h2; omega
  | succ a ih =>
    intro i h1 h2
    rw [show downN p l (a + 1) = if p (l.getD (a + 1) 0) then downN p l a else a + 1 from rfl] at h1
    split at h1
    · by_cases he : i = a + 1
      · subst he; assumption
      · exact ih i h1 (by omega)
    · omega
theorem downN_stop (p : UInt8 → Bool) (l : List UInt8) : ∀ a, downN p l a = 0 ∨ p (l.getD (downN p l a) 0) = false := by
  intro a
  induction a with
  | zero => exact .inl rfl
  | succ a ih =>
    rw [show downN p l (a + 1) = if p (l.getD (a + 1) 0) then downN p l a else a + 1 from rfl]
    split
    · exact ih
    · rename_i h; exact .inr (by cases hh : p (l.getD (a + 1) 0) with
        | true => exact absurd hh h
        | false => rfl)
theorem fwdN_eq (p : UInt8 → Bool) (l : List UInt8) : ∀ n a j, j - a ≤ n → a ≤ j → j ≤ l.length → (∀ i, a ≤ i → i < j → p (l.getD i 0) = true) → (j < l.length → p (l.getD j 0) = false) → fwdN p l a = j := by
  intro n
  induction n with
  | zero =>
    intro a j h1 h2 h3 _ h5
    obtain rfl : a = j := by omega
    by_cases hl : a < l.length
    · exact fwdN_stop p l a hl (by have := h5 hl; simpa [List.getD, hl] using this)
    · exact fwdN_over p l a (by omega)
  | succ n ih =>
    intro a j h1 h2 h3 h4 h5
    by_cases he : a = j
    · subst he
      by_cases hl : a < l.length
      · exact fwdN_stop p l a hl (by have := h5 hl; simpa [List.getD, hl] using this)
      · exact fwdN_over p l a (by omega)
    · have hl : a < l.length := by omega
      rw [fwdN_in p l a hl (by have := h4 a (Nat.le_refl _) (by omega); simpa [List.getD, hl] using this)]
      exact ih (a + 1) j (by omega) (by omega) h3 (fun i hi1 hi2 => h4 i (by omega) hi2) h5
theorem fwdN_all (p : UInt8 → Bool) (l : List UInt8) : ∀ n a i, i - a ≤ n → a ≤ i → i < fwdN p l a → p (l.getD i 0) = true := by
  intro n
  induction n with
  | zero =>
    intro a i h1 h2 h3
    obtain rfl : a = i := by omega
    by_cases hl : a < l.length
    · cases hp : p l[a] with
      | true => simpa [List.getD, hl] using hp
      | false => rw [fwdN_stop p l a hl hp] at h3; omega
    · rw [fwdN_over p l a (by omega)] at h3; omega
  | succ n ih =>
    intro a i h1 h2 h3
    by_cases hl : a < l.length
    · cases hp : p l[a] with
      | true =>
        by_cases he : a = i
        · subst he; simpa [List.getD, hl] using hp
        · rw [fwdN_in p l a hl hp] at h3
          exact ih (a + 1) i (by omega) (by omega) h3
      | false => rw [fwdN_stop p l a hl hp] at h3; omega
    · rw [fwdN_over p l a (by omega)] at h3; omega
theorem fwdN_end (p : UInt8 → Bool) (l : List UInt8) : ∀ n a, l.length - a ≤ n → fwdN p l a < l.length → p (l.getD (fwdN p l a) 0) = false := by
  intro n
  induction n with
  | zero =>
    intro a h1 h2
    rw [fwdN_over p l a (by omega)] at h2; omega
  | succ n ih =>
    intro a h1 h2
    by_cases hl : a < l.length
    · cases hp : p l[a] with
      | true => rw [fwdN_in p l a hl hp] at h2 ⊢; exact ih (a + 1) (by omega) h2
      | false => rw [fwdN_stop p l a hl hp]; simpa [List.getD, hl] using hp
    · rw [fwdN_over p l a (by omega)] at h2; omega
end Go.Gim
namespace Go.Proofs.Ytmecdhbiinpepaa
open Go.RowKit Go.Gim

theorem getD_s (s : ByteArray) (i : Nat) (h : i < s.size) : s.data.toList.getD i 0 = s[i] := by
  rw [← toList_get s i h, List.getD_eq_getElem?_getD, List.getElem?_eq_getElem (by simpa using h)]; rfl
theorem back_facts (s : ByteArray) (k : Nat) (hk : k ≤ s.size) (hst : 0 < k → ∀ h : k < s.size, inB s[k] = false) :
    ∃ a c B E : Nat, a ≤ s.size ∧ c ≤ s.size ∧ B ≤ s.size ∧ E ≤ s.size ∧ stepN s.data.toList k 2 = a ∧ stepN s.data.toList a 1 = B ∧ stepN s.data.toList k 1 = c ∧ stepN s.data.toList c 2 = E ∧
      (k < s.size → B = k) ∧ (0 < k → E = k) ∧ (∀ (i : Nat) (h : i < s.size), k < i → i < a → inB s[i] = true) ∧ (k < s.size → k < a) ∧ (0 < k → c < k) ∧ (¬ k < s.size → a = k) := by
  have hl : s.data.toList.length = s.size := rfl
  have ha := stepN_le s.data.toList k 2 (by omega)
  have hc := stepN_le s.data.toList k 1 (by omega)
  have hB := stepN_le s.data.toList (stepN s.data.toList k 2) 1 ha
  have hE := stepN_le s.data.toList (stepN s.data.toList k 1) 2 hc
  rw [hl] at ha hc hB hE
  refine ⟨_, _, _, _, ha, hc, hB, hE, rfl, rfl, rfl, rfl, fun h => ?_, fun h => ?_, fun i h h1 h2 => ?_, fun h => ?_, fun h => ?_, fun h => ?_⟩
  · show leftN s.data.toList (rightN s.data.toList k) = k
    have hr : rightN s.data.toList k = fwdN inB s.data.toList (k + 1) := by unfold rightN; rw [if_pos (by omega)]
    have hge := fwdN_ge inB s.data.toList (k + 1)
    rw [hr]
    unfold leftN
    rw [if_neg (by omega)]
    refine downN_eq _ _ _ _ (by omega) (fun i hi1 hi2 => fwdN_all inB s.data.toList _ (k + 1) i (Nat.le_refl _) (by omega) (by omega)) ?_
    by_cases h0 : 0 < k
    · right; rw [getD_s s k h]; exact hst h0 h
    · left; omega
  · show rightN s.data.toList (leftN s.data.toList k) = k
    have hr : leftN s.data.toList k = downN inB s.data.toList (k - 1) := by unfold leftN; rw [if_neg (by omega)]
    have hle := downN_le inB s.data.toList (k - 1)
    rw [hr]
    unfold rightN
    rw [if_pos (by omega)]
    exact fwdN_eq _ _ _ _ _ (Nat.le_refl _) (by omega) (by omega) (fun i hi1 hi2 => downN_in inB s.data.toList (k - 1) i (by omega) (by omega)) (fun hlt => by rw [getD_s s k (by omega)]; exact hst h (by omega))
  · have hr : stepN s.data.toList k 2 = fwdN inB s.data.toList (k + 1) := by show rightN _ _ = _; unfold rightN; rw [if_pos (by omega)]
    rw [hr] at h2
    have := fwdN_all inB s.data.toList _ (k + 1) i (Nat.le_refl _) (by omega) h2
    rwa [getD_s s i h] at this
  · have hr : stepN s.data.toList k 2 = fwdN inB s.data.toList (k + 1) := by show rightN _ _ = _; unfold rightN; rw [if_pos (by omega)]
    have hge := fwdN_ge inB s.data.toList (k + 1)
    omega
  · have hr : stepN s.data.toList k 1 ≤ k - 1 := leftN_le s.data.toList k
    omega
  · show rightN _ _ = _
    unfold rightN; rw [if_neg (by omega)]

set_option maxHeartbeats 6400000 in
set_option maxRecDepth 1000000 in
theorem stepBack_any (w : World) (s : ByteArray) (f : Int) (hs : s.size ≤ 200) :
    Calls Try.prog 7 #[.string s, .int .i64 f] w fun e w' => e = .returned (.bool true) ∧ Ext w w' := by
  have j1 : ¬ (200 : Int) < (s.size : Int) := by omega
  obtain ⟨k, hk, L1⟩ := low9 f (s.size + 1) ((s.size : Int) + 1) (by omega) (by omega) (by omega)
  have L1 := Lib.hid L1
  go_enter Try.func7, Try.ntmps7
  go_wp2_with fail
  refine (L1.out _).mono ?_
  rintro e w1 ⟨rfl, rfl⟩
  by_cases h0 : 0 < k
  · have k3 : (0 : Int) < (k : Int) := by omega
    have k2 : (0 : Int) ≤ (k : Int) := by omega
    by_cases hks : k < s.size
    · have k1 : (k : Int) < (s.size : Int) := by omega
      by_cases hb : inB s[k] = true
      · have b1 : (128 : Int) ≤ (s[k].toNat : Int) := by simp [inB] at hb; omega
        have b2 : (s[k].toNat : Int) < 192 := by simp [inB] at hb; omega
        clear hb
        go_wp2_with fail
        refine (awake9_any _).mono ?_
        rintro e v3 ⟨rfl, y'⟩
        go_wp2_with fail
        go_ret
        exact ⟨rfl, y'⟩
      · have hb2 : inB s[k] = false := by simpa using hb
        have Hst := Lib.hid (show 0 < k → ∀ h : k < s.size, inB s[k] = false from fun _ _ => hb2)
        by_cases b1 : (128 : Int) ≤ (s[k].toNat : Int)
        · have b2 : ¬ (s[k].toNat : Int) < 192 := by simp [inB] at hb2; omega
          clear hb hb2
          go_wp2_with fail
          refine (of9_any s _ (by omega)).mono ?_
          rintro e u1 ⟨R, rfl, hR, htx, hx, _⟩
          have ha' : Ext u1 (u1.alloc (.cells #[.pointer (some ⟨R.rb, 0, none⟩)] 35)) := (Mod.refl _ u1).alloc _
          have hRa := hR.ext ha'
          have hxa := hx.ext_trans ha'
          have Htx := Lib.hid htx
          clear htx
          go_wp2_with fail
          obtain ⟨a, c, B, E, ha, hc, hB0, hE0, q1, q2, q3, q4, hB, hE, hin, hak, hck, hk0⟩ := back_facts s k (by omega) Hst.out
          have S1 := fun v (hv : RopeAt v R) => step_yes R s k 2 v hv Htx.out (by omega) (by omega) (by omega)
          have S2 := fun v (hv : RopeAt v R) => step_yes R s a 1 v hv Htx.out (by omega) (by omega) (by omega)
          have S3 := fun v (hv : RopeAt v R) => step_yes R s k 1 v hv Htx.out (by omega) (by omega) (by omega)
          have S4 := fun v (hv : RopeAt v R) => step_yes R s c 2 v hv Htx.out (by omega) (by omega) (by omega)
          rw [q1] at S1
          rw [q2] at S2
          rw [q3] at S3
          rw [q4] at S4
          have S1 := Lib.hid S1
          have S2 := Lib.hid S2
          have S3 := Lib.hid S3
          have S4 := Lib.hid S4
          have Hin := Lib.hid hin
          clear q1 q2 q3 q4 hin
          obtain rfl := hE h0
          have hck' := hck h0
          have z2 : (c : Int) < (E : Int) := by omega
          obtain rfl := hB hks
          have hak' := hak hks
          have z4 : (B : Int) < (a : Int) := by omega
          clear hB hE hak hck hk0
          refine (S1.out _ hRa).mono ?_
          rintro e u2 ⟨rfl, y⟩
          have d := box_cell y
          go_wp2_with fail
          refine (S2.out _ (hRa.ext y)).mono ?_
          rintro e u3 ⟨rfl, y'⟩
          replace y := y.ext_trans y'
          replace d := box_cell y
          clear y'
          go_wp2_with fail
          refine (S3.out _ (hRa.ext y)).mono ?_
          rintro e u4 ⟨rfl, y'⟩
          replace y := y.ext_trans y'
          replace d := box_cell y
          clear y'
          go_wp2_with fail
          refine (S4.out _ (hRa.ext y)).mono ?_
          rintro e u5 ⟨rfl, y'⟩
          replace y := y.ext_trans y'
          clear d y'
          go_wp2_with fail
          go_loop [16] (fun i => ∃ n : Nat, B + 1 ≤ n ∧ n ≤ 100000 ∧ i = .int .i64 n) (fun i => 200000 - (intOf i).toNat)
          case atStart => exact ⟨B + 1, by omega, by omega, by go_num⟩
          case round =>
            obtain ⟨n, hn, hn2, rfl⟩ := hrel
            by_cases hlt : n < a
            · have l1 : (n : Int) < (a : Int) := by omega
              have l2 : (0 : Int) ≤ (n : Int) := by omega
              have l3 : (n : Int) < (s.size : Int) := by omega
              have l4 : n < s.size := by omega
              have hb := Hin.out n l4 (by omega) hlt
              have b1 : ¬ (s[n].toNat : Int) < 128 := by simp [inB] at hb; omega
              have b2 : ¬ (191 : Int) < (s[n].toNat : Int) := by simp [inB] at hb; omega
              have b3 : decide ((s[n].toNat : Int) < 128) = false := by simp; omega
              clear hb
              go_wp2_with fail
              go_round
              case rel => exact ⟨n + 1, by omega, by omega, by go_num⟩
              case measure => simp [intOf] <;> omega
            · have l1 : ¬ (n : Int) < (a : Int) := by omega
              go_wp2_with fail
              refine (awake9_any _).mono ?_
              rintro e v3 ⟨rfl, y'⟩
              go_wp2_with fail
              go_ret
              exact ⟨rfl, (hxa.ext_trans y).ext_trans y'⟩
        · have b2 : decide ((128 : Int) ≤ (s[k].toNat : Int)) = false := by simp; omega
          clear hb hb2
          go_wp2_with fail
          refine (of9_any s _ (by omega)).mono ?_
          rintro e u1 ⟨R, rfl, hR, htx, hx, _⟩
          have ha' : Ext u1 (u1.alloc (.cells #[.pointer (some ⟨R.rb, 0, none⟩)] 35)) := (Mod.refl _ u1).alloc _
          have hRa := hR.ext ha'
          have hxa := hx.ext_trans ha'
          have Htx := Lib.hid htx
          clear htx
          go_wp2_with fail
          obtain ⟨a, c, B, E, ha, hc, hB0, hE0, q1, q2, q3, q4, hB, hE, hin, hak, hck, hk0⟩ := back_facts s k (by omega) Hst.out
          have S1 := fun v (hv : RopeAt v R) => step_yes R s k 2 v hv Htx.out (by omega) (by omega) (by omega)
          have S2 := fun v (hv : RopeAt v R) => step_yes R s a 1 v hv Htx.out (by omega) (by omega) (by omega)
          have S3 := fun v (hv : RopeAt v R) => step_yes R s k 1 v hv Htx.out (by omega) (by omega) (by omega)
          have S4 := fun v (hv : RopeAt v R) => step_yes R s c 2 v hv Htx.out (by omega) (by omega) (by omega)
          rw [q1] at S1
          rw [q2] at S2
          rw [q3] at S3
          rw [q4] at S4
          have S1 := Lib.hid S1
          have S2 := Lib.hid S2
          have S3 := Lib.hid S3
          have S4 := Lib.hid S4
          have Hin := Lib.hid hin
          clear q1 q2 q3 q4 hin
          obtain rfl := hE h0
          have hck' := hck h0
          have z2 : (c : Int) < (E : Int) := by omega
          obtain rfl := hB hks
          have hak' := hak hks
          have z4 : (B : Int) < (a : Int) := by omega
          clear hB hE hak hck hk0
          refine (S1.out _ hRa).mono ?_
          rintro e u2 ⟨rfl, y⟩
          have d := box_cell y
          go_wp2_with fail
          refine (S2.out _ (hRa.ext y)).mono ?_
          rintro e u3 ⟨rfl, y'⟩
          replace y := y.ext_trans y'
          replace d := box_cell y
          clear y'
          go_wp2_with fail
          refine (S3.out _ (hRa.ext y)).mono ?_
          rintro e u4 ⟨rfl, y'⟩
          replace y := y.ext_trans y'
          replace d := box_cell y
          clear y'
          go_wp2_with fail
          refine (S4.out _ (hRa.ext y)).mono ?_
          rintro e u5 ⟨rfl, y'⟩
          replace y := y.ext_trans y'
          clear d y'
          go_wp2_with fail
          go_loop [16] (fun i => ∃ n : Nat, B + 1 ≤ n ∧ n ≤ 100000 ∧ i = .int .i64 n) (fun i => 200000 - (intOf i).toNat)
          case atStart => exact ⟨B + 1, by omega, by omega, by go_num⟩
          case round =>
            obtain ⟨n, hn, hn2, rfl⟩ := hrel
            by_cases hlt : n < a
            · have l1 : (n : Int) < (a : Int) := by omega
              have l2 : (0 : Int) ≤ (n : Int) := by omega
              have l3 : (n : Int) < (s.size : Int) := by omega
              have l4 : n < s.size := by omega
              have hb := Hin.out n l4 (by omega) hlt
              have b1 : ¬ (s[n].toNat : Int) < 128 := by simp [inB] at hb; omega
              have b2 : ¬ (191 : Int) < (s[n].toNat : Int) := by simp [inB] at hb; omega
              have b3 : decide ((s[n].toNat : Int) < 128) = false := by simp; omega
              clear hb
              go_wp2_with fail
              go_round
              case rel => exact ⟨n + 1, by omega, by omega, by go_num⟩
              case measure => simp [intOf] <;> omega
            · have l1 : ¬ (n : Int) < (a : Int) := by omega
              go_wp2_with fail
              refine (awake9_any _).mono ?_
              rintro e v3 ⟨rfl, y'⟩
              go_wp2_with fail
              go_ret
              exact ⟨rfl, (hxa.ext_trans y).ext_trans y'⟩
    · have k1 : ¬ (k : Int) < (s.size : Int) := by omega
      have Hst := Lib.hid (show 0 < k → ∀ h : k < s.size, inB s[k] = false from fun _ h => absurd h hks)
      go_wp2_with fail
      refine (of9_any s _ (by omega)).mono ?_
      rintro e u1 ⟨R, rfl, hR, htx, hx, _⟩
      have ha' : Ext u1 (u1.alloc (.cells #[.pointer (some ⟨R.rb, 0, none⟩)] 35)) := (Mod.refl _ u1).alloc _
      have hRa := hR.ext ha'
      have hxa := hx.ext_trans ha'
      have Htx := Lib.hid htx
      clear htx
      go_wp2_with fail
      obtain ⟨a, c, B, E, ha, hc, hB0, hE0, q1, q2, q3, q4, hB, hE, hin, hak, hck, hk0⟩ := back_facts s k (by omega) Hst.out
      have S1 := fun v (hv : RopeAt v R) => step_yes R s k 2 v hv Htx.out (by omega) (by omega) (by omega)
      have S2 := fun v (hv : RopeAt v R) => step_yes R s a 1 v hv Htx.out (by omega) (by omega) (by omega)
      have S3 := fun v (hv : RopeAt v R) => step_yes R s k 1 v hv Htx.out (by omega) (by omega) (by omega)
      have S4 := fun v (hv : RopeAt v R) => step_yes R s c 2 v hv Htx.out (by omega) (by omega) (by omega)
      rw [q1] at S1
      rw [q2] at S2
      rw [q3] at S3
      rw [q4] at S4
      have S1 := Lib.hid S1
      have S2 := Lib.hid S2
      have S3 := Lib.hid S3
      have S4 := Lib.hid S4
      have Hin := Lib.hid hin
      clear q1 q2 q3 q4 hin
      obtain rfl := hE h0
      have hck' := hck h0
      have z2 : (c : Int) < (E : Int) := by omega
      obtain rfl := hk0 hks
      have z3 : ((a : Int) == (s.size : Int)) = true := by simp; omega
      clear hB hE hak hck hk0
      refine (S1.out _ hRa).mono ?_
      rintro e u2 ⟨rfl, y⟩
      have d := box_cell y
      go_wp2_with fail
      refine (S2.out _ (hRa.ext y)).mono ?_
      rintro e u3 ⟨rfl, y'⟩
      replace y := y.ext_trans y'
      replace d := box_cell y
      clear y'
      go_wp2_with fail
      refine (S3.out _ (hRa.ext y)).mono ?_
      rintro e u4 ⟨rfl, y'⟩
      replace y := y.ext_trans y'
      replace d := box_cell y
      clear y'
      go_wp2_with fail
      refine (S4.out _ (hRa.ext y)).mono ?_
      rintro e u5 ⟨rfl, y'⟩
      replace y := y.ext_trans y'
      clear d y'
      go_wp2_with fail
      go_loop [16] (fun i => ∃ n : Nat, a + 1 ≤ n ∧ n ≤ 100000 ∧ i = .int .i64 n) (fun i => 200000 - (intOf i).toNat)
      case atStart => exact ⟨a + 1, by omega, by omega, by go_num⟩
      case round =>
        obtain ⟨n, hn, hn2, rfl⟩ := hrel
        by_cases hlt : n < a
        · have l1 : (n : Int) < (a : Int) := by omega
          have l2 : (0 : Int) ≤ (n : Int) := by omega
          have l3 : (n : Int) < (s.size : Int) := by omega
          have l4 : n < s.size := by omega
          have hb := Hin.out n l4 (by omega) hlt
          have b1 : ¬ (s[n].toNat : Int) < 128 := by simp [inB] at hb; omega
          have b2 : ¬ (191 : Int) < (s[n].toNat : Int) := by simp [inB] at hb; omega
          have b3 : decide ((s[n].toNat : Int) < 128) = false := by simp; omega
          clear hb
          go_wp2_with fail
          go_round
          case rel => exact ⟨n + 1, by omega, by omega, by go_num⟩
          case measure => simp [intOf] <;> omega
        · have l1 : ¬ (n : Int) < (a : Int) := by omega
          go_wp2_with fail
          refine (awake9_any _).mono ?_
          rintro e v3 ⟨rfl, y'⟩
          go_wp2_with fail
          go_ret
          exact ⟨rfl, (hxa.ext_trans y).ext_trans y'⟩
  · have Hst := Lib.hid (show 0 < k → ∀ h : k < s.size, inB s[k] = false from fun h => absurd h h0)
    have k3 : ¬ (0 : Int) < (k : Int) := by omega
    have k2 : (0 : Int) ≤ (k : Int) := by omega
    by_cases hks : k < s.size
    · have k1 : (k : Int) < (s.size : Int) := by omega
      by_cases b1 : (128 : Int) ≤ (s[k].toNat : Int)
      · by_cases b2 : (s[k].toNat : Int) < 192
        · go_wp2_with fail
          refine (of9_any s _ (by omega)).mono ?_
          rintro e u1 ⟨R, rfl, hR, htx, hx, _⟩
          have ha' : Ext u1 (u1.alloc (.cells #[.pointer (some ⟨R.rb, 0, none⟩)] 35)) := (Mod.refl _ u1).alloc _
          have hRa := hR.ext ha'
          have hxa := hx.ext_trans ha'
          have Htx := Lib.hid htx
          clear htx
          go_wp2_with fail
          obtain ⟨a, c, B, E, ha, hc, hB0, hE0, q1, q2, q3, q4, hB, hE, hin, hak, hck, hk0⟩ := back_facts s k (by omega) Hst.out
          have S1 := fun v (hv : RopeAt v R) => step_yes R s k 2 v hv Htx.out (by omega) (by omega) (by omega)
          have S2 := fun v (hv : RopeAt v R) => step_yes R s a 1 v hv Htx.out (by omega) (by omega) (by omega)
          have S3 := fun v (hv : RopeAt v R) => step_yes R s k 1 v hv Htx.out (by omega) (by omega) (by omega)
          have S4 := fun v (hv : RopeAt v R) => step_yes R s c 2 v hv Htx.out (by omega) (by omega) (by omega)
          rw [q1] at S1
          rw [q2] at S2
          rw [q3] at S3
          rw [q4] at S4
          have S1 := Lib.hid S1
          have S2 := Lib.hid S2
          have S3 := Lib.hid S3
          have S4 := Lib.hid S4
          have Hin := Lib.hid hin
          clear q1 q2 q3 q4 hin
          obtain rfl := hB hks
          have hak' := hak hks
          have z4 : (B : Int) < (a : Int) := by omega
          have z5 : ¬ (0 : Int) < (B : Int) := by omega
          have z6 : ((B : Int) == 0) = true := by simp; omega
          clear hB hE hak hck hk0
          by_cases hcB : c < B
          · exfalso; omega
          · have z7 : ¬ (c : Int) < (B : Int) := by omega
            refine (S1.out _ hRa).mono ?_
            rintro e u2 ⟨rfl, y⟩
            have d := box_cell y
            go_wp2_with fail
            refine (S2.out _ (hRa.ext y)).mono ?_
            rintro e u3 ⟨rfl, y'⟩
            replace y := y.ext_trans y'
            replace d := box_cell y
            clear y'
            go_wp2_with fail
            refine (S3.out _ (hRa.ext y)).mono ?_
            rintro e u4 ⟨rfl, y'⟩
            replace y := y.ext_trans y'
            replace d := box_cell y
            clear y'
            go_wp2_with fail
            refine (S4.out _ (hRa.ext y)).mono ?_
            rintro e u5 ⟨rfl, y'⟩
            replace y := y.ext_trans y'
            clear d y'
            go_wp2_with fail
            go_loop [16] (fun i => ∃ n : Nat, B + 1 ≤ n ∧ n ≤ 100000 ∧ i = .int .i64 n) (fun i => 200000 - (intOf i).toNat)
            case atStart => exact ⟨B + 1, by omega, by omega, by go_num⟩
            case round =>
              obtain ⟨n, hn, hn2, rfl⟩ := hrel
              by_cases hlt : n < a
              · have l1 : (n : Int) < (a : Int) := by omega
                have l2 : (0 : Int) ≤ (n : Int) := by omega
                have l3 : (n : Int) < (s.size : Int) := by omega
                have l4 : n < s.size := by omega
                have hb := Hin.out n l4 (by omega) hlt
                have b1 : ¬ (s[n].toNat : Int) < 128 := by simp [inB] at hb; omega
                have b2 : ¬ (191 : Int) < (s[n].toNat : Int) := by simp [inB] at hb; omega
                have b3 : decide ((s[n].toNat : Int) < 128) = false := by simp; omega
                clear hb
                go_wp2_with fail
                go_round
                case rel => exact ⟨n + 1, by omega, by omega, by go_num⟩
                case measure => simp [intOf] <;> omega
              · have l1 : ¬ (n : Int) < (a : Int) := by omega
                go_wp2_with fail
                refine (awake9_any _).mono ?_
                rintro e v3 ⟨rfl, y'⟩
                go_wp2_with fail
                go_ret
                exact ⟨rfl, (hxa.ext_trans y).ext_trans y'⟩
        · go_wp2_with fail
          refine (of9_any s _ (by omega)).mono ?_
          rintro e u1 ⟨R, rfl, hR, htx, hx, _⟩
          have ha' : Ext u1 (u1.alloc (.cells #[.pointer (some ⟨R.rb, 0, none⟩)] 35)) := (Mod.refl _ u1).alloc _
          have hRa := hR.ext ha'
          have hxa := hx.ext_trans ha'
          have Htx := Lib.hid htx
          clear htx
          go_wp2_with fail
          obtain ⟨a, c, B, E, ha, hc, hB0, hE0, q1, q2, q3, q4, hB, hE, hin, hak, hck, hk0⟩ := back_facts s k (by omega) Hst.out
          have S1 := fun v (hv : RopeAt v R) => step_yes R s k 2 v hv Htx.out (by omega) (by omega) (by omega)
          have S2 := fun v (hv : RopeAt v R) => step_yes R s a 1 v hv Htx.out (by omega) (by omega) (by omega)
          have S3 := fun v (hv : RopeAt v R) => step_yes R s k 1 v hv Htx.out (by omega) (by omega) (by omega)
          have S4 := fun v (hv : RopeAt v R) => step_yes R s c 2 v hv Htx.out (by omega) (by omega) (by omega)
          rw [q1] at S1
          rw [q2] at S2
          rw [q3] at S3
          rw [q4] at S4
          have S1 := Lib.hid S1
          have S2 := Lib.hid S2
          have S3 := Lib.hid S3
          have S4 := Lib.hid S4
          have Hin := Lib.hid hin
          clear q1 q2 q3 q4 hin
          obtain rfl := hB hks
          have hak' := hak hks
          have z4 : (B : Int) < (a : Int) := by omega
          have z5 : ¬ (0 : Int) < (B : Int) := by omega
          have z6 : ((B : Int) == 0) = true := by simp; omega
          clear hB hE hak hck hk0
          by_cases hcB : c < B
          · exfalso; omega
          · have z7 : ¬ (c : Int) < (B : Int) := by omega
            refine (S1.out _ hRa).mono ?_
            rintro e u2 ⟨rfl, y⟩
            have d := box_cell y
            go_wp2_with fail
            refine (S2.out _ (hRa.ext y)).mono ?_
            rintro e u3 ⟨rfl, y'⟩
            replace y := y.ext_trans y'
            replace d := box_cell y
            clear y'
            go_wp2_with fail
            refine (S3.out _ (hRa.ext y)).mono ?_
            rintro e u4 ⟨rfl, y'⟩
            replace y := y.ext_trans y'
            replace d := box_cell y
            clear y'
            go_wp2_with fail
            refine (S4.out _ (hRa.ext y)).mono ?_
            rintro e u5 ⟨rfl, y'⟩
            replace y := y.ext_trans y'
            clear d y'
            go_wp2_with fail
            go_loop [16] (fun i => ∃ n : Nat, B + 1 ≤ n ∧ n ≤ 100000 ∧ i = .int .i64 n) (fun i => 200000 - (intOf i).toNat)
            case atStart => exact ⟨B + 1, by omega, by omega, by go_num⟩
            case round =>
              obtain ⟨n, hn, hn2, rfl⟩ := hrel
              by_cases hlt : n < a
              · have l1 : (n : Int) < (a : Int) := by omega
                have l2 : (0 : Int) ≤ (n : Int) := by omega
                have l3 : (n : Int) < (s.size : Int) := by omega
                have l4 : n < s.size := by omega
                have hb := Hin.out n l4 (by omega) hlt
                have b1 : ¬ (s[n].toNat : Int) < 128 := by simp [inB] at hb; omega
                have b2 : ¬ (191 : Int) < (s[n].toNat : Int) := by simp [inB] at hb; omega
                have b3 : decide ((s[n].toNat : Int) < 128) = false := by simp; omega
                clear hb
                go_wp2_with fail
                go_round
                case rel => exact ⟨n + 1, by omega, by omega, by go_num⟩
                case measure => simp [intOf] <;> omega
              · have l1 : ¬ (n : Int) < (a : Int) := by omega
                go_wp2_with fail
                refine (awake9_any _).mono ?_
                rintro e v3 ⟨rfl, y'⟩
                go_wp2_with fail
                go_ret
                exact ⟨rfl, (hxa.ext_trans y).ext_trans y'⟩
      · have b2 : decide ((128 : Int) ≤ (s[k].toNat : Int)) = false := by simp; omega
        go_wp2_with fail
        refine (of9_any s _ (by omega)).mono ?_
        rintro e u1 ⟨R, rfl, hR, htx, hx, _⟩
        have ha' : Ext u1 (u1.alloc (.cells #[.pointer (some ⟨R.rb, 0, none⟩)] 35)) := (Mod.refl _ u1).alloc _
        have hRa := hR.ext ha'
        have hxa := hx.ext_trans ha'
        have Htx := Lib.hid htx
        clear htx
        go_wp2_with fail
        obtain ⟨a, c, B, E, ha, hc, hB0, hE0, q1, q2, q3, q4, hB, hE, hin, hak, hck, hk0⟩ := back_facts s k (by omega) Hst.out
        have S1 := fun v (hv : RopeAt v R) => step_yes R s k 2 v hv Htx.out (by omega) (by omega) (by omega)
        have S2 := fun v (hv : RopeAt v R) => step_yes R s a 1 v hv Htx.out (by omega) (by omega) (by omega)
        have S3 := fun v (hv : RopeAt v R) => step_yes R s k 1 v hv Htx.out (by omega) (by omega) (by omega)
        have S4 := fun v (hv : RopeAt v R) => step_yes R s c 2 v hv Htx.out (by omega) (by omega) (by omega)
        rw [q1] at S1
        rw [q2] at S2
        rw [q3] at S3
        rw [q4] at S4
        have S1 := Lib.hid S1
        have S2 := Lib.hid S2
        have S3 := Lib.hid S3
        have S4 := Lib.hid S4
        have Hin := Lib.hid hin
        clear q1 q2 q3 q4 hin
        obtain rfl := hB hks
        have hak' := hak hks
        have z4 : (B : Int) < (a : Int) := by omega
        have z5 : ¬ (0 : Int) < (B : Int) := by omega
        have z6 : ((B : Int) == 0) = true := by simp; omega
        clear hB hE hak hck hk0
        by_cases hcB : c < B
        · exfalso; omega
        · have z7 : ¬ (c : Int) < (B : Int) := by omega
          refine (S1.out _ hRa).mono ?_
          rintro e u2 ⟨rfl, y⟩
          have d := box_cell y
          go_wp2_with fail
          refine (S2.out _ (hRa.ext y)).mono ?_
          rintro e u3 ⟨rfl, y'⟩
          replace y := y.ext_trans y'
          replace d := box_cell y
          clear y'
          go_wp2_with fail
          refine (S3.out _ (hRa.ext y)).mono ?_
          rintro e u4 ⟨rfl, y'⟩
          replace y := y.ext_trans y'
          replace d := box_cell y
          clear y'
          go_wp2_with fail
          refine (S4.out _ (hRa.ext y)).mono ?_
          rintro e u5 ⟨rfl, y'⟩
          replace y := y.ext_trans y'
          clear d y'
          go_wp2_with fail
          go_loop [16] (fun i => ∃ n : Nat, B + 1 ≤ n ∧ n ≤ 100000 ∧ i = .int .i64 n) (fun i => 200000 - (intOf i).toNat)
          case atStart => exact ⟨B + 1, by omega, by omega, by go_num⟩
          case round =>
            obtain ⟨n, hn, hn2, rfl⟩ := hrel
            by_cases hlt : n < a
            · have l1 : (n : Int) < (a : Int) := by omega
              have l2 : (0 : Int) ≤ (n : Int) := by omega
              have l3 : (n : Int) < (s.size : Int) := by omega
              have l4 : n < s.size := by omega
              have hb := Hin.out n l4 (by omega) hlt
              have b1 : ¬ (s[n].toNat : Int) < 128 := by simp [inB] at hb; omega
              have b2 : ¬ (191 : Int) < (s[n].toNat : Int) := by simp [inB] at hb; omega
              have b3 : decide ((s[n].toNat : Int) < 128) = false := by simp; omega
              clear hb
              go_wp2_with fail
              go_round
              case rel => exact ⟨n + 1, by omega, by omega, by go_num⟩
              case measure => simp [intOf] <;> omega
            · have l1 : ¬ (n : Int) < (a : Int) := by omega
              go_wp2_with fail
              refine (awake9_any _).mono ?_
              rintro e v3 ⟨rfl, y'⟩
              go_wp2_with fail
              go_ret
              exact ⟨rfl, (hxa.ext_trans y).ext_trans y'⟩
    · have k1 : ¬ (k : Int) < (s.size : Int) := by omega
      go_wp2_with fail
      refine (of9_any s _ (by omega)).mono ?_
      rintro e u1 ⟨R, rfl, hR, htx, hx, _⟩
      have ha' : Ext u1 (u1.alloc (.cells #[.pointer (some ⟨R.rb, 0, none⟩)] 35)) := (Mod.refl _ u1).alloc _
      have hRa := hR.ext ha'
      have hxa := hx.ext_trans ha'
      have Htx := Lib.hid htx
      clear htx
      go_wp2_with fail
      obtain ⟨a, c, B, E, ha, hc, hB0, hE0, q1, q2, q3, q4, hB, hE, hin, hak, hck, hk0⟩ := back_facts s k (by omega) Hst.out
      have S1 := fun v (hv : RopeAt v R) => step_yes R s k 2 v hv Htx.out (by omega) (by omega) (by omega)
      have S2 := fun v (hv : RopeAt v R) => step_yes R s a 1 v hv Htx.out (by omega) (by omega) (by omega)
      have S3 := fun v (hv : RopeAt v R) => step_yes R s k 1 v hv Htx.out (by omega) (by omega) (by omega)
      have S4 := fun v (hv : RopeAt v R) => step_yes R s c 2 v hv Htx.out (by omega) (by omega) (by omega)
      rw [q1] at S1
      rw [q2] at S2
      rw [q3] at S3
      rw [q4] at S4
      have S1 := Lib.hid S1
      have S2 := Lib.hid S2
      have S3 := Lib.hid S3
      have S4 := Lib.hid S4
      have Hin := Lib.hid hin
      clear q1 q2 q3 q4 hin
      obtain rfl := hk0 hks
      have z5 : ¬ (0 : Int) < (a : Int) := by omega
      have z6 : ((a : Int) == 0) = true := by simp; omega
      have z3 : ((a : Int) == (s.size : Int)) = true := by simp; omega
      have z7 : ¬ (c : Int) < (a : Int) := by omega
      clear hB hE hak hck hk0
      refine (S1.out _ hRa).mono ?_
      rintro e u2 ⟨rfl, y⟩
      have d := box_cell y
      go_wp2_with fail
      refine (S2.out _ (hRa.ext y)).mono ?_
      rintro e u3 ⟨rfl, y'⟩
      replace y := y.ext_trans y'
      replace d := box_cell y
      clear y'
      go_wp2_with fail
      refine (S3.out _ (hRa.ext y)).mono ?_
      rintro e u4 ⟨rfl, y'⟩
      replace y := y.ext_trans y'
      replace d := box_cell y
      clear y'
      go_wp2_with fail
      refine (S4.out _ (hRa.ext y)).mono ?_
      rintro e u5 ⟨rfl, y'⟩
      replace y := y.ext_trans y'
      clear d y'
      go_wp2_with fail
      go_loop [16] (fun i => ∃ n : Nat, a + 1 ≤ n ∧ n ≤ 100000 ∧ i = .int .i64 n) (fun i => 200000 - (intOf i).toNat)
      case atStart => exact ⟨a + 1, by omega, by omega, by go_num⟩
      case round =>
        obtain ⟨n, hn, hn2, rfl⟩ := hrel
        by_cases hlt : n < a
        · have l1 : (n : Int) < (a : Int) := by omega
          have l2 : (0 : Int) ≤ (n : Int) := by omega
          have l3 : (n : Int) < (s.size : Int) := by omega
          have l4 : n < s.size := by omega
          have hb := Hin.out n l4 (by omega) hlt
          have b1 : ¬ (s[n].toNat : Int) < 128 := by simp [inB] at hb; omega
          have b2 : ¬ (191 : Int) < (s[n].toNat : Int) := by simp [inB] at hb; omega
          have b3 : decide ((s[n].toNat : Int) < 128) = false := by simp; omega
          clear hb
          go_wp2_with fail
          go_round
          case rel => exact ⟨n + 1, by omega, by omega, by go_num⟩
          case measure => simp [intOf] <;> omega
        · have l1 : ¬ (n : Int) < (a : Int) := by omega
          go_wp2_with fail
          refine (awake9_any _).mono ?_
          rintro e v3 ⟨rfl, y'⟩
          go_wp2_with fail
          go_ret
          exact ⟨rfl, (hxa.ext_trans y).ext_trans y'⟩

set_option maxHeartbeats 800000 in
set_option maxRecDepth 1000000 in
theorem stepBack_calls (w : World) (s : ByteArray) (ws : s.size ≤ 9223372036854775807) (f : Int) (wf : (Lit.int .i64 f).wf = true) :
    Calls Try.prog 7 #[.string s, .int .i64 f] w fun e w' => e = .returned (.bool true) ∧ Ext w w' := by
  clear ws wf
  by_cases h1 : s.size ≤ 200
  · exact stepBack_any w s f h1
  · have j1 : (200 : Int) < (s.size : Int) := by omega
    go_enter Try.func7, Try.ntmps7
    go_wp2_with fail
    refine (awake9_any _).mono ?_
    rintro e w1 ⟨rfl, hx⟩
    go_wp2_with fail
    go_ret
    exact ⟨rfl, hx⟩

end Go.Proofs.Ytmecdhbiinpepaa

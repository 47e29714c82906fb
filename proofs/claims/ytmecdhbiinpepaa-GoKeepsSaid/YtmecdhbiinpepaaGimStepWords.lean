/- GoWordR goes over bytes that are in no word and then over a whole run of those that are, and no further; GoWordL likewise back: the plain law and the walk. Conditions: none. -/
import Derived.Test.YtmecdhbiinpepaaGimStepBack
namespace Go.Gim
theorem backN_all (p : UInt8 → Bool) (l : List UInt8) : ∀ a i, backN p l a ≤ i → i < a → p (l.getD i 0) = true := by
  intro a
  induction a with
  | zero => intro i _ h2; omega
  | succ a ih =>
    intro i h1 h2
    rw [show backN p l (a + 1) = if p (l.getD a 0) then backN p l a else a + 1 from rfl] at h1
    split at h1
    · by_cases he : i = a
      · subst he; assumption
      · exact ih i h1 (by omega)
    · omega
theorem backN_end (p : UInt8 → Bool) (l : List UInt8) : ∀ a j, backN p l a = j + 1 → p (l.getD j 0) = false := by
  intro a
  induction a with
  | zero => intro j h; cases h
  | succ a ih =>
    intro j h
    rw [show backN p l (a + 1) = if p (l.getD a 0) then backN p l a else a + 1 from rfl] at h
    split at h
    · exact ih j h
    · rename_i hn
      obtain rfl : a = j := by omega
      cases hh : p (l.getD a 0) with
      | true => exact absurd hh hn
      | false => rfl
theorem noW (c : UInt8) : (noWordB c = true ↔ wordB c = false) ∧ (noWordB c = false ↔ wordB c = true) := by
  unfold noWordB; cases wordB c <;> simp
end Go.Gim
namespace Go.Proofs.Ytmecdhbiinpepaa
open Go.RowKit Go.Gim

theorem words_facts (s : ByteArray) (k : Nat) (hk : k ≤ s.size) :
    ∃ r q : Nat, stepN s.data.toList k 10 = r ∧ stepN s.data.toList k 9 = q ∧ k ≤ r ∧ r ≤ s.size ∧ q ≤ k ∧
      (∀ h : r < s.size, wordB s[r] = false ∧ ∃ r', r = r' + 1 ∧ k ≤ r' ∧ ∃ h' : r' < s.size, wordB s[r'] = true) ∧
      (0 < q → ∃ q', q = q' + 1 ∧ q < k ∧ (∃ h' : q' < s.size, wordB s[q'] = false) ∧ ∃ h : q < s.size, wordB s[q] = true) ∧
      (∀ (i : Nat) (h : i + 1 < s.size), k ≤ i → i + 1 < r → wordB (s[i]'(by omega)) = false ∨ wordB s[i + 1] = true) ∧
      (∀ (i : Nat) (h : i + 1 < s.size), q ≤ i → i + 1 < k → wordB (s[i]'(by omega)) = true ∨ wordB s[i + 1] = false) := by
  have hl : s.data.toList.length = s.size := rfl
  obtain ⟨b, hb⟩ : ∃ b, b = fwdN noWordB s.data.toList k := ⟨_, rfl⟩
  obtain ⟨c, hc⟩ : ∃ c, c = backN noWordB s.data.toList k := ⟨_, rfl⟩
  have hbk : k ≤ b := by rw [hb]; exact fwdN_ge _ _ _
  have hbl : b ≤ s.size := by rw [hb, ← hl]; exact fwdN_le _ _ _ (by omega)
  have hck : c ≤ k := by rw [hc]; exact backN_le _ _ _
  have hbr := fwdN_ge wordB s.data.toList b
  have hrl := fwdN_le wordB s.data.toList b (by omega)
  have hqc := backN_le wordB s.data.toList c
  have hr0 : stepN s.data.toList k 10 = fwdN wordB s.data.toList b := by rw [hb]; rfl
  have hq0 : stepN s.data.toList k 9 = backN wordB s.data.toList c := by rw [hc]; rfl
  refine ⟨_, _, hr0, hq0, by omega, by omega, by omega, fun h => ?_, fun h => ?_, fun i h h1 h2 => ?_, fun i h h1 h2 => ?_⟩
  · have e1 := fwdN_end wordB s.data.toList _ b (Nat.le_refl _) (by omega)
    rw [getD_s s _ h] at e1
    refine ⟨e1, ?_⟩
    have hb2 : b < s.size := by omega
    have e2 := fwdN_end noWordB s.data.toList _ k (Nat.le_refl _) (by rw [← hb]; omega)
    rw [← hb, getD_s s b hb2, (noW _).2] at e2
    have e3 : b < fwdN wordB s.data.toList b := by
      rw [fwdN_in wordB s.data.toList b (by omega) (by rw [toList_get s b hb2]; exact e2)]
      have := fwdN_ge wordB s.data.toList (b + 1); omega
    refine ⟨fwdN wordB s.data.toList b - 1, by omega, by omega, by omega, ?_⟩
    have := fwdN_all wordB s.data.toList _ b (fwdN wordB s.data.toList b - 1) (Nat.le_refl _) (by omega) (by omega)
    rwa [getD_s s _ (by omega)] at this
  · obtain ⟨j, hj⟩ : ∃ j, backN wordB s.data.toList c = j + 1 := ⟨backN wordB s.data.toList c - 1, by omega⟩
    have e1 := backN_end wordB s.data.toList c j hj
    rw [getD_s s j (by omega)] at e1
    obtain ⟨d, hd⟩ : ∃ d, c = d + 1 := ⟨c - 1, by omega⟩
    have e2 := backN_end noWordB s.data.toList k d (by rw [← hc]; exact hd)
    rw [getD_s s d (by omega), (noW _).2] at e2
    have e3 : backN wordB s.data.toList c < c := by
      rw [hd, show backN wordB s.data.toList (d + 1) = if wordB (s.data.toList.getD d 0) then backN wordB s.data.toList d else d + 1 from rfl, getD_s s d (by omega), if_pos e2]
      have := backN_le wordB s.data.toList d; omega
    refine ⟨j, hj, by omega, ⟨by omega, e1⟩, by omega, ?_⟩
    have := backN_all wordB s.data.toList c (backN wordB s.data.toList c) (Nat.le_refl _) e3
    rwa [getD_s s _ (by omega)] at this
  · by_cases hib : i < b
    · left
      have := fwdN_all noWordB s.data.toList _ k i (Nat.le_refl _) h1 (by rw [← hb]; exact hib)
      rwa [getD_s s i (by omega), (noW _).1] at this
    · right
      have := fwdN_all wordB s.data.toList _ b (i + 1) (Nat.le_refl _) (by omega) h2
      rwa [getD_s s (i + 1) h] at this
  · by_cases hib : i < c
    · left
      have := backN_all wordB s.data.toList c i h1 hib
      rwa [getD_s s i (by omega)] at this
    · right
      have := backN_all noWordB s.data.toList k (i + 1) (by rw [← hc]; omega) h2
      rwa [getD_s s (i + 1) h, (noW _).1] at this

set_option maxHeartbeats 1600000 in
set_option maxRecDepth 1000000 in
theorem refWord9_any (c : UInt8) (w : World) : Calls Try.prog 28 #[.int .u8 c.toNat] w fun e w' => e = .returned (.bool (wordB c)) ∧ w' = w := by
  have hall : wordB c = (decide ((48 : Int) ≤ (c.toNat : Int)) && decide ((c.toNat : Int) ≤ 57) || decide ((65 : Int) ≤ (c.toNat : Int)) && decide ((c.toNat : Int) ≤ 90) || decide ((97 : Int) ≤ (c.toNat : Int)) && decide ((c.toNat : Int) ≤ 122) || ((c.toNat : Int) == 95) || decide ((128 : Int) ≤ (c.toNat : Int))) := by
    unfold wordB
    rw [Bool.eq_iff_iff]
    simp only [Bool.or_eq_true, Bool.and_eq_true, decide_eq_true_eq, beq_iff_eq]
    omega
  rw [hall]
  clear hall
  go_enter Try.func28, Try.ntmps28
  by_cases h1 : (48 : Int) ≤ (c.toNat : Int)
  · by_cases h2 : (c.toNat : Int) ≤ 57
    · go_wp2_with fail
      go_ret
      exact ⟨ret_bool (by simp [h1, h2]), rfl⟩
    · by_cases h3 : (65 : Int) ≤ (c.toNat : Int)
      · by_cases h4 : (c.toNat : Int) ≤ 90
        · go_wp2_with fail
          go_ret
          exact ⟨ret_bool (by simp <;> omega), rfl⟩
        · by_cases h5 : (97 : Int) ≤ (c.toNat : Int)
          · by_cases h6 : (c.toNat : Int) ≤ 122
            · go_wp2_with fail
              go_ret
              exact ⟨ret_bool (by simp <;> omega), rfl⟩
            · by_cases h7 : ((c.toNat : Int) == 95) = true
              · go_wp2_with fail
                go_ret
                exact ⟨ret_bool (by simp at h7 ⊢ <;> omega), rfl⟩
              · have h7' : ((c.toNat : Int) == 95) = false := by simpa using h7
                by_cases h8 : (128 : Int) ≤ (c.toNat : Int)
                · go_wp2_with fail
                  go_ret
                  exact ⟨ret_bool (by simp <;> omega), rfl⟩
                · go_wp2_with fail
                  go_ret
                  exact ⟨ret_bool (by simp at h7' ⊢ <;> omega), rfl⟩
          · by_cases h7 : ((c.toNat : Int) == 95) = true
            · go_wp2_with fail
              go_ret
              exact ⟨ret_bool (by simp at h7 ⊢ <;> omega), rfl⟩
            · have h7' : ((c.toNat : Int) == 95) = false := by simpa using h7
              by_cases h8 : (128 : Int) ≤ (c.toNat : Int)
              · go_wp2_with fail
                go_ret
                exact ⟨ret_bool (by simp <;> omega), rfl⟩
              · go_wp2_with fail
                go_ret
                exact ⟨ret_bool (by simp at h7' ⊢ <;> omega), rfl⟩
      · by_cases h5 : (97 : Int) ≤ (c.toNat : Int)
        · by_cases h6 : (c.toNat : Int) ≤ 122
          · go_wp2_with fail
            go_ret
            exact ⟨ret_bool (by simp <;> omega), rfl⟩
          · by_cases h7 : ((c.toNat : Int) == 95) = true
            · go_wp2_with fail
              go_ret
              exact ⟨ret_bool (by simp at h7 ⊢ <;> omega), rfl⟩
            · have h7' : ((c.toNat : Int) == 95) = false := by simpa using h7
              by_cases h8 : (128 : Int) ≤ (c.toNat : Int)
              · go_wp2_with fail
                go_ret
                exact ⟨ret_bool (by simp <;> omega), rfl⟩
              · go_wp2_with fail
                go_ret
                exact ⟨ret_bool (by simp at h7' ⊢ <;> omega), rfl⟩
        · by_cases h7 : ((c.toNat : Int) == 95) = true
          · go_wp2_with fail
            go_ret
            exact ⟨ret_bool (by simp at h7 ⊢ <;> omega), rfl⟩
          · have h7' : ((c.toNat : Int) == 95) = false := by simpa using h7
            by_cases h8 : (128 : Int) ≤ (c.toNat : Int)
            · go_wp2_with fail
              go_ret
              exact ⟨ret_bool (by simp <;> omega), rfl⟩
            · go_wp2_with fail
              go_ret
              exact ⟨ret_bool (by simp at h7' ⊢ <;> omega), rfl⟩
  · by_cases h3 : (65 : Int) ≤ (c.toNat : Int)
    · by_cases h4 : (c.toNat : Int) ≤ 90
      · go_wp2_with fail
        go_ret
        exact ⟨ret_bool (by simp <;> omega), rfl⟩
      · by_cases h5 : (97 : Int) ≤ (c.toNat : Int)
        · by_cases h6 : (c.toNat : Int) ≤ 122
          · go_wp2_with fail
            go_ret
            exact ⟨ret_bool (by simp <;> omega), rfl⟩
          · by_cases h7 : ((c.toNat : Int) == 95) = true
            · go_wp2_with fail
              go_ret
              exact ⟨ret_bool (by simp at h7 ⊢ <;> omega), rfl⟩
            · have h7' : ((c.toNat : Int) == 95) = false := by simpa using h7
              by_cases h8 : (128 : Int) ≤ (c.toNat : Int)
              · go_wp2_with fail
                go_ret
                exact ⟨ret_bool (by simp <;> omega), rfl⟩
              · go_wp2_with fail
                go_ret
                exact ⟨ret_bool (by simp at h7' ⊢ <;> omega), rfl⟩
        · by_cases h7 : ((c.toNat : Int) == 95) = true
          · go_wp2_with fail
            go_ret
            exact ⟨ret_bool (by simp at h7 ⊢ <;> omega), rfl⟩
          · have h7' : ((c.toNat : Int) == 95) = false := by simpa using h7
            by_cases h8 : (128 : Int) ≤ (c.toNat : Int)
            · go_wp2_with fail
              go_ret
              exact ⟨ret_bool (by simp <;> omega), rfl⟩
            · go_wp2_with fail
              go_ret
              exact ⟨ret_bool (by simp at h7' ⊢ <;> omega), rfl⟩
    · by_cases h5 : (97 : Int) ≤ (c.toNat : Int)
      · by_cases h6 : (c.toNat : Int) ≤ 122
        · go_wp2_with fail
          go_ret
          exact ⟨ret_bool (by simp <;> omega), rfl⟩
        · by_cases h7 : ((c.toNat : Int) == 95) = true
          · go_wp2_with fail
            go_ret
            exact ⟨ret_bool (by simp at h7 ⊢ <;> omega), rfl⟩
          · have h7' : ((c.toNat : Int) == 95) = false := by simpa using h7
            by_cases h8 : (128 : Int) ≤ (c.toNat : Int)
            · go_wp2_with fail
              go_ret
              exact ⟨ret_bool (by simp <;> omega), rfl⟩
            · go_wp2_with fail
              go_ret
              exact ⟨ret_bool (by simp at h7' ⊢ <;> omega), rfl⟩
      · by_cases h7 : ((c.toNat : Int) == 95) = true
        · go_wp2_with fail
          go_ret
          exact ⟨ret_bool (by simp at h7 ⊢ <;> omega), rfl⟩
        · have h7' : ((c.toNat : Int) == 95) = false := by simpa using h7
          by_cases h8 : (128 : Int) ≤ (c.toNat : Int)
          · go_wp2_with fail
            go_ret
            exact ⟨ret_bool (by simp <;> omega), rfl⟩
          · go_wp2_with fail
            go_ret
            exact ⟨ret_bool (by simp at h7' ⊢ <;> omega), rfl⟩

set_option maxHeartbeats 6400000 in
set_option maxRecDepth 1000000 in
theorem stepWords_any (w : World) (s : ByteArray) (f : Int) (hs : s.size ≤ 200) :
    Calls Try.prog 11 #[.string s, .int .i64 f] w fun e w' => e = .returned (.bool true) ∧ Ext w w' := by
  have j1 : ¬ (200 : Int) < (s.size : Int) := by omega
  obtain ⟨k, hk, L1⟩ := low9 f (s.size + 1) ((s.size : Int) + 1) (by omega) (by omega) (by omega)
  have L1 := Lib.hid L1
  go_enter Try.func11, Try.ntmps11
  go_wp2_with fail
  refine (of9_any s _ (by omega)).mono ?_
  rintro e u1 ⟨R, rfl, hR, htx, hx, _⟩
  have ha' : Ext u1 (u1.alloc (.cells #[.pointer (some ⟨R.rb, 0, none⟩)] 35)) := (Mod.refl _ u1).alloc _
  have hRa := hR.ext ha'
  have hxa := hx.ext_trans ha'
  obtain ⟨r, q, e1, e2, q1, q2, q3, F1, F2, F3, F4⟩ := words_facts s k (by omega)
  have S1 := fun v (hv : RopeAt v R) => step_yes R s k 10 v hv htx (by omega) (by omega) (by omega)
  have S2 := fun v (hv : RopeAt v R) => step_yes R s k 9 v hv htx (by omega) (by omega) (by omega)
  rw [e1] at S1
  rw [e2] at S2
  have S1 := Lib.hid S1
  have S2 := Lib.hid S2
  have F3 := Lib.hid F3
  have F4 := Lib.hid F4
  have F1' := Lib.hid F1
  have F2' := Lib.hid F2
  clear e1 e2 htx F1 F2
  go_wp2_with fail
  refine (L1.out _).mono ?_
  rintro e w1 ⟨rfl, rfl⟩
  go_wp2_with fail
  refine (S1.out _ hRa).mono ?_
  rintro e u2 ⟨rfl, y⟩
  have c := box_cell y
  go_wp2_with fail
  refine (S2.out _ (hRa.ext y)).mono ?_
  rintro e u3 ⟨rfl, y'⟩
  replace y := y.ext_trans y'
  clear c y'
  have k1 : ¬ (r : Int) < (k : Int) := by omega
  have k2 : ¬ (s.size : Int) < (r : Int) := by omega
  have k3 : ¬ (k : Int) < (q : Int) := by omega
  have k4 : (0 : Int) ≤ (q : Int) := by omega
  by_cases hr : r < s.size
  · obtain ⟨g1, r', rfl, g2, g3, g4⟩ := F1'.out hr
    have l1 : (r' : Int) + 1 < (s.size : Int) := by omega
    have l2 : (r' : Int) < (s.size : Int) := by omega
    have l3 : (0 : Int) ≤ (r' : Int) := by omega
    have l4 : ((r' : Int) + 1 == (k : Int)) = false := by simp; omega
    have G1 := Lib.hid g1
    have G4 := Lib.hid g4
    clear g1 g4
    by_cases hq : 0 < q
    · obtain ⟨q', rfl, g5, ⟨g6, g7⟩, g8, g9⟩ := F2'.out hq
      have m1 : (q' : Int) < (s.size : Int) := by omega
      have m2 : (0 : Int) ≤ (q' : Int) := by omega
      have m3 : (q' : Int) + 1 < (s.size : Int) := by omega
      have m4 : ((q' : Int) + 1 == (k : Int)) = false := by simp; omega
      have m5 : (0 : Int) < (q' : Int) + 1 := by omega
      have G7 := Lib.hid g7
      have G9 := Lib.hid g9
      clear g7 g9
      go_wp2_with fail
      refine (refWord9_any s[r' + 1] _).mono ?_
      rintro e v1 ⟨rfl, rfl⟩
      rw [G1.out]
      go_wp2_with fail
      refine (refWord9_any s[q'] _).mono ?_
      rintro e v1 ⟨rfl, rfl⟩
      rw [G7.out]
      go_wp2_with fail
      refine (refWord9_any s[r'] _).mono ?_
      rintro e v1 ⟨rfl, rfl⟩
      rw [G4.out]
      go_wp2_with fail
      refine (refWord9_any s[q' + 1] _).mono ?_
      rintro e v1 ⟨rfl, rfl⟩
      rw [G9.out]
      go_wp2_with fail
      go_loop [12] (fun i => ∃ n : Nat, k ≤ n ∧ n ≤ 1000 ∧ i = .int .i64 n) (fun i => 2000 - (intOf i).toNat)
      case atStart => exact ⟨k, by omega, by omega, rfl⟩
      case round =>
        obtain ⟨n, hn, hn2, rfl⟩ := hrel
        by_cases hlt : n + 1 < r' + 1
        · have n1 : (n : Int) + 1 < ((r' + 1 : Nat) : Int) := by omega
          have n1' : (n : Int) + 1 < (s.size : Int) := by omega
          have n2 : (0 : Int) ≤ (n : Int) := by omega
          have n3 : (n : Int) < (s.size : Int) := by omega
          have n4 : n < s.size := by omega
          have n5 : n + 1 < s.size := by omega
          have hor := F3.out n n5 hn hlt
          cases hb : wordB s[n] with
          | false =>
            have Hb := Lib.hid hb
            clear hb hor
            go_wp2_with fail
            refine (refWord9_any s[n] _).mono ?_
            rintro e v1 ⟨rfl, rfl⟩
            rw [Hb.out]
            go_wp2_with fail
            go_round
            case rel => exact ⟨n + 1, by omega, by omega, by go_num⟩
            case measure => simp [intOf] <;> omega
          | true =>
            have hb2 : wordB s[n + 1] = true := by
              rcases hor with h | h
              · rw [hb] at h; cases h
              · exact h
            have Hb := Lib.hid hb
            have Hb2 := Lib.hid hb2
            clear hb hb2 hor
            go_wp2_with fail
            refine (refWord9_any s[n] _).mono ?_
            rintro e v1 ⟨rfl, rfl⟩
            rw [Hb.out]
            go_wp2_with fail
            refine (refWord9_any s[n + 1] _).mono ?_
            rintro e v1 ⟨rfl, rfl⟩
            rw [Hb2.out]
            go_wp2_with fail
            go_round
            case rel => exact ⟨n + 1, by omega, by omega, by go_num⟩
            case measure => simp [intOf] <;> omega
        · have n1 : ¬ (n : Int) + 1 < ((r' + 1 : Nat) : Int) := by omega
          go_wp2_with fail
          go_loop [13] (fun i => ∃ n : Nat, q' + 1 ≤ n ∧ n ≤ 1000 ∧ i = .int .i64 n) (fun i => 2000 - (intOf i).toNat)
          case atStart => exact ⟨q' + 1, by omega, by omega, by first | rfl | go_num⟩
          case round =>
            obtain ⟨m, hm, hm2, rfl⟩ := hrel
            by_cases hmt : m + 1 < k
            · have p1 : (m : Int) + 1 < (k : Int) := by omega
              have p1' : (m : Int) + 1 < (s.size : Int) := by omega
              have p2 : (0 : Int) ≤ (m : Int) := by omega
              have p3 : (m : Int) < (s.size : Int) := by omega
              have p4 : m < s.size := by omega
              have p5 : m + 1 < s.size := by omega
              have hor := F4.out m p5 hm hmt
              cases hb : wordB s[m] with
              | true =>
                have Hb := Lib.hid hb
                clear hb hor
                go_wp2_with fail
                refine (refWord9_any s[m] _).mono ?_
                rintro e v1 ⟨rfl, rfl⟩
                rw [Hb.out]
                go_wp2_with fail
                go_round
                case rel => exact ⟨m + 1, by omega, by omega, by go_num⟩
                case measure => simp [intOf] <;> omega
              | false =>
                have hb2 : wordB s[m + 1] = false := by
                  rcases hor with h | h
                  · rw [hb] at h; cases h
                  · exact h
                have Hb := Lib.hid hb
                have Hb2 := Lib.hid hb2
                clear hb hb2 hor
                go_wp2_with fail
                refine (refWord9_any s[m] _).mono ?_
                rintro e v1 ⟨rfl, rfl⟩
                rw [Hb.out]
                go_wp2_with fail
                refine (refWord9_any s[m + 1] _).mono ?_
                rintro e v1 ⟨rfl, rfl⟩
                rw [Hb2.out]
                go_wp2_with fail
                go_round
                case rel => exact ⟨m + 1, by omega, by omega, by go_num⟩
                case measure => simp [intOf] <;> omega
            · have p1 : ¬ (m : Int) + 1 < (k : Int) := by omega
              go_wp2_with fail
              refine (awake9_any _).mono ?_
              rintro e v3 ⟨rfl, y'⟩
              go_wp2_with fail
              go_ret
              exact ⟨rfl, (hxa.ext_trans y).ext_trans y'⟩
    · obtain rfl : q = 0 := by omega
      go_wp2_with fail
      refine (refWord9_any s[r' + 1] _).mono ?_
      rintro e v1 ⟨rfl, rfl⟩
      rw [G1.out]
      go_wp2_with fail
      refine (refWord9_any s[r'] _).mono ?_
      rintro e v1 ⟨rfl, rfl⟩
      rw [G4.out]
      go_wp2_with fail
      go_loop [12] (fun i => ∃ n : Nat, k ≤ n ∧ n ≤ 1000 ∧ i = .int .i64 n) (fun i => 2000 - (intOf i).toNat)
      case atStart => exact ⟨k, by omega, by omega, rfl⟩
      case round =>
        obtain ⟨n, hn, hn2, rfl⟩ := hrel
        by_cases hlt : n + 1 < r' + 1
        · have n1 : (n : Int) + 1 < ((r' + 1 : Nat) : Int) := by omega
          have n1' : (n : Int) + 1 < (s.size : Int) := by omega
          have n2 : (0 : Int) ≤ (n : Int) := by omega
          have n3 : (n : Int) < (s.size : Int) := by omega
          have n4 : n < s.size := by omega
          have n5 : n + 1 < s.size := by omega
          have hor := F3.out n n5 hn hlt
          cases hb : wordB s[n] with
          | false =>
            have Hb := Lib.hid hb
            clear hb hor
            go_wp2_with fail
            refine (refWord9_any s[n] _).mono ?_
            rintro e v1 ⟨rfl, rfl⟩
            rw [Hb.out]
            go_wp2_with fail
            go_round
            case rel => exact ⟨n + 1, by omega, by omega, by go_num⟩
            case measure => simp [intOf] <;> omega
          | true =>
            have hb2 : wordB s[n + 1] = true := by
              rcases hor with h | h
              · rw [hb] at h; cases h
              · exact h
            have Hb := Lib.hid hb
            have Hb2 := Lib.hid hb2
            clear hb hb2 hor
            go_wp2_with fail
            refine (refWord9_any s[n] _).mono ?_
            rintro e v1 ⟨rfl, rfl⟩
            rw [Hb.out]
            go_wp2_with fail
            refine (refWord9_any s[n + 1] _).mono ?_
            rintro e v1 ⟨rfl, rfl⟩
            rw [Hb2.out]
            go_wp2_with fail
            go_round
            case rel => exact ⟨n + 1, by omega, by omega, by go_num⟩
            case measure => simp [intOf] <;> omega
        · have n1 : ¬ (n : Int) + 1 < ((r' + 1 : Nat) : Int) := by omega
          go_wp2_with fail
          go_loop [13] (fun i => ∃ n : Nat, 0 ≤ n ∧ n ≤ 1000 ∧ i = .int .i64 n) (fun i => 2000 - (intOf i).toNat)
          case atStart => exact ⟨0, by omega, by omega, by first | rfl | go_num⟩
          case round =>
            obtain ⟨m, hm, hm2, rfl⟩ := hrel
            by_cases hmt : m + 1 < k
            · have p1 : (m : Int) + 1 < (k : Int) := by omega
              have p1' : (m : Int) + 1 < (s.size : Int) := by omega
              have p2 : (0 : Int) ≤ (m : Int) := by omega
              have p3 : (m : Int) < (s.size : Int) := by omega
              have p4 : m < s.size := by omega
              have p5 : m + 1 < s.size := by omega
              have hor := F4.out m p5 hm hmt
              cases hb : wordB s[m] with
              | true =>
                have Hb := Lib.hid hb
                clear hb hor
                go_wp2_with fail
                refine (refWord9_any s[m] _).mono ?_
                rintro e v1 ⟨rfl, rfl⟩
                rw [Hb.out]
                go_wp2_with fail
                go_round
                case rel => exact ⟨m + 1, by omega, by omega, by go_num⟩
                case measure => simp [intOf] <;> omega
              | false =>
                have hb2 : wordB s[m + 1] = false := by
                  rcases hor with h | h
                  · rw [hb] at h; cases h
                  · exact h
                have Hb := Lib.hid hb
                have Hb2 := Lib.hid hb2
                clear hb hb2 hor
                go_wp2_with fail
                refine (refWord9_any s[m] _).mono ?_
                rintro e v1 ⟨rfl, rfl⟩
                rw [Hb.out]
                go_wp2_with fail
                refine (refWord9_any s[m + 1] _).mono ?_
                rintro e v1 ⟨rfl, rfl⟩
                rw [Hb2.out]
                go_wp2_with fail
                go_round
                case rel => exact ⟨m + 1, by omega, by omega, by go_num⟩
                case measure => simp [intOf] <;> omega
            · have p1 : ¬ (m : Int) + 1 < (k : Int) := by omega
              go_wp2_with fail
              refine (awake9_any _).mono ?_
              rintro e v3 ⟨rfl, y'⟩
              go_wp2_with fail
              go_ret
              exact ⟨rfl, (hxa.ext_trans y).ext_trans y'⟩
  · obtain rfl : r = s.size := by omega
    have n1 : ¬ s.size < k := by omega
    have n2 : ¬ (k : Int) < 0 := by omega
    by_cases hq : 0 < q
    · obtain ⟨q', rfl, g5, ⟨g6, g7⟩, g8, g9⟩ := F2'.out hq
      have m1 : (q' : Int) < (s.size : Int) := by omega
      have m2 : (0 : Int) ≤ (q' : Int) := by omega
      have m3 : (q' : Int) + 1 < (s.size : Int) := by omega
      have m4 : ((q' : Int) + 1 == (k : Int)) = false := by simp; omega
      have m5 : (0 : Int) < (q' : Int) + 1 := by omega
      have G7 := Lib.hid g7
      have G9 := Lib.hid g9
      clear g7 g9
      go_wp2_with fail
      refine (refWord9_any s[q'] _).mono ?_
      rintro e v1 ⟨rfl, rfl⟩
      rw [G7.out]
      go_wp2_with fail
      refine (refWord9_any s[q' + 1] _).mono ?_
      rintro e v1 ⟨rfl, rfl⟩
      rw [G9.out]
      go_wp2_with fail
      go_loop [12] (fun i => ∃ n : Nat, k ≤ n ∧ n ≤ 1000 ∧ i = .int .i64 n) (fun i => 2000 - (intOf i).toNat)
      case atStart => exact ⟨k, by omega, by omega, rfl⟩
      case round =>
        obtain ⟨n, hn, hn2, rfl⟩ := hrel
        by_cases hlt : n + 1 < s.size
        · have n1 : (n : Int) + 1 < ((s.size : Nat) : Int) := by omega
          have n1' : (n : Int) + 1 < (s.size : Int) := by omega
          have n2 : (0 : Int) ≤ (n : Int) := by omega
          have n3 : (n : Int) < (s.size : Int) := by omega
          have n4 : n < s.size := by omega
          have n5 : n + 1 < s.size := by omega
          have hor := F3.out n n5 hn hlt
          cases hb : wordB s[n] with
          | false =>
            have Hb := Lib.hid hb
            clear hb hor
            go_wp2_with fail
            refine (refWord9_any s[n] _).mono ?_
            rintro e v1 ⟨rfl, rfl⟩
            rw [Hb.out]
            go_wp2_with fail
            go_round
            case rel => exact ⟨n + 1, by omega, by omega, by go_num⟩
            case measure => simp [intOf] <;> omega
          | true =>
            have hb2 : wordB s[n + 1] = true := by
              rcases hor with h | h
              · rw [hb] at h; cases h
              · exact h
            have Hb := Lib.hid hb
            have Hb2 := Lib.hid hb2
            clear hb hb2 hor
            go_wp2_with fail
            refine (refWord9_any s[n] _).mono ?_
            rintro e v1 ⟨rfl, rfl⟩
            rw [Hb.out]
            go_wp2_with fail
            refine (refWord9_any s[n + 1] _).mono ?_
            rintro e v1 ⟨rfl, rfl⟩
            rw [Hb2.out]
            go_wp2_with fail
            go_round
            case rel => exact ⟨n + 1, by omega, by omega, by go_num⟩
            case measure => simp [intOf] <;> omega
        · have n1 : ¬ (n : Int) + 1 < ((s.size : Nat) : Int) := by omega
          go_wp2_with fail
          go_loop [13] (fun i => ∃ n : Nat, q' + 1 ≤ n ∧ n ≤ 1000 ∧ i = .int .i64 n) (fun i => 2000 - (intOf i).toNat)
          case atStart => exact ⟨q' + 1, by omega, by omega, by first | rfl | go_num⟩
          case round =>
            obtain ⟨m, hm, hm2, rfl⟩ := hrel
            by_cases hmt : m + 1 < k
            · have p1 : (m : Int) + 1 < (k : Int) := by omega
              have p1' : (m : Int) + 1 < (s.size : Int) := by omega
              have p2 : (0 : Int) ≤ (m : Int) := by omega
              have p3 : (m : Int) < (s.size : Int) := by omega
              have p4 : m < s.size := by omega
              have p5 : m + 1 < s.size := by omega
              have hor := F4.out m p5 hm hmt
              cases hb : wordB s[m] with
              | true =>
                have Hb := Lib.hid hb
                clear hb hor
                go_wp2_with fail
                refine (refWord9_any s[m] _).mono ?_
                rintro e v1 ⟨rfl, rfl⟩
                rw [Hb.out]
                go_wp2_with fail
                go_round
                case rel => exact ⟨m + 1, by omega, by omega, by go_num⟩
                case measure => simp [intOf] <;> omega
              | false =>
                have hb2 : wordB s[m + 1] = false := by
                  rcases hor with h | h
                  · rw [hb] at h; cases h
                  · exact h
                have Hb := Lib.hid hb
                have Hb2 := Lib.hid hb2
                clear hb hb2 hor
                go_wp2_with fail
                refine (refWord9_any s[m] _).mono ?_
                rintro e v1 ⟨rfl, rfl⟩
                rw [Hb.out]
                go_wp2_with fail
                refine (refWord9_any s[m + 1] _).mono ?_
                rintro e v1 ⟨rfl, rfl⟩
                rw [Hb2.out]
                go_wp2_with fail
                go_round
                case rel => exact ⟨m + 1, by omega, by omega, by go_num⟩
                case measure => simp [intOf] <;> omega
            · have p1 : ¬ (m : Int) + 1 < (k : Int) := by omega
              go_wp2_with fail
              refine (awake9_any _).mono ?_
              rintro e v3 ⟨rfl, y'⟩
              go_wp2_with fail
              go_ret
              exact ⟨rfl, (hxa.ext_trans y).ext_trans y'⟩
    · obtain rfl : q = 0 := by omega
      go_wp2_with fail
      go_loop [12] (fun i => ∃ n : Nat, k ≤ n ∧ n ≤ 1000 ∧ i = .int .i64 n) (fun i => 2000 - (intOf i).toNat)
      case atStart => exact ⟨k, by omega, by omega, rfl⟩
      case round =>
        obtain ⟨n, hn, hn2, rfl⟩ := hrel
        by_cases hlt : n + 1 < s.size
        · have n1 : (n : Int) + 1 < ((s.size : Nat) : Int) := by omega
          have n1' : (n : Int) + 1 < (s.size : Int) := by omega
          have n2 : (0 : Int) ≤ (n : Int) := by omega
          have n3 : (n : Int) < (s.size : Int) := by omega
          have n4 : n < s.size := by omega
          have n5 : n + 1 < s.size := by omega
          have hor := F3.out n n5 hn hlt
          cases hb : wordB s[n] with
          | false =>
            have Hb := Lib.hid hb
            clear hb hor
            go_wp2_with fail
            refine (refWord9_any s[n] _).mono ?_
            rintro e v1 ⟨rfl, rfl⟩
            rw [Hb.out]
            go_wp2_with fail
            go_round
            case rel => exact ⟨n + 1, by omega, by omega, by go_num⟩
            case measure => simp [intOf] <;> omega
          | true =>
            have hb2 : wordB s[n + 1] = true := by
              rcases hor with h | h
              · rw [hb] at h; cases h
              · exact h
            have Hb := Lib.hid hb
            have Hb2 := Lib.hid hb2
            clear hb hb2 hor
            go_wp2_with fail
            refine (refWord9_any s[n] _).mono ?_
            rintro e v1 ⟨rfl, rfl⟩
            rw [Hb.out]
            go_wp2_with fail
            refine (refWord9_any s[n + 1] _).mono ?_
            rintro e v1 ⟨rfl, rfl⟩
            rw [Hb2.out]
            go_wp2_with fail
            go_round
            case rel => exact ⟨n + 1, by omega, by omega, by go_num⟩
            case measure => simp [intOf] <;> omega
        · have n1 : ¬ (n : Int) + 1 < ((s.size : Nat) : Int) := by omega
          go_wp2_with fail
          go_loop [13] (fun i => ∃ n : Nat, 0 ≤ n ∧ n ≤ 1000 ∧ i = .int .i64 n) (fun i => 2000 - (intOf i).toNat)
          case atStart => exact ⟨0, by omega, by omega, by first | rfl | go_num⟩
          case round =>
            obtain ⟨m, hm, hm2, rfl⟩ := hrel
            by_cases hmt : m + 1 < k
            · have p1 : (m : Int) + 1 < (k : Int) := by omega
              have p1' : (m : Int) + 1 < (s.size : Int) := by omega
              have p2 : (0 : Int) ≤ (m : Int) := by omega
              have p3 : (m : Int) < (s.size : Int) := by omega
              have p4 : m < s.size := by omega
              have p5 : m + 1 < s.size := by omega
              have hor := F4.out m p5 hm hmt
              cases hb : wordB s[m] with
              | true =>
                have Hb := Lib.hid hb
                clear hb hor
                go_wp2_with fail
                refine (refWord9_any s[m] _).mono ?_
                rintro e v1 ⟨rfl, rfl⟩
                rw [Hb.out]
                go_wp2_with fail
                go_round
                case rel => exact ⟨m + 1, by omega, by omega, by go_num⟩
                case measure => simp [intOf] <;> omega
              | false =>
                have hb2 : wordB s[m + 1] = false := by
                  rcases hor with h | h
                  · rw [hb] at h; cases h
                  · exact h
                have Hb := Lib.hid hb
                have Hb2 := Lib.hid hb2
                clear hb hb2 hor
                go_wp2_with fail
                refine (refWord9_any s[m] _).mono ?_
                rintro e v1 ⟨rfl, rfl⟩
                rw [Hb.out]
                go_wp2_with fail
                refine (refWord9_any s[m + 1] _).mono ?_
                rintro e v1 ⟨rfl, rfl⟩
                rw [Hb2.out]
                go_wp2_with fail
                go_round
                case rel => exact ⟨m + 1, by omega, by omega, by go_num⟩
                case measure => simp [intOf] <;> omega
            · have p1 : ¬ (m : Int) + 1 < (k : Int) := by omega
              go_wp2_with fail
              refine (awake9_any _).mono ?_
              rintro e v3 ⟨rfl, y'⟩
              go_wp2_with fail
              go_ret
              exact ⟨rfl, (hxa.ext_trans y).ext_trans y'⟩

set_option maxHeartbeats 800000 in
set_option maxRecDepth 1000000 in
theorem stepWords_calls (w : World) (s : ByteArray) (ws : s.size ≤ 9223372036854775807) (f : Int) (wf : (Lit.int .i64 f).wf = true) :
    Calls Try.prog 11 #[.string s, .int .i64 f] w fun e w' => e = .returned (.bool true) ∧ Ext w w' := by
  clear ws wf
  by_cases h1 : s.size ≤ 200
  · exact stepWords_any w s f h1
  · have j1 : (200 : Int) < (s.size : Int) := by omega
    go_enter Try.func11, Try.ntmps11
    go_wp2_with fail
    refine (awake9_any _).mono ?_
    rintro e w1 ⟨rfl, hx⟩
    go_wp2_with fail
    go_ret
    exact ⟨rfl, hx⟩

end Go.Proofs.Ytmecdhbiinpepaa

/- GoRight from the top, again and again, comes to the end by as many steps as there are characters; GoWordR comes there, too: the plain law and the walk. Conditions: none. -/
import Derived.Test.YtmecdhbiinpepaaGimStepBack
namespace Go.Gim
/-- How many characters begin among the first bytes. -/
def stops (l : List UInt8) : Nat → Nat
  | 0 => 0
  | k + 1 => stops l k + if k = 0 ∨ inB (l.getD k 0) = false then 1 else 0
theorem stops_mono (l : List UInt8) : ∀ b a, a ≤ b → stops l a ≤ stops l b := by
  intro b
  induction b with
  | zero => intro a h; obtain rfl : a = 0 := by omega
            exact Nat.le_refl _
  | succ b ih =>
    intro a h
    by_cases he : a = b + 1
    · rw [he]; exact Nat.le_refl _
    · have := ih a (by omega)
      simp only [stops]; omega
theorem stops_le (l : List UInt8) : ∀ k, stops l k ≤ k
  | 0 => Nat.le_refl _
  | k + 1 => by
    have := stops_le l k
    simp only [stops]
    split <;> omega
theorem stops_same (l : List UInt8) : ∀ n a, 0 < a → (∀ i, a ≤ i → i < a + n → inB (l.getD i 0) = true) → stops l (a + n) = stops l a := by
  intro n
  induction n with
  | zero => intro a _ _; rfl
  | succ n ih =>
    intro a h0 h
    rw [show a + (n + 1) = (a + n) + 1 from rfl]
    simp only [stops]
    have := h (a + n) (by omega) (by omega)
    rw [if_neg (by rw [this]; simp; omega), ih a h0 (fun i h1 h2 => h i h1 (by omega)), Nat.add_zero]
/-- Is a place one where a character begins, or the end? -/
def atStop (l : List UInt8) (a : Nat) : Prop := a = 0 ∨ a = l.length ∨ inB (l.getD a 0) = false
theorem stops_right (l : List UInt8) (a : Nat) (ha : a < l.length) (hs : atStop l a) : stops l (rightN l a) = stops l a + 1 ∧ atStop l (rightN l a) ∧ rightN l a ≤ l.length := by
  have hr : rightN l a = fwdN inB l (a + 1) := by unfold rightN; rw [if_pos ha]
  have hge := fwdN_ge inB l (a + 1)
  have hle := fwdN_le inB l (a + 1) (by omega)
  rw [hr]
  refine ⟨?_, ?_, hle⟩
  · have e := stops_same l (fwdN inB l (a + 1) - (a + 1)) (a + 1) (by omega) (fun i h1 h2 => fwdN_all inB l _ (a + 1) i (Nat.le_refl _) h1 (by omega))
    rw [show a + 1 + (fwdN inB l (a + 1) - (a + 1)) = fwdN inB l (a + 1) from by omega] at e
    rw [e]
    simp only [stops]
    rw [if_pos]
    rcases hs with h | h | h
    · exact .inl h
    · omega
    · exact .inr h
  · by_cases h : fwdN inB l (a + 1) < l.length
    · exact .inr (.inr (fwdN_end inB l _ (a + 1) (Nat.le_refl _) h))
    · exact .inr (.inl (by omega))
theorem stops_full (l : List UInt8) (a : Nat) (ha : a ≤ l.length) (hs : atStop l a) (h : stops l a = stops l l.length) : a = l.length := by
  by_cases he : a < l.length
  · obtain ⟨h1, h2, h3⟩ := stops_right l a he hs
    have := stops_mono l _ _ h3
    omega
  · omega
theorem skip_sub (p q : UInt8 → Bool) (h : ∀ c, p c = true → q c = true) : ∀ l, skip p l ≤ skip q l
  | [] => Nat.le_refl _
  | c :: r => by
    have ih := skip_sub p q h r
    unfold skip at ih ⊢
    simp only [List.takeWhile_cons]
    by_cases hp : p c = true
    · rw [if_pos hp, if_pos (h c hp)]; simpa using ih
    · rw [if_neg hp]; simp
theorem inB_word (c : UInt8) (h : inB c = true) : wordB c = true := by
  simp only [inB, wordB, decide_eq_true_eq] at h ⊢; omega
theorem fwdN_sub (l : List UInt8) (a : Nat) : fwdN inB l a ≤ fwdN wordB l a := by
  have := skip_sub inB wordB inB_word (l.drop a)
  unfold fwdN; omega
/-- Word by word leads no less far than character by character. -/
theorem right_le_word (l : List UInt8) (a : Nat) : rightN l a ≤ wordRN l a := by
  unfold wordRN
  have g1 := fwdN_ge noWordB l a
  have g2 := fwdN_ge wordB l (fwdN noWordB l a)
  by_cases ha : a < l.length
  · have hr : rightN l a = fwdN inB l (a + 1) := by unfold rightN; rw [if_pos ha]
    have hs := fwdN_sub l (a + 1)
    rw [hr]
    cases hw : wordB l[a] with
    | true =>
      rw [fwdN_stop noWordB l a ha (by simp [noWordB, hw]), fwdN_in wordB l a ha hw]
      exact hs
    | false =>
      rw [fwdN_in noWordB l a ha (by simp [noWordB, hw])] at g1 g2 ⊢
      have g3 := fwdN_ge noWordB l (a + 1)
      by_cases h1 : a + 1 < l.length
      · cases hi : inB l[a + 1] with
        | true =>
          rw [fwdN_stop noWordB l (a + 1) h1 (by simp [noWordB, inB_word _ hi])]
          exact hs
        | false => rw [fwdN_stop inB l (a + 1) h1 hi]; omega
      · rw [fwdN_over inB l (a + 1) (by omega)]; omega
  · have hr : rightN l a = a := by unfold rightN; rw [if_neg ha]
    omega
theorem wordRN_mono (l : List UInt8) (a b : Nat) (h : a ≤ b) (hb : b ≤ l.length) : wordRN l a ≤ wordRN l b :=
  fwdN_mono _ _ _ _ _ (Nat.le_refl _) (fwdN_mono _ _ _ _ _ (Nat.le_refl _) h hb) (fwdN_le _ _ _ hb)
end Go.Gim
namespace Go.Proofs.Ytmecdhbiinpepaa
open Go.RowKit Go.Gim

theorem stops_byte (s : ByteArray) (k : Nat) (h : k < s.size) (hk : 0 < k) : stops s.data.toList (k + 1) = stops s.data.toList k + if inB s[k] = false then 1 else 0 := by
  simp only [stops]
  rw [getD_s s k h]
  congr 1
  by_cases hb : inB s[k] = false
  · rw [if_pos (.inr hb), if_pos hb]
  · rw [if_neg (by intro h; rcases h with h | h; omega; exact hb h), if_neg hb]

set_option maxHeartbeats 6400000 in
set_option maxRecDepth 1000000 in
theorem stepWalks_any (w : World) (s : ByteArray) (hs : s.size ≤ 120) :
    Calls Try.prog 8 #[.string s] w fun e w' => e = .returned (.bool true) ∧ Ext w w' := by
  have j1 : ¬ (120 : Int) < (s.size : Int) := by omega
  go_enter Try.func8, Try.ntmps8
  go_wp2_with fail
  refine (of9_any s _ (by omega)).mono ?_
  rintro e u1 ⟨R, rfl, hR, htx, hx, _⟩
  have ha' : Ext u1 (u1.alloc (.cells #[.pointer (some ⟨R.rb, 0, none⟩)] 35)) := (Mod.refl _ u1).alloc _
  have hRa := hR.ext ha'
  have hxa := hx.ext_trans ha'
  have Htx := Lib.hid htx
  clear htx
  go_wp2_with fail
  go_loop [5, 6] (fun c i => ∃ k m : Nat, k ≤ s.size ∧ m ≤ k ∧ i = .int .i64 k ∧ c = .int .i64 m ∧ Hid (m = stops s.data.toList k)) (fun _ i => s.size - (intOf i).toNat)
  case atStart => exact ⟨0, 0, by omega, by omega, rfl, rfl, Lib.hid rfl⟩
  case round =>
    obtain ⟨k, m, hk, hm, rfl, rfl, HM⟩ := hrel
    by_cases hlt : k < s.size
    · have k1 : (k : Int) < (s.size : Int) := by omega
      have k2 : (0 : Int) ≤ (k : Int) := by omega
      have k3 : (m : Int) ≤ 200 := by omega
      by_cases h0 : k = 0
      · subst h0
        have hst : m + 1 = stops s.data.toList (0 + 1) := by rw [HM.out]; simp [stops]
        have Hst := Lib.hid hst
        clear hst
        go_wp2_with fail
        go_round
        case rel => exact ⟨1, m + 1, by omega, by omega, by go_num, by go_num, Hst⟩
        case measure => simp [intOf] <;> omega
      · have h0' : ((k : Int) == 0) = false := by simp; omega
        have hst := stops_byte s k hlt (by omega)
        rw [← HM.out] at hst
        by_cases b1 : (s[k].toNat : Int) < 128
        · have hb : inB s[k] = false := by simp [inB]; omega
          rw [if_pos hb] at hst
          have Hst := Lib.hid hst.symm
          clear hst hb h0
          go_wp2_with fail
          go_round
          case rel => exact ⟨k + 1, m + 1, by omega, by omega, by go_num, by go_num, Hst⟩
          case measure => simp [intOf] <;> omega
        · have b1' : decide ((s[k].toNat : Int) < 128) = false := by simp; omega
          by_cases b2 : (191 : Int) < (s[k].toNat : Int)
          · have hb : inB s[k] = false := by simp [inB]; omega
            rw [if_pos hb] at hst
            have Hst := Lib.hid hst.symm
            clear hst hb h0
            go_wp2_with fail
            go_round
            case rel => exact ⟨k + 1, m + 1, by omega, by omega, by go_num, by go_num, Hst⟩
            case measure => simp [intOf] <;> omega
          · have hb : ¬ inB s[k] = false := by simp [inB]; omega
            rw [if_neg hb] at hst
            have Hst := Lib.hid hst.symm
            clear hst hb h0
            go_wp2_with fail
            go_round
            case rel => exact ⟨k + 1, m, by omega, by omega, by go_num, rfl, Hst⟩
            case measure => simp [intOf] <;> omega
    · have k1 : ¬ (k : Int) < (s.size : Int) := by omega
      obtain rfl : k = s.size := by omega
      go_wp2_with fail
      go_loopw [7, 8, 9] (fun p q i wr => ∃ j a b : Nat, j ≤ m ∧ a ≤ s.size ∧ b ≤ s.size ∧ i = .int .i64 j ∧ p = .int .i64 a ∧ q = .int .i64 b ∧ Hid (stops s.data.toList a = j ∧ atStop s.data.toList a ∧ a ≤ b) ∧ Ext (u1.alloc (.cells #[.pointer (some ⟨R.rb, 0, none⟩)] 35)) wr) (fun _ _ i _ => m - (intOf i).toNat)
      case atStart => exact ⟨0, 0, 0, by omega, by omega, by omega, rfl, rfl, rfl, Lib.hid ⟨rfl, .inl rfl, Nat.le_refl _⟩, Mod.refl _ _⟩
      case round =>
        obtain ⟨j, a, b, hj, ha, hb, rfl, rfl, rfl, HJ, y⟩ := hrel
        by_cases hjm : j < m
        · have l1 : (j : Int) < (m : Int) := by omega
          have hal : a < s.size := by
            rcases Nat.lt_or_ge a s.size with h | h
            · exact h
            · have e1 : a = s.size := by omega
              have := HJ.out.1
              rw [e1, ← HM.out] at this
              omega
          have l2 : ¬ (s.size : Int) ≤ (a : Int) := by omega
          obtain ⟨t1, t2, t3⟩ := stops_right s.data.toList a (by rw [toList_length]; exact hal) HJ.out.2.1
          rw [toList_length] at t3
          have t4 := right_le_word s.data.toList a
          have t5 := wordRN_mono s.data.toList a b HJ.out.2.2 (by rw [toList_length]; exact hb)
          have t6 := stepN_le s.data.toList b 10 (by rw [toList_length]; exact hb)
          have t7 := stepN_mono s.data.toList
          have t8 : b ≤ wordRN s.data.toList b := Nat.le_trans (fwdN_ge noWordB s.data.toList b) (fwdN_ge wordB _ _)
          rw [toList_length] at t6
          have S1 := fun v (hv : RopeAt v R) => step_yes R s a 2 v hv Htx.out ha (by omega) (by omega)
          have S2 := fun v (hv : RopeAt v R) => step_yes R s b 10 v hv Htx.out hb (by omega) (by omega)
          rw [show stepN s.data.toList a 2 = rightN s.data.toList a from rfl] at S1
          rw [show stepN s.data.toList b 10 = wordRN s.data.toList b from rfl] at S2 t6
          rw [HJ.out.1] at t1
          obtain ⟨a2, ea⟩ : ∃ a2, a2 = rightN s.data.toList a := ⟨_, rfl⟩
          obtain ⟨b2, eb⟩ : ∃ b2, b2 = wordRN s.data.toList b := ⟨_, rfl⟩
          rw [← ea] at S1 t1 t2 t3 t4
          rw [← eb] at S2 t5 t6 t8
          have HJ2 := Lib.hid (show stops s.data.toList a2 = j + 1 ∧ atStop s.data.toList a2 ∧ a2 ≤ b2 from ⟨t1, t2, by omega⟩)
          have S1 := Lib.hid S1
          have S2 := Lib.hid S2
          have l3 : ¬ (b2 : Int) < (b : Int) := by omega
          have q := box_cell y
          clear t1 t2 t4 t5 t7 t8 ea eb
          go_wp2_with fail
          refine (S1.out _ (hRa.ext y)).mono ?_
          rintro e v2 ⟨rfl, y'⟩
          replace y := y.ext_trans y'
          replace q := box_cell y
          clear y'
          go_wp2_with fail
          refine (S2.out _ (hRa.ext y)).mono ?_
          rintro e v3 ⟨rfl, y'⟩
          replace y := y.ext_trans y'
          clear q y'
          go_wp2_with fail
          go_roundw
          case rel => exact ⟨j + 1, a2, b2, by omega, t3, t6, by go_num, rfl, rfl, HJ2, y⟩
          case measure => simp [intOf] <;> omega
        · have l1 : ¬ (j : Int) < (m : Int) := by omega
          have e1 : a = s.size := by
            have := stops_full s.data.toList a (by rw [toList_length]; exact ha) HJ.out.2.1 (by rw [HJ.out.1, toList_length, ← HM.out]; omega)
            rwa [toList_length] at this
          have e2 : b = s.size := by have := HJ.out.2.2; omega
          subst e1
          subst e2
          go_wp2_with fail
          refine (awake9_any _).mono ?_
          rintro e v3 ⟨rfl, y'⟩
          go_wp2_with fail
          go_ret
          exact ⟨rfl, (hxa.ext_trans y).ext_trans y'⟩

set_option maxHeartbeats 800000 in
set_option maxRecDepth 1000000 in
theorem stepWalks_calls (w : World) (s : ByteArray) (ws : s.size ≤ 9223372036854775807) :
    Calls Try.prog 8 #[.string s] w fun e w' => e = .returned (.bool true) ∧ Ext w w' := by
  clear ws
  by_cases h1 : s.size ≤ 120
  · exact stepWalks_any w s h1
  · have j1 : (120 : Int) < (s.size : Int) := by omega
    go_enter Try.func8, Try.ntmps8
    go_wp2_with fail
    refine (awake9_any _).mono ?_
    rintro e w1 ⟨rfl, hx⟩
    go_wp2_with fail
    go_ret
    exact ⟨rfl, hx⟩

end Go.Proofs.Ytmecdhbiinpepaa

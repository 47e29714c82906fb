/- Of two offsets the one that is no later goes no later, any way: the plain law and the walk. Conditions: none. -/
import Derived.Test.YtmecdhbiinpepaaGimLaw9
namespace Go.Gim
theorem downN_mono (p : UInt8 → Bool) (l : List UInt8) : ∀ b a, a ≤ b → downN p l a ≤ downN p l b := by
  intro b
  induction b with
  | zero => intro a h; obtain rfl : a = 0 := by omega
            exact Nat.le_refl _
  | succ k ih =>
    intro a h
    by_cases he : a = k + 1
    · rw [he]; exact Nat.le_refl _
    · have h1 := ih a (by omega)
      have h2 := downN_le p l a
      rw [show downN p l (k + 1) = if p (l.getD (k + 1) 0) then downN p l k else k + 1 from rfl]
      split <;> omega
theorem backN_mono (p : UInt8 → Bool) (l : List UInt8) : ∀ b a, a ≤ b → backN p l a ≤ backN p l b := by
  intro b
  induction b with
  | zero => intro a h; obtain rfl : a = 0 := by omega
            exact Nat.le_refl _
  | succ k ih =>
    intro a h
    by_cases he : a = k + 1
    · rw [he]; exact Nat.le_refl _
    · have h1 := ih a (by omega)
      have h2 := backN_le p l a
      rw [show backN p l (k + 1) = if p (l.getD k 0) then backN p l k else k + 1 from rfl]
      split <;> omega
theorem fwdN_mono (p : UInt8 → Bool) (l : List UInt8) : ∀ n a b, b - a ≤ n → a ≤ b → b ≤ l.length → fwdN p l a ≤ fwdN p l b := by
  intro n
  induction n with
  | zero => intro a b h1 h2 _; obtain rfl : a = b := by omega
            exact Nat.le_refl _
  | succ n ih =>
    intro a b h1 h2 h3
    by_cases he : a = b
    · rw [he]; exact Nat.le_refl _
    · have hlt : a < l.length := by omega
      cases hp : p l[a] with
      | true => rw [fwdN_in p l a hlt hp]; exact ih (a + 1) b (by omega) (by omega) h3
      | false => rw [fwdN_stop p l a hlt hp]; have := fwdN_ge p l b; omega
theorem leftN_mono (l : List UInt8) (a b : Nat) (h : a ≤ b) : leftN l a ≤ leftN l b := by
  unfold leftN
  by_cases ha : a = 0
  · rw [if_pos ha]; omega
  · rw [if_neg ha, if_neg (by omega)]; exact downN_mono _ _ _ _ (by omega)
theorem rightN_mono (l : List UInt8) (a b : Nat) (h : a ≤ b) (hb : b ≤ l.length) : rightN l a ≤ rightN l b := by
  by_cases h1 : b < l.length
  · unfold rightN
    rw [if_pos h1, if_pos (by omega)]
    exact fwdN_mono _ _ _ _ _ (Nat.le_refl _) (by omega) (by omega)
  · have := rightN_le l a (by omega)
    rw [show rightN l b = b from by unfold rightN; rw [if_neg h1]]
    omega
theorem byW_mono (way : Int) (l : List UInt8) (a b : Nat) (h : a ≤ b) : byW way (l.take a) ≤ byW way (l.take b) := by
  have := byW_seg way l a b h; omega
theorem lnN_mono (l : List UInt8) (a b : Nat) (h : a ≤ b) : lnN l a ≤ lnN l b := by
  have := byW_mono 3 l a b h
  rwa [byW3, byW3] at this
theorem upto_mono (way : Int) (l : List UInt8) : ∀ n m, n ≤ m → upto way l n ≤ upto way l m := by
  induction l with
  | nil => intro n m _; exact Nat.le_refl _
  | cons c r ih =>
    intro n m h
    simp only [upto]
    by_cases h1 : n < byW way [c]
    · rw [if_pos h1]; omega
    · rw [if_neg h1, if_neg (by omega)]
      have := ih (n - byW way [c]) (m - byW way [c]) (by omega)
      omega
theorem lineE_mono (l : List UInt8) (i j : Nat) (h : i ≤ j) : lineE l i ≤ lineE l j := upto_mono 3 l i j h
theorem lineN_mono (l : List UInt8) (i j : Nat) (h : i ≤ j) : lineN l i ≤ lineN l j := by
  unfold lineN
  by_cases h1 : i = 0
  · rw [if_pos h1]; omega
  · rw [if_neg h1, if_neg (by omega)]
    have := upto_mono 3 l (i - 1) (j - 1) (by omega)
    omega
theorem lineE_lt (l : List UInt8) (i j : Nat) (h : i < j) : lineE l i < lineN l j := by
  unfold lineE lineN
  rw [if_neg (by omega)]
  have := upto_mono 3 l i (j - 1) (by omega)
  omega
theorem offN_ge (l : List UInt8) (line c : Nat) (h : line ≤ brk l) : lineN l line ≤ offN l line c 1 := by
  have h1 := lineN_lineE l line h
  have h2 := lineE_le l line
  have h3 := upto_ge 1 l (lineN l line) (byW 1 (l.take (lineN l line)) + c) (by omega) (by omega)
  unfold offN
  split
  · exact h1
  · exact Nat.le_min.2 ⟨h1, h3⟩
theorem offN_le2 (l : List UInt8) (line c : Nat) (way : Int) : offN l line c way ≤ lineE l line := by
  unfold offN
  split
  · exact Nat.le_refl _
  · exact Nat.min_le_left _ _
theorem offN_mono (l : List UInt8) (line c d : Nat) (h : c ≤ d) : offN l line c 1 ≤ offN l line d 1 := by
  have h2 := upto_mono 1 l (byW 1 (l.take (lineN l line)) + c) (byW 1 (l.take (lineN l line)) + d) (by omega)
  unfold offN
  split
  · rw [if_pos (by omega)]; exact Nat.le_refl _
  · split
    · exact Nat.min_le_left _ _
    · omega
theorem colN_mono (l : List UInt8) (a b : Nat) (h : a ≤ b) (he : lnN l a = lnN l b) : colN l a ≤ colN l b := by
  have := byW_mono 1 l a b h
  unfold colN
  rw [he]; omega
theorem upN_mono (l : List UInt8) (a b : Nat) (h : a ≤ b) : upN l a ≤ upN l b := by
  have h1 := lnN_mono l a b h
  have h2 := lnN_le l b
  unfold upN
  by_cases ha : lnN l a = 0
  · rw [if_pos ha]; omega
  · rw [if_neg ha, if_neg (by omega)]
    by_cases he : lnN l a = lnN l b
    · rw [← he]; exact offN_mono _ _ _ _ (colN_mono l a b h he)
    · have h3 := offN_le2 l (lnN l a - 1) (colN l a) 1
      have h4 := offN_ge l (lnN l b - 1) (colN l b) (by omega)
      have h5 := lineE_lt l (lnN l a - 1) (lnN l b - 1) (by omega)
      omega
theorem belowN_mono (l : List UInt8) (a b : Nat) (h : a ≤ b) : belowN l a ≤ belowN l b := by
  have h1 := lnN_mono l a b h
  have h2 := lnN_le l b
  unfold belowN
  by_cases hb : lnN l b + 1 ≤ brk l
  · rw [if_pos hb, if_pos (by omega)]
    by_cases he : lnN l a = lnN l b
    · rw [← he]; exact offN_mono _ _ _ _ (colN_mono l a b h he)
    · have h3 := offN_le2 l (lnN l a + 1) (colN l a) 1
      have h4 := offN_ge l (lnN l b + 1) (colN l b) (by omega)
      have h5 := lineE_lt l (lnN l a + 1) (lnN l b + 1) (by omega)
      omega
  · rw [if_neg hb]
    split
    · exact offN_le ..
    · exact Nat.le_refl _
/-- Of two places the one that is no later goes no later. -/
theorem stepN_mono (l : List UInt8) (a b : Nat) (way : Int) (h : a ≤ b) (hb : b ≤ l.length) : stepN l a way ≤ stepN l b way := by
  have w1 := leftN_mono l a b h
  have w2 := rightN_mono l a b h hb
  have w3 := lineN_mono l _ _ (lnN_mono l a b h)
  have w4 := lineE_mono l _ _ (lnN_mono l a b h)
  have w5 := upN_mono l a b h
  have w6 := belowN_mono l a b h
  have w9 : wordLN l a ≤ wordLN l b := backN_mono _ _ _ _ (backN_mono _ _ _ _ h)
  have w10 : wordRN l a ≤ wordRN l b := fwdN_mono _ _ _ _ _ (Nat.le_refl _) (fwdN_mono _ _ _ _ _ (Nat.le_refl _) h hb) (fwdN_le _ _ _ hb)
  unfold stepN
  repeat' split
  all_goals omega
end Go.Gim
namespace Go.Proofs.Ytmecdhbiinpepaa
open Go.RowKit Go.Gim

theorem low9 (x : Int) (n : Nat) (m : Int) (hm : m = n) (h1 : 1 ≤ n) (h2 : n ≤ 1000000) : ∃ p : Nat, p < n ∧ ∀ v, Calls Try.prog 21 #[.int .i64 x, .int .i64 m] v fun e w' => e = .returned (.int .i64 (p : Nat)) ∧ w' = v := by
  subst hm
  refine ⟨lowN x n, lowN_lt x n (by omega), fun v => ?_⟩
  have h := low_any x n v (by omega) (by omega)
  rwa [Int.toNat_natCast] at h

set_option maxHeartbeats 3200000 in
set_option maxRecDepth 1000000 in
theorem stepRises_any (w : World) (s : ByteArray) (a b way : Int) (hs : s.size ≤ 200) :
    Calls Try.prog 6 #[.string s, .int .i64 a, .int .i64 b, .int .i64 way] w fun e w' => e = .returned (.bool true) ∧ Ext w w' := by
  have j1 : ¬ (200 : Int) < (s.size : Int) := by omega
  obtain ⟨p, hp, L1⟩ := low9 a (s.size + 1) ((s.size : Int) + 1) (by omega) (by omega) (by omega)
  obtain ⟨q, hq, L2⟩ := low9 b (s.size + 1) ((s.size : Int) + 1) (by omega) (by omega) (by omega)
  obtain ⟨m, hm10, L3⟩ := low9 way 10 10 (by omega) (by omega) (by omega)
  have L1 := Lib.hid L1
  have L2 := Lib.hid L2
  have L3 := Lib.hid L3
  go_enter Try.func6, Try.ntmps6
  go_wp2_with fail
  refine (of9_any s _ (by omega)).mono ?_
  rintro e u1 ⟨R, rfl, hR, htx, hx, _⟩
  have ha : Ext u1 (u1.alloc (.cells #[.pointer (some ⟨R.rb, 0, none⟩)] 35)) := (Mod.refl _ u1).alloc _
  have hRa := hR.ext ha
  have hxa := hx.ext_trans ha
  have Htx := Lib.hid htx
  clear htx
  go_wp2_with fail
  refine (L1.out _).mono ?_
  rintro e w1 ⟨rfl, rfl⟩
  go_wp2_with fail
  refine (L2.out _).mono ?_
  rintro e w1 ⟨rfl, rfl⟩
  go_wp2_with fail
  refine (L3.out _).mono ?_
  rintro e w1 ⟨rfl, rfl⟩
  by_cases h1 : p < q
  · have e1 : ¬ (q : Int) < (p : Int) := by omega
    have e2 : ¬ (q : Int) ≤ (p : Int) := by omega
    have e3 : (p : Int) ≤ (q : Int) := by omega
    have e4 : p ≤ q := by omega
    have e5 : ¬ q ≤ p := by omega
    have S1 := fun v (hv : RopeAt v R) => step_yes R s p (1 + m) v hv Htx.out (by omega) (by omega) (by omega)
    have S2 := fun v (hv : RopeAt v R) => step_yes R s q (1 + m) v hv Htx.out (by omega) (by omega) (by omega)
    have hm := stepN_mono s.data.toList p q (1 + m) (by omega) (by rw [toList_length]; omega)
    have hl := stepN_le s.data.toList q (1 + m) (by rw [toList_length]; omega)
    rw [toList_length] at hl
    obtain ⟨X, hX⟩ : ∃ X, X = stepN s.data.toList p (1 + m) := ⟨_, rfl⟩
    obtain ⟨Y, hY⟩ : ∃ Y, Y = stepN s.data.toList q (1 + m) := ⟨_, rfl⟩
    have k1 : (X : Int) ≤ (Y : Int) := by rw [hX, hY]; exact Int.ofNat_le.2 hm
    have k2 : (Y : Int) ≤ (s.size : Int) := by rw [hY]; exact Int.ofNat_le.2 hl
    have k3 : (0 : Int) ≤ (X : Int) := by omega
    rw [← hX] at S1
    rw [← hY] at S2
    clear hX hY hm hl
    have S1 := Lib.hid S1
    have S2 := Lib.hid S2
    go_wp2_with fail
    refine (S1.out _ hRa).mono ?_
    rintro e u2 ⟨rfl, y⟩
    have c := box_cell y
    go_wp2_with fail
    refine (S2.out _ (hRa.ext y)).mono ?_
    rintro e u3 ⟨rfl, y2⟩
    go_wp2_with fail
    refine (awake9_any _).mono ?_
    rintro e v3 ⟨rfl, y'⟩
    go_wp2_with fail
    go_ret
    exact ⟨rfl, ((hxa.ext_trans y).ext_trans y2).ext_trans y'⟩
  · by_cases h2 : q < p
    · have e1 : (q : Int) < (p : Int) := by omega
      have e2 : (q : Int) ≤ (p : Int) := by omega
      have e3 : ¬ (p : Int) ≤ (q : Int) := by omega
      have e4 : ¬ p ≤ q := by omega
      have e5 : q ≤ p := by omega
      have S1 := fun v (hv : RopeAt v R) => step_yes R s q (1 + m) v hv Htx.out (by omega) (by omega) (by omega)
      have S2 := fun v (hv : RopeAt v R) => step_yes R s p (1 + m) v hv Htx.out (by omega) (by omega) (by omega)
      have hm := stepN_mono s.data.toList q p (1 + m) (by omega) (by rw [toList_length]; omega)
      have hl := stepN_le s.data.toList p (1 + m) (by rw [toList_length]; omega)
      rw [toList_length] at hl
      obtain ⟨X, hX⟩ : ∃ X, X = stepN s.data.toList q (1 + m) := ⟨_, rfl⟩
      obtain ⟨Y, hY⟩ : ∃ Y, Y = stepN s.data.toList p (1 + m) := ⟨_, rfl⟩
      have k1 : (X : Int) ≤ (Y : Int) := by rw [hX, hY]; exact Int.ofNat_le.2 hm
      have k2 : (Y : Int) ≤ (s.size : Int) := by rw [hY]; exact Int.ofNat_le.2 hl
      have k3 : (0 : Int) ≤ (X : Int) := by omega
      rw [← hX] at S1
      rw [← hY] at S2
      clear hX hY hm hl
      have S1 := Lib.hid S1
      have S2 := Lib.hid S2
      go_wp2_with fail
      refine (S1.out _ hRa).mono ?_
      rintro e u2 ⟨rfl, y⟩
      have c := box_cell y
      go_wp2_with fail
      refine (S2.out _ (hRa.ext y)).mono ?_
      rintro e u3 ⟨rfl, y2⟩
      go_wp2_with fail
      refine (awake9_any _).mono ?_
      rintro e v3 ⟨rfl, y'⟩
      go_wp2_with fail
      go_ret
      exact ⟨rfl, ((hxa.ext_trans y).ext_trans y2).ext_trans y'⟩
    · obtain rfl : p = q := by omega
      have S1 := fun v (hv : RopeAt v R) => step_yes R s p (1 + m) v hv Htx.out (by omega) (by omega) (by omega)
      have S2 := fun v (hv : RopeAt v R) => step_yes R s p (1 + m) v hv Htx.out (by omega) (by omega) (by omega)
      have hm := stepN_mono s.data.toList p p (1 + m) (by omega) (by rw [toList_length]; omega)
      have hl := stepN_le s.data.toList p (1 + m) (by rw [toList_length]; omega)
      rw [toList_length] at hl
      obtain ⟨X, hX⟩ : ∃ X, X = stepN s.data.toList p (1 + m) := ⟨_, rfl⟩
      obtain ⟨Y, hY⟩ : ∃ Y, Y = stepN s.data.toList p (1 + m) := ⟨_, rfl⟩
      have k1 : (X : Int) ≤ (Y : Int) := by rw [hX, hY]; exact Int.ofNat_le.2 hm
      have k2 : (Y : Int) ≤ (s.size : Int) := by rw [hY]; exact Int.ofNat_le.2 hl
      have k3 : (0 : Int) ≤ (X : Int) := by omega
      rw [← hX] at S1
      rw [← hY] at S2
      clear hX hY hm hl
      have S1 := Lib.hid S1
      have S2 := Lib.hid S2
      go_wp2_with fail
      refine (S1.out _ hRa).mono ?_
      rintro e u2 ⟨rfl, y⟩
      have c := box_cell y
      go_wp2_with fail
      refine (S2.out _ (hRa.ext y)).mono ?_
      rintro e u3 ⟨rfl, y2⟩
      go_wp2_with fail
      refine (awake9_any _).mono ?_
      rintro e v3 ⟨rfl, y'⟩
      go_wp2_with fail
      go_ret
      exact ⟨rfl, ((hxa.ext_trans y).ext_trans y2).ext_trans y'⟩

set_option maxHeartbeats 800000 in
set_option maxRecDepth 1000000 in
theorem stepRises_calls (w : World) (s : ByteArray) (ws : s.size ≤ 9223372036854775807) (a : Int) (wa : (Lit.int .i64 a).wf = true) (b : Int) (wb : (Lit.int .i64 b).wf = true) (way : Int) (ww : (Lit.int .i64 way).wf = true) :
    Calls Try.prog 6 #[.string s, .int .i64 a, .int .i64 b, .int .i64 way] w fun e w' => e = .returned (.bool true) ∧ Ext w w' := by
  clear ws wa wb ww
  by_cases h1 : s.size ≤ 200
  · exact stepRises_any w s a b way h1
  · have j1 : (200 : Int) < (s.size : Int) := by omega
    go_enter Try.func6, Try.ntmps6
    go_wp2_with fail
    refine (awake9_any _).mono ?_
    rintro e w1 ⟨rfl, hx⟩
    go_wp2_with fail
    go_ret
    exact ⟨rfl, hx⟩

end Go.Proofs.Ytmecdhbiinpepaa

/- Home and End are in the line and end it; Up and Down are in the next line that way, no further right by runes: the plain law and the walk. Conditions: none. -/
import Derived.Test.YtmecdhbiinpepaaGimStepRises
import Derived.Test.YtmecdhbiinpepaaGimLinesJoin
namespace Go.Gim
theorem lnN_in (l : List UInt8) (j f : Nat) (hj : j ≤ brk l) (h1 : lineN l j ≤ f) (h2 : f ≤ lineE l j) : lnN l f = j := by
  have a1 := lnN_mono l _ _ h1
  have a2 := lnN_mono l _ _ h2
  have b1 : lnN l (lineN l j) = j := line_at l j hj
  have b2 : lnN l (lineE l j) = j := by
    by_cases he : j < brk l
    · exact (upto3_at l j he).2
    · obtain rfl : j = brk l := by omega
      unfold lnN
      rw [lineE_last, List.take_length]
  omega
theorem colN_off (l : List UInt8) (j c : Nat) (hj : j ≤ brk l) : lnN l (offN l j c 1) = j ∧ colN l (offN l j c 1) ≤ c := by
  have g1 := offN_ge l j c hj
  have g2 := offN_le2 l j c 1
  have hl := lnN_in l j _ hj g1 g2
  refine ⟨hl, ?_⟩
  unfold colN
  rw [hl]
  have hE := lineE_le l j
  have hNE := lineN_lineE l j hj
  unfold offN
  split
  · rename_i h
    have e := byW_seg 1 l (lineN l j) (lineE l j) hNE
    have g := byW_le 1 ((l.take (lineE l j)).drop (lineN l j))
    rw [seg_len l _ _ hE] at g
    omega
  · have m := byW_mono 1 l _ _ (Nat.min_le_right (lineE l j) (upto 1 l (byW 1 (l.take (lineN l j)) + c)))
    have u := upto_some 1 l (byW 1 (l.take (lineN l j)) + c)
    omega
theorem line_end (l : List UInt8) (k : Nat) (hk : k ≤ l.length) : k ≤ lineE l (lnN l k) := upto_ge 3 l k _ hk (Nat.le_of_eq (byW3 _))
end Go.Gim
namespace Go.Proofs.Ytmecdhbiinpepaa
open Go.RowKit Go.Gim

theorem lines_facts (R : Rp) (s : ByteArray) (k : Nat) (ht : R.text = s.data.toList) (hk : k ≤ s.size) :
    ∃ ln col h e u d a b c dd M : Nat, h ≤ k ∧ k ≤ e ∧ e ≤ s.size ∧ ln + 1 ≤ M ∧ M ≤ 100000 + s.size ∧ ln ≤ s.size ∧
      Hid (∀ v, RopeAt v R → Calls Try.prog 25 #[.agg #[.pointer (some ⟨R.rb, 0, none⟩)], .int .i64 k, .int .i64 1] v fun x w' => x = .returned (.tuple #[.int .i64 ln, .int .i64 col, .int .i64 0]) ∧ Ext v w') ∧
      Hid (∀ v, RopeAt v R → Calls Try.prog 16 #[.agg #[.pointer (some ⟨R.rb, 0, none⟩)], .int .i64 k, .int .i64 3] v fun x w' => x = .returned (.tuple #[.int .i64 h, .int .i64 0]) ∧ Ext v w') ∧
      Hid (∀ v, RopeAt v R → Calls Try.prog 16 #[.agg #[.pointer (some ⟨R.rb, 0, none⟩)], .int .i64 k, .int .i64 4] v fun x w' => x = .returned (.tuple #[.int .i64 e, .int .i64 0]) ∧ Ext v w') ∧
      Hid (∀ v, RopeAt v R → Calls Try.prog 16 #[.agg #[.pointer (some ⟨R.rb, 0, none⟩)], .int .i64 k, .int .i64 5] v fun x w' => x = .returned (.tuple #[.int .i64 u, .int .i64 0]) ∧ Ext v w') ∧
      Hid (∀ v, RopeAt v R → Calls Try.prog 16 #[.agg #[.pointer (some ⟨R.rb, 0, none⟩)], .int .i64 k, .int .i64 6] v fun x w' => x = .returned (.tuple #[.int .i64 d, .int .i64 0]) ∧ Ext v w') ∧
      Hid (∀ v, RopeAt v R → Calls Try.prog 25 #[.agg #[.pointer (some ⟨R.rb, 0, none⟩)], .int .i64 u, .int .i64 1] v fun x w' => x = .returned (.tuple #[.int .i64 a, .int .i64 b, .int .i64 0]) ∧ Ext v w') ∧
      Hid (∀ v, RopeAt v R → Calls Try.prog 25 #[.agg #[.pointer (some ⟨R.rb, 0, none⟩)], .int .i64 d, .int .i64 1] v fun x w' => x = .returned (.tuple #[.int .i64 c, .int .i64 dd, .int .i64 0]) ∧ Ext v w') ∧
      Hid (∀ v, RopeAt v R → Calls Try.prog 26 #[.agg #[.pointer (some ⟨R.rb, 0, none⟩)]] v fun x w' => x = .returned (.int .i64 M) ∧ Ext v w') ∧
      (ln = 0 → h = 0 ∧ u = 0) ∧ (0 < ln → ∃ h', h = h' + 1 ∧ ∃ hlt : h' < s.size, s[h'].toNat = 10 ∧ a + 1 = ln ∧ b ≤ col) ∧
      (ln + 1 = M → e = s.size ∧ d = s.size) ∧ (ln + 1 < M → ∃ hlt : e < s.size, s[e].toNat = 10 ∧ c = ln + 1 ∧ dd ≤ col) := by
  have hl : R.text.length = s.size := by rw [ht, toList_length]
  have hz := size_text ht
  have hb := brk_le R.text
  have hln := lnN_le R.text k
  have hu := stepN_le s.data.toList k 5 (by rw [toList_length]; exact hk)
  have hd := stepN_le s.data.toList k 6 (by rw [toList_length]; exact hk)
  rw [← ht, hl] at hu hd
  have hch : ∀ j, j < brk R.text → ∃ hlt : upto 3 R.text j < s.size, s[upto 3 R.text j].toNat = 10 := by
    intro j hj
    have h1 := (upto3_at R.text j hj).1
    have h2 := (List.getElem?_eq_some_iff.1 h1).1
    refine ⟨by omega, ?_⟩
    have h3 := (List.getElem?_eq_some_iff.1 h1).2
    have h4 : s[upto 3 R.text j]'(by omega) = 10 := by
      rw [← toList_get s _ (by omega), ← h3]
      exact (List.getElem_of_eq ht h2).symm
    rw [h4]; rfl
  have hup : stepN R.text k 5 = upN R.text k := rfl
  have hdn : stepN R.text k 6 = belowN R.text k := rfl
  refine ⟨lnN R.text k, colN R.text k, lineN R.text (lnN R.text k), lineE R.text (lnN R.text k), stepN R.text k 5, stepN R.text k 6, lnN R.text (stepN R.text k 5), colN R.text (stepN R.text k 5), lnN R.text (stepN R.text k 6), colN R.text (stepN R.text k 6), brk R.text + 1, lineN_le R.text k, line_end R.text k (by omega), ?_, by omega, by omega, by omega,
    Lib.hid fun v hv => place_col R k v hv (by omega), Lib.hid fun v hv => ?_, Lib.hid fun v hv => ?_, Lib.hid fun v hv => ?_, Lib.hid fun v hv => ?_, Lib.hid fun v hv => place_col R _ v hv (by omega), Lib.hid fun v hv => place_col R _ v hv (by omega), Lib.hid fun v hv => many_any R v hv, fun h0 => ?_, fun h0 => ?_, fun h0 => ?_, fun h0 => ?_⟩
  · have := lineE_le R.text (lnN R.text k); omega
  · have := step_yes R s k 3 v hv ht hk (by omega) (by omega); rw [← ht] at this; exact this
  · have := step_yes R s k 4 v hv ht hk (by omega) (by omega); rw [← ht] at this; exact this
  · have := step_yes R s k 5 v hv ht hk (by omega) (by omega); rw [← ht] at this; exact this
  · have := step_yes R s k 6 v hv ht hk (by omega) (by omega); rw [← ht] at this; exact this
  · refine ⟨by rw [h0]; rfl, ?_⟩
    rw [hup]; unfold upN; rw [if_pos h0]
  · obtain ⟨j, hj⟩ : ∃ j, lnN R.text k = j + 1 := ⟨lnN R.text k - 1, by omega⟩
    obtain ⟨q1, q2⟩ := hch j (by omega)
    obtain ⟨c1, c2⟩ := colN_off R.text j (colN R.text k) (by omega)
    refine ⟨upto 3 R.text j, by rw [hj]; simp [lineN], q1, q2, ?_⟩
    rw [hup]; unfold upN
    rw [if_neg (by omega), hj, Nat.add_sub_cancel]
    exact ⟨by rw [c1], c2⟩
  · have e1 : lnN R.text k = brk R.text := by omega
    refine ⟨by rw [e1, lineE_last]; exact hl, ?_⟩
    rw [hdn]; unfold belowN; rw [if_neg (by omega)]; exact hl
  · obtain ⟨q1, q2⟩ := hch (lnN R.text k) (by omega)
    obtain ⟨c1, c2⟩ := colN_off R.text (lnN R.text k + 1) (colN R.text k) (by omega)
    refine ⟨q1, q2, ?_⟩
    rw [hdn]; unfold belowN
    rw [if_pos (by omega)]
    exact ⟨c1, c2⟩

set_option maxHeartbeats 6400000 in
set_option maxRecDepth 1000000 in
theorem stepLines_any (w : World) (s : ByteArray) (f : Int) (hs : s.size ≤ 200) :
    Calls Try.prog 9 #[.string s, .int .i64 f] w fun e w' => e = .returned (.bool true) ∧ Ext w w' := by
  have j1 : ¬ (200 : Int) < (s.size : Int) := by omega
  obtain ⟨k, hk, L1⟩ := low9 f (s.size + 1) ((s.size : Int) + 1) (by omega) (by omega) (by omega)
  have L1 := Lib.hid L1
  go_enter Try.func9, Try.ntmps9
  go_wp2_with fail
  refine (L1.out _).mono ?_
  rintro e w1 ⟨rfl, rfl⟩
  go_wp2_with fail
  refine (of9_any s _ (by omega)).mono ?_
  rintro e u1 ⟨R, rfl, hR, htx, hx, _⟩
  have ha' : Ext u1 (u1.alloc (.cells #[.pointer (some ⟨R.rb, 0, none⟩)] 35)) := (Mod.refl _ u1).alloc _
  have hRa := hR.ext ha'
  have hxa := hx.ext_trans ha'
  obtain ⟨ln, col, h, e, u, d, a, b, c, dd, M, x1, x2, x3, x4, x5, x6, C1, C2, C3, C4, C5, C6, C7, C8, z1, z2, z3, z4⟩ := lines_facts R s k htx (by omega)
  clear htx
  go_wp2_with fail
  refine (C1.out _ hRa).mono ?_
  rintro e1 u2 ⟨rfl, y⟩
  have q := box_cell y
  go_wp2_with fail
  refine (C2.out _ (hRa.ext y)).mono ?_
  rintro e1 u3 ⟨rfl, y'⟩
  replace y := y.ext_trans y'
  replace q := box_cell y
  clear y'
  go_wp2_with fail
  refine (C3.out _ (hRa.ext y)).mono ?_
  rintro e1 u3 ⟨rfl, y'⟩
  replace y := y.ext_trans y'
  replace q := box_cell y
  clear y'
  go_wp2_with fail
  refine (C4.out _ (hRa.ext y)).mono ?_
  rintro e1 u3 ⟨rfl, y'⟩
  replace y := y.ext_trans y'
  replace q := box_cell y
  clear y'
  go_wp2_with fail
  refine (C5.out _ (hRa.ext y)).mono ?_
  rintro e1 u3 ⟨rfl, y'⟩
  replace y := y.ext_trans y'
  replace q := box_cell y
  clear y'
  have k1 : (h : Int) ≤ (k : Int) := by omega
  have k2 : (k : Int) ≤ (e : Int) := by omega
  have k3 : ¬ (k : Int) < (h : Int) := by omega
  have k4 : ¬ (e : Int) < (k : Int) := by omega
  by_cases h0 : ln = 0
  · obtain ⟨rfl, rfl⟩ := z1 h0
    subst h0
    by_cases hM : 0 + 1 = M
    · obtain ⟨rfl, rfl⟩ := z3 hM
      subst hM
      clear z1 z2 z3 z4
      go_wp2_with fail
      refine (C6.out _ (hRa.ext y)).mono ?_
      rintro e1 u4 ⟨rfl, y'⟩
      replace y := y.ext_trans y'
      replace q := box_cell y
      clear y'
      go_wp2_with fail
      refine (C7.out _ (hRa.ext y)).mono ?_
      rintro e1 u5 ⟨rfl, y'⟩
      replace y := y.ext_trans y'
      replace q := box_cell y
      clear y'
      go_wp2_with fail
      refine (C8.out _ (hRa.ext y)).mono ?_
      rintro e1 u6 ⟨rfl, y'⟩
      replace y := y.ext_trans y'
      replace q := box_cell y
      clear y'
      go_wp2_with fail
      refine (C8.out _ (hRa.ext y)).mono ?_
      rintro e1 u7 ⟨rfl, y'⟩
      replace y := y.ext_trans y'
      clear q y'
      go_wp2_with fail
      refine (awake9_any _).mono ?_
      rintro e1 v3 ⟨rfl, y'⟩
      go_wp2_with fail
      go_ret
      exact ⟨rfl, (hxa.ext_trans y).ext_trans y'⟩
    · obtain ⟨hes, he10, rfl, hdc⟩ := z4 (by omega)
      have l1 : (e : Int) < (s.size : Int) := by omega
      have l2 : (0 : Int) ≤ (e : Int) := by omega
      have l3 : ((s[e].toNat : Int) == 10) = true := by simp; omega
      have l4 : (((1 : Int)) == (M : Int)) = false := by simp; omega
      have l5 : (1 : Int) < (M : Int) := by omega
      have l6 : ¬ (col : Int) < (dd : Int) := by omega
      clear z1 z2 z3 z4
      go_wp2_with fail
      refine (C6.out _ (hRa.ext y)).mono ?_
      rintro e1 u4 ⟨rfl, y'⟩
      replace y := y.ext_trans y'
      replace q := box_cell y
      clear y'
      go_wp2_with fail
      refine (C7.out _ (hRa.ext y)).mono ?_
      rintro e1 u5 ⟨rfl, y'⟩
      replace y := y.ext_trans y'
      replace q := box_cell y
      clear y'
      go_wp2_with fail
      refine (C8.out _ (hRa.ext y)).mono ?_
      rintro e1 u6 ⟨rfl, y'⟩
      replace y := y.ext_trans y'
      replace q := box_cell y
      clear y'
      go_wp2_with fail
      refine (C8.out _ (hRa.ext y)).mono ?_
      rintro e1 u7 ⟨rfl, y'⟩
      replace y := y.ext_trans y'
      clear q y'
      go_wp2_with fail
      refine (awake9_any _).mono ?_
      rintro e1 v3 ⟨rfl, y'⟩
      go_wp2_with fail
      go_ret
      exact ⟨rfl, (hxa.ext_trans y).ext_trans y'⟩
  · obtain ⟨h', rfl, hh, h10, rfl, hbc⟩ := z2 (by omega)
    have m1 : (h' : Int) < (s.size : Int) := by omega
    have m2 : (0 : Int) ≤ (h' : Int) := by omega
    have m3 : ((s[h'].toNat : Int) == 10) = true := by simp; omega
    have m4 : ¬ (col : Int) < (b : Int) := by omega
    have m5 : ((a : Int) + 1 == 0) = false := by simp; omega
    have m6 : (0 : Int) < (a : Int) + 1 := by omega
    have m7 : (0 : Int) < (h' : Int) + 1 := by omega
    have m8 : (a : Int) ≤ 200 := by omega
    by_cases hM : a + 1 + 1 = M
    · obtain ⟨rfl, rfl⟩ := z3 hM
      subst hM
      clear z1 z2 z3 z4
      go_wp2_with fail
      refine (C6.out _ (hRa.ext y)).mono ?_
      rintro e1 u4 ⟨rfl, y'⟩
      replace y := y.ext_trans y'
      replace q := box_cell y
      clear y'
      go_wp2_with fail
      refine (C7.out _ (hRa.ext y)).mono ?_
      rintro e1 u5 ⟨rfl, y'⟩
      replace y := y.ext_trans y'
      replace q := box_cell y
      clear y'
      go_wp2_with fail
      refine (C8.out _ (hRa.ext y)).mono ?_
      rintro e1 u6 ⟨rfl, y'⟩
      replace y := y.ext_trans y'
      replace q := box_cell y
      clear y'
      go_wp2_with fail
      refine (C8.out _ (hRa.ext y)).mono ?_
      rintro e1 u7 ⟨rfl, y'⟩
      replace y := y.ext_trans y'
      clear q y'
      go_wp2_with fail
      refine (awake9_any _).mono ?_
      rintro e1 v3 ⟨rfl, y'⟩
      go_wp2_with fail
      go_ret
      exact ⟨rfl, (hxa.ext_trans y).ext_trans y'⟩
    · obtain ⟨hes, he10, rfl, hdc⟩ := z4 (by omega)
      have l1 : (e : Int) < (s.size : Int) := by omega
      have l2 : (0 : Int) ≤ (e : Int) := by omega
      have l3 : ((s[e].toNat : Int) == 10) = true := by simp; omega
      have l4 : ((a : Int) + 1 + 1 == (M : Int)) = false := by simp; omega
      have l5 : (a : Int) + 1 + 1 < (M : Int) := by omega
      have l6 : ¬ (col : Int) < (dd : Int) := by omega
      clear z1 z2 z3 z4
      go_wp2_with fail
      refine (C6.out _ (hRa.ext y)).mono ?_
      rintro e1 u4 ⟨rfl, y'⟩
      replace y := y.ext_trans y'
      replace q := box_cell y
      clear y'
      go_wp2_with fail
      refine (C7.out _ (hRa.ext y)).mono ?_
      rintro e1 u5 ⟨rfl, y'⟩
      replace y := y.ext_trans y'
      replace q := box_cell y
      clear y'
      go_wp2_with fail
      refine (C8.out _ (hRa.ext y)).mono ?_
      rintro e1 u6 ⟨rfl, y'⟩
      replace y := y.ext_trans y'
      replace q := box_cell y
      clear y'
      go_wp2_with fail
      refine (C8.out _ (hRa.ext y)).mono ?_
      rintro e1 u7 ⟨rfl, y'⟩
      replace y := y.ext_trans y'
      clear q y'
      go_wp2_with fail
      refine (awake9_any _).mono ?_
      rintro e1 v3 ⟨rfl, y'⟩
      go_wp2_with fail
      go_ret
      exact ⟨rfl, (hxa.ext_trans y).ext_trans y'⟩

set_option maxHeartbeats 800000 in
set_option maxRecDepth 1000000 in
theorem stepLines_calls (w : World) (s : ByteArray) (ws : s.size ≤ 9223372036854775807) (f : Int) (wf : (Lit.int .i64 f).wf = true) :
    Calls Try.prog 9 #[.string s, .int .i64 f] w fun e w' => e = .returned (.bool true) ∧ Ext w w' := by
  clear ws wf
  by_cases h1 : s.size ≤ 200
  · exact stepLines_any w s f h1
  · have j1 : (200 : Int) < (s.size : Int) := by omega
    go_enter Try.func9, Try.ntmps9
    go_wp2_with fail
    refine (awake9_any _).mono ?_
    rintro e w1 ⟨rfl, hx⟩
    go_wp2_with fail
    go_ret
    exact ⟨rfl, hx⟩

end Go.Proofs.Ytmecdhbiinpepaa

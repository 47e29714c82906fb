/- An offset that is where a character begins is found again by its line and column: the walk. Conditions: none. -/
import Derived.Test.YtbcjlbapgidhiaaGimLinesSame
namespace Go.Gim

theorem upto_ge (way : Int) (l : List UInt8) (f n : Nat) (hf : f ≤ l.length) (h : byW way (l.take f) ≤ n) : f ≤ upto way l n := by
  have e := upto_append_ge way (l.take f) (l.drop f) n h
  rw [List.take_append_drop, List.length_take] at e
  omega
theorem upto_zero (way : Int) (l : List UInt8) (h : ∀ c r, l = c :: r → 0 < byW way [c]) : upto way l 0 = 0 := by
  cases l with
  | nil => rfl
  | cons c r => simp only [upto]; rw [if_pos (h c r rfl)]
theorem upto_eq (way : Int) (l : List UInt8) (f : Nat) (hf : f ≤ l.length) (h : ∀ c r, l.drop f = c :: r → 0 < byW way [c]) : upto way l (byW way (l.take f)) = f := by
  have e := upto_append_ge way (l.take f) (l.drop f) _ (Nat.le_refl _)
  rw [List.take_append_drop, List.length_take, Nat.sub_self, upto_zero way _ h] at e
  omega
theorem byW_seg (way : Int) (l : List UInt8) (a f : Nat) (h : a ≤ f) : byW way (l.take f) = byW way (l.take a) + byW way ((l.take f).drop a) := by
  have e := (List.take_append_drop a (l.take f)).symm
  rw [List.take_take, Nat.min_eq_left h] at e
  exact (congrArg (byW way) e).trans (byW_append way _ _)
theorem seg_len (l : List UInt8) (a f : Nat) (hf : f ≤ l.length) : ((l.take f).drop a).length = f - a := by
  rw [List.length_drop, List.length_take, Nat.min_eq_left hf]
theorem run_unt (l : List UInt8) : run l ≤ unt l := by simp only [unt]; omega
theorem big_run (l : List UInt8) : big l ≤ run l := by
  unfold big run
  refine List.countP_mono_left ?_
  intro c _ h
  have h := of_decide_eq_true h
  have : (191 : UInt8) < c := UInt8.lt_of_lt_of_le (by decide) h
  simp [this]
theorem byW_one (way : Int) (c : UInt8) (h0 : 0 ≤ way) (h2 : way ≤ 2) (h : ¬ (128 ≤ c ∧ c < 192)) : 0 < byW way [c] := by
  have hr : run [c] = 1 := by
    have : (c < 128 || 191 < c) = true := by
      simp only [Bool.or_eq_true, decide_eq_true_eq, UInt8.lt_iff_toNat_lt, UInt8.le_iff_toNat_le] at h ⊢
      have e1 : (128 : UInt8).toNat = 128 := rfl
      have e2 : (192 : UInt8).toNat = 192 := rfl
      have e3 : (191 : UInt8).toNat = 191 := rfl
      omega
    simp only [run, List.countP_cons, List.countP_nil, this]; rfl
  have hu := run_unt [c]
  have hb : byt [c] = 1 := rfl
  unfold byW
  repeat' split
  all_goals omega
/-- An offset's column and line lead back to it, where a character begins. -/
theorem offN_back (way : Int) (l : List UInt8) (f : Nat) (hf : f ≤ l.length) (h : ∀ c r, l.drop f = c :: r → 0 < byW way [c]) :
    offN l (brk (l.take f)) (byW way (l.take f) - byW way (l.take (lineN l (brk (l.take f))))) way = f := by
  have h1 := lineN_le l f
  have h2 : f ≤ lineE l (brk (l.take f)) := upto_ge 3 l f _ hf (Nat.le_of_eq (byW3 _))
  unfold offN
  generalize lineN l (brk (l.take f)) = a at *
  generalize brk (l.take f) = j at *
  have e := byW_seg way l a f h1
  have g := byW_le way ((l.take f).drop a)
  rw [seg_len l a f hf] at g
  have u := upto_eq way l f hf h
  have hp := byW_seg way l a f h1
  rw [show byW way (l.take a) + (byW way (l.take f) - byW way (l.take a)) = byW way (l.take f) from by omega, u]
  split
  · omega
  · exact Nat.min_eq_right h2
/-- Columns by the three ways. -/
theorem cols_three (l : List UInt8) (a f : Nat) (h : a ≤ f) (hf : f ≤ l.length) :
    byW 0 (l.take f) = byW 0 (l.take a) + (f - a) ∧ ∃ r u, byW 1 (l.take f) = byW 1 (l.take a) + r ∧ byW 2 (l.take f) = byW 2 (l.take a) + u ∧ r ≤ f - a ∧ r ≤ u ∧ u ≤ 2 * (f - a) := by
  have g := seg_len l a f hf
  refine ⟨?_, run ((l.take f).drop a), unt ((l.take f).drop a), byW_seg 1 l a f h, byW_seg 2 l a f h, ?_, run_unt _, ?_⟩
  · rw [byW_seg 0 l a f h, ← g]; rfl
  · have := run_le ((l.take f).drop a); omega
  · have := unt_le ((l.take f).drop a); omega
end Go.Gim

namespace Go.Proofs.Ytbcjlbapgidhiaa
open Go.RowKit Go.Gim

theorem has_at (l : List UInt8) (f : Nat) : hasB l (brk (l.take f) : Nat) = true := by
  have e := brk_append (l.take f) (l.drop f)
  rw [List.take_append_drop] at e
  exact has_of ⟨by omega, by omega⟩
theorem text_len {R : Rp} {s : ByteArray} (ht : R.text = s.data.toList) : R.text.length = s.size := by
  rw [ht, toList_length]

theorem place_back (R : Rp) (s : ByteArray) (f way : Nat) (hw : way < 3) (ht : R.text = s.data.toList) (hf : f ≤ s.size) (hc : ∀ h : f < s.size, ¬ (128 ≤ s[f] ∧ s[f] < 192)) :
    ∃ j c : Nat,
      Hid (∀ v, RopeAt v R → Calls Try.prog 54 #[.agg #[.pointer (some ⟨R.rb, 0, none⟩)], .int .i64 f, .int .i64 way] v fun e w' => e = .returned (.tuple #[.int .i64 j, .int .i64 c, .int .i64 0]) ∧ Ext v w') ∧
      Hid (∀ v, RopeAt v R → Calls Try.prog 56 #[.agg #[.pointer (some ⟨R.rb, 0, none⟩)], .int .i64 j, .int .i64 c, .int .i64 way] v fun e w' => e = .returned (.tuple #[.int .i64 f, .int .i64 0]) ∧ Ext v w') := by
  have hl := text_len ht
  have hz := size_text ht
  have ha := lineN_le R.text f
  have hq := byW_seg way R.text _ f ha
  have hris : risesB (f : Nat) (f : Nat) R.t.size = true := rises_of ⟨by omega, by omega, by omega⟩
  have hway : wayB (way : Nat) = true := by unfold wayB; exact decide_eq_true ⟨by omega, by omega⟩
  have hb := offN_back way R.text f (by omega) (by
    intro c r hd
    refine byW_one way c (by omega) (by omega) ?_
    have hlt : f < R.text.length := by
      rcases Nat.lt_or_ge f R.text.length with h | h
      · exact h
      · rw [List.drop_eq_nil_of_le h] at hd; cases hd
    have hc' := hc (by omega)
    have e : R.text[f] = c := by
      rw [List.drop_eq_getElem_cons hlt] at hd
      exact (List.cons.inj hd).1
    have e2 : R.text[f] = s[f]'(by omega) := by
      rw [← toList_get s f (by omega)]
      exact List.getElem_of_eq ht hlt
    rw [← e, e2]; exact hc')
  refine ⟨brk (R.text.take f), byW way (R.text.take f) - byW way (R.text.take (lineN R.text (brk (R.text.take f)))), Lib.hid fun v hv => ?_, Lib.hid fun v hv => ?_⟩
  · have h := place_yes R f way v hv hway hris
    unfold PlacePost at h
    rw [Int.toNat_natCast, ← Int.ofNat_sub (by omega)] at h
    exact h
  · have h := offset_yes R (brk (R.text.take f)) (byW way (R.text.take f) - byW way (R.text.take (lineN R.text (brk (R.text.take f))))) way v hv hway (has_at _ _)
    unfold OffsetPost at h
    rw [hb] at h
    exact h

set_option maxHeartbeats 3200000 in
set_option maxRecDepth 1000000 in
theorem linesBack_any (w : World) (s : ByteArray) (a way : Int) (hs : s.size ≤ 300) :
    Calls Try.prog 18 #[.string s, .int .i64 a, .int .i64 way] w fun e w' => e = .returned (.bool true) ∧ Ext w w' := by
  have j1 : ¬ (300 : Int) < (s.size : Int) := by omega
  have lp := lowN_lt a (s.size + 1) (by omega)
  have lw := lowN_lt way 3 (by omega)
  go_enter Try.func18, Try.ntmps18
  go_wp2_with fail
  refine (low_any a ((s.size : Int) + 1) _ (by omega) (by omega)).mono ?_
  rintro e w1 ⟨rfl, rfl⟩
  rw [show ((s.size : Int) + 1).toNat = s.size + 1 from by omega]
  generalize lowN a (s.size + 1) = f at *
  by_cases hlt : f < s.size
  · have hlt' : (f : Int) < (s.size : Int) := by omega
    have hk0 : (0 : Int) ≤ (f : Int) := by omega
    by_cases h1 : (128 : Int) ≤ (s[f].toNat : Int)
    · by_cases h2 : (s[f].toNat : Int) < 192
      · clear lw
        go_wp2_with fail
        refine (awake4_any _).mono ?_
        rintro e v3 ⟨rfl, y'⟩
        go_wp2_with fail
        go_ret
        exact ⟨rfl, y'⟩
      · have hc : ∀ h : f < s.size, ¬ (128 ≤ s[f] ∧ s[f] < 192) := by
          intro _ h; apply h2; have := UInt8.lt_iff_toNat_lt.1 h.2; have e : (192 : UInt8).toNat = 192 := rfl; omega
        have Hc := Lib.hid hc
        clear hc
        go_wp2_with fail
        refine (linesof_any s _ (by omega)).mono ?_
        rintro e u1 ⟨R, rfl, hR, htx, hx, _⟩
        have Htx := Lib.hid htx
        clear htx
        have ha : Ext u1 (u1.alloc (.cells #[.pointer (some ⟨R.rb, 0, none⟩)] 64)) := (Mod.refl _ u1).alloc _
        have hRa := hR.ext ha
        go_wp2_with fail
        refine (low_any way 3 _ (by omega) (by omega)).mono ?_
        rintro e w1 ⟨rfl, rfl⟩
        rw [show (3 : Int).toNat = 3 from rfl]
        generalize lowN way 3 = q at *
        obtain ⟨j, c, C0, C1⟩ := place_back R s f q lw Htx.out (by omega) Hc.out
        go_wp2_with fail
        refine (C0.out _ hRa).mono ?_
        rintro e u2 ⟨rfl, y⟩
        have k := box_cell y
        go_wp2_with fail
        refine (C1.out _ (hRa.ext y)).mono ?_
        rintro e u3 ⟨rfl, y'⟩
        replace y := y.ext_trans y'
        clear k y'
        go_wp2_with fail
        refine (awake4_any _).mono ?_
        rintro e v3 ⟨rfl, y'⟩
        go_wp2_with fail
        go_ret
        exact ⟨rfl, ((hx.ext_trans ha).ext_trans y).ext_trans y'⟩
    · have hc : ∀ h : f < s.size, ¬ (128 ≤ s[f] ∧ s[f] < 192) := by
        intro _ h; apply h1; have := UInt8.le_iff_toNat_le.1 h.1; have e : (128 : UInt8).toNat = 128 := rfl; omega
      have Hc := Lib.hid hc
      clear hc
      go_wp2_with fail
      refine (linesof_any s _ (by omega)).mono ?_
      rintro e u1 ⟨R, rfl, hR, htx, hx, _⟩
      have Htx := Lib.hid htx
      clear htx
      have ha : Ext u1 (u1.alloc (.cells #[.pointer (some ⟨R.rb, 0, none⟩)] 64)) := (Mod.refl _ u1).alloc _
      have hRa := hR.ext ha
      go_wp2_with fail
      refine (low_any way 3 _ (by omega) (by omega)).mono ?_
      rintro e w1 ⟨rfl, rfl⟩
      rw [show (3 : Int).toNat = 3 from rfl]
      generalize lowN way 3 = q at *
      obtain ⟨j, c, C0, C1⟩ := place_back R s f q lw Htx.out (by omega) Hc.out
      go_wp2_with fail
      refine (C0.out _ hRa).mono ?_
      rintro e u2 ⟨rfl, y⟩
      have k := box_cell y
      go_wp2_with fail
      refine (C1.out _ (hRa.ext y)).mono ?_
      rintro e u3 ⟨rfl, y'⟩
      replace y := y.ext_trans y'
      clear k y'
      go_wp2_with fail
      refine (awake4_any _).mono ?_
      rintro e v3 ⟨rfl, y'⟩
      go_wp2_with fail
      go_ret
      exact ⟨rfl, ((hx.ext_trans ha).ext_trans y).ext_trans y'⟩
  · have hlt' : ¬ (f : Int) < (s.size : Int) := by omega
    have hc : ∀ h : f < s.size, ¬ (128 ≤ s[f] ∧ s[f] < 192) := fun h => absurd h hlt
    have Hc := Lib.hid hc
    clear hc
    go_wp2_with fail
    refine (linesof_any s _ (by omega)).mono ?_
    rintro e u1 ⟨R, rfl, hR, htx, hx, _⟩
    have Htx := Lib.hid htx
    clear htx
    have ha : Ext u1 (u1.alloc (.cells #[.pointer (some ⟨R.rb, 0, none⟩)] 64)) := (Mod.refl _ u1).alloc _
    have hRa := hR.ext ha
    go_wp2_with fail
    refine (low_any way 3 _ (by omega) (by omega)).mono ?_
    rintro e w1 ⟨rfl, rfl⟩
    rw [show (3 : Int).toNat = 3 from rfl]
    generalize lowN way 3 = q at *
    obtain ⟨j, c, C0, C1⟩ := place_back R s f q lw Htx.out (by omega) Hc.out
    go_wp2_with fail
    refine (C0.out _ hRa).mono ?_
    rintro e u2 ⟨rfl, y⟩
    have k := box_cell y
    go_wp2_with fail
    refine (C1.out _ (hRa.ext y)).mono ?_
    rintro e u3 ⟨rfl, y'⟩
    replace y := y.ext_trans y'
    clear k y'
    go_wp2_with fail
    refine (awake4_any _).mono ?_
    rintro e v3 ⟨rfl, y'⟩
    go_wp2_with fail
    go_ret
    exact ⟨rfl, ((hx.ext_trans ha).ext_trans y).ext_trans y'⟩

set_option maxHeartbeats 800000 in
set_option maxRecDepth 1000000 in
theorem linesBack_calls (w : World) (s : ByteArray) (ws : s.size ≤ 9223372036854775807) (a : Int) (wa : (Lit.int .i64 a).wf = true) (way : Int) (ww : (Lit.int .i64 way).wf = true) :
    Calls Try.prog 18 #[.string s, .int .i64 a, .int .i64 way] w fun e w' => e = .returned (.bool true) ∧ Ext w w' := by
  by_cases h1 : s.size ≤ 300
  · exact linesBack_any w s a way h1
  · have j1 : (300 : Int) < (s.size : Int) := by omega
    clear ws wa ww
    go_enter Try.func18, Try.ntmps18
    go_wp2_with fail
    refine (awake4_any _).mono ?_
    rintro e w1 ⟨rfl, hx⟩
    go_wp2_with fail
    go_ret
    exact ⟨rfl, hx⟩

end Go.Proofs.Ytbcjlbapgidhiaa

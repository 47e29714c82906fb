/- The lines, with breaks between, are the text; each one's Start is in it: the plain law and the walk. Conditions: none. -/
import Derived.Test.YtbcjlbapgidhiaaGimLinesSame
namespace Go.Gim
theorem upto3_at (l : List UInt8) : ∀ j, j < brk l → l[upto 3 l j]? = some 10 ∧ brk (l.take (upto 3 l j)) = j := by
  induction l with
  | nil => intro j h; rw [brk_nil] at h; omega
  | cons c r ih =>
    intro j h
    rw [brk_cons] at h
    simp only [upto, byW3_one]
    by_cases hc : (c == 10) = true
    · have hc' : c = 10 := by simpa using hc
      rw [if_pos hc] at h ⊢
      by_cases hj : j < 1
      · rw [if_pos hj]
        refine ⟨by simp [hc'], ?_⟩
        rw [List.take_zero, brk_nil]; omega
      · rw [if_neg hj]
        obtain ⟨a, b⟩ := ih (j - 1) (by omega)
        rw [Nat.add_comm 1]
        refine ⟨by rw [List.getElem?_cons_succ]; exact a, ?_⟩
        rw [List.take_succ_cons, brk_cons, b, if_pos hc]; omega
    · rw [if_neg hc] at h ⊢
      rw [if_neg (Nat.not_lt_zero j), Nat.sub_zero]
      obtain ⟨a, b⟩ := ih j (by omega)
      rw [Nat.add_comm 1]
      refine ⟨by rw [List.getElem?_cons_succ]; exact a, ?_⟩
      rw [List.take_succ_cons, brk_cons, b, if_neg hc]; rfl
theorem upto3_next (l : List UInt8) (j : Nat) (h : j < brk l) : l.take (upto 3 l j + 1) = l.take (upto 3 l j) ++ [10] := by
  rw [List.take_add_one, (upto3_at l j h).1]; rfl
/-- A line's own number is found at where it begins. -/
theorem line_at (l : List UInt8) (j : Nat) (h : j ≤ brk l) : brk (l.take (lineN l j)) = j := by
  cases j with
  | zero => rfl
  | succ j =>
    rw [show lineN l (j + 1) = upto 3 l j + 1 from by simp [lineN], upto3_next l j (by omega), brk_append, (upto3_at l j (by omega)).2]
    rfl
/-- Where what is joined ends. -/
def endJ (l : List UInt8) (k : Nat) : Nat := if k = 0 then 0 else lineE l (k - 1)
theorem endJ_step (s : ByteArray) (k : Nat) (h : k + 1 ≤ brk s.data.toList) (hle : lineN s.data.toList (k + 1) ≤ lineE s.data.toList (k + 1)) :
    s.extract 0 (endJ s.data.toList (k + 1)) ++ ⟨#[10]⟩ ++ s.extract (lineN s.data.toList (k + 1)) (lineE s.data.toList (k + 1)) = s.extract 0 (lineE s.data.toList (k + 1)) := by
  have e1 : endJ s.data.toList (k + 1) = upto 3 s.data.toList k := by simp [endJ, lineE]
  have e2 : lineN s.data.toList (k + 1) = upto 3 s.data.toList k + 1 := by simp [lineN]
  have hn := upto3_next s.data.toList k (by omega)
  rw [e1]
  generalize lineE s.data.toList (k + 1) = b at *
  have e3 : s.extract 0 (upto 3 s.data.toList k) ++ ⟨#[10]⟩ = s.extract 0 (lineN s.data.toList (k + 1)) := by
    rw [e2, extract_bs, extract_bs]
    simp only [List.drop_zero, Nat.sub_zero]
    rw [hn]
    generalize List.take (upto 3 s.data.toList k) s.data.toList = q
    show bs q ++ bs [10] = _
    apply ByteArray.ext
    apply Array.toList_inj.1
    simp only [ByteArray.data_append, Array.toList_append, bs_toList]
  rw [e3]
  generalize lineN s.data.toList (k + 1) = a at *
  rw [extract_bs, extract_bs, extract_bs]
  apply ByteArray.ext
  apply Array.toList_inj.1
  simp only [ByteArray.data_append, Array.toList_append, bs_toList, List.drop_zero, Nat.sub_zero]
  have := List.take_add (l := s.data.toList) (i := a) (j := b - a)
  rw [show a + (b - a) = b from by omega] at this
  exact this.symm
end Go.Gim

namespace Go.Proofs.Ytbcjlbapgidhiaa
open Go.RowKit Go.Gim

theorem text_size {R : Rp} {s : ByteArray} (ht : R.text = s.data.toList) : R.text.length = s.size := by
  rw [ht, toList_length]
theorem join_line (R : Rp) (s : ByteArray) (k : Nat) (ht : R.text = s.data.toList) (hk : k ≤ brk R.text) :
    ∃ a b : Nat, a ≤ b ∧ b ≤ s.size ∧
      Hid (∀ v, RopeAt v R → Calls Try.prog 43 #[.agg #[.pointer (some ⟨R.rb, 0, none⟩)], .int .i64 k] v fun e w' => e = .returned (.tuple #[.int .i64 a, .int .i64 0]) ∧ Ext v w') ∧
      Hid (∀ v, RopeAt v R → Calls Try.prog 45 #[.agg #[.pointer (some ⟨R.rb, 0, none⟩)], .int .i64 k] v fun e w' => e = .returned (.tuple #[.int .i64 b, .int .i64 0]) ∧ Ext v w') ∧
      Hid (∀ v, RopeAt v R → Calls Try.prog 49 #[.agg #[.pointer (some ⟨R.rb, 0, none⟩)], .int .i64 a] v fun e w' => e = .returned (.tuple #[.int .i64 k, .int .i64 0]) ∧ Ext v w') ∧
      Hid ((k = 0 → s.extract a b = s.extract 0 (endJ R.text (k + 1))) ∧ (0 < k → s.extract 0 (endJ R.text k) ++ ⟨#[10]⟩ ++ s.extract a b = s.extract 0 (endJ R.text (k + 1)))) := by
  have hl := text_size ht
  have hz := size_text ht
  have hh : hasB R.text (k : Nat) = true := has_of ⟨by omega, by omega⟩
  have h1 := lineN_lineE R.text k hk
  have h2 := lineE_le R.text k
  refine ⟨lineN R.text k, lineE R.text k, h1, by omega, Lib.hid fun v hv => start_yes R k v hv hh, Lib.hid fun v hv => end_yes R k v hv hh, Lib.hid fun v hv => ?_, Lib.hid ⟨?_, ?_⟩⟩
  · have h := at_yes R (lineN R.text k : Nat) v hv (rises_of ⟨by omega, by omega, by omega⟩)
    rw [Int.toNat_natCast, line_at R.text k hk] at h
    exact h
  · rintro rfl
    simp [lineN, endJ]
  · intro h0
    obtain ⟨j, rfl⟩ : ∃ j, k = j + 1 := ⟨k - 1, by omega⟩
    rw [ht] at hk h1 ⊢
    exact endJ_step s j hk h1
theorem join_end (R : Rp) (s : ByteArray) (ht : R.text = s.data.toList) : s.extract 0 (endJ R.text (brk R.text + 1)) = s := by
  have hl := text_size ht
  have : endJ R.text (brk R.text + 1) = s.size := by
    simp only [endJ]
    rw [if_neg (by omega), Nat.add_sub_cancel, lineE_last]; exact hl
  rw [this]; simp

set_option maxHeartbeats 3200000 in
set_option maxRecDepth 1000000 in
theorem linesJoin_any (w : World) (s : ByteArray) (hs : s.size ≤ 300) :
    Calls Try.prog 10 #[.string s] w fun e w' => e = .returned (.bool true) ∧ Ext w w' := by
  have j1 : ¬ (300 : Int) < (s.size : Int) := by omega
  go_enter Try.func10, Try.ntmps10
  go_wp2_with fail
  refine (linesof_any s _ (by omega)).mono ?_
  rintro e u1 ⟨R, rfl, hR, htx, hx, _⟩
  have ha : Ext u1 (u1.alloc (.cells #[.pointer (some ⟨R.rb, 0, none⟩)] 64)) := (Mod.refl _ u1).alloc _
  have hRa := hR.ext ha
  have hxa := hx.ext_trans ha
  have hl := text_size htx
  have hbl := brk_le R.text
  have hM := many_any R _ hRa
  have hJ := fun k hk => join_line R s k htx hk
  have hE := join_end R s htx
  have hno := fun v hv => start_no R (brk R.text + 1 : Nat) v hv (has_not (by omega))
  have HJ := Lib.hid hJ
  have HE := Lib.hid hE
  have Hno := Lib.hid hno
  have Hx := Lib.hid hx
  clear hJ hE hno hx htx
  have hB : ∃ B, B = brk R.text := ⟨_, rfl⟩
  obtain ⟨B, hB⟩ := hB
  rw [← hB] at hM HJ HE Hno hbl
  clear hB
  have hB2 : B ≤ 300 := by omega
  go_wp2_with fail
  refine hM.mono ?_
  rintro e u2 ⟨rfl, y2⟩
  clear hM
  go_wp2_with fail
  go_loopw [5, 7] (fun p q wr => ∃ (k : Nat) (A : ByteArray), k ≤ B + 1 ∧ q = .int .i64 k ∧ p = .string A ∧ A.size ≤ s.size ∧ Hid (A = s.extract 0 (endJ R.text k)) ∧ Ext (u1.alloc (.cells #[.pointer (some ⟨R.rb, 0, none⟩)] 64)) wr) (fun _ q _ => B + 1 - (intOf q).toNat)
  case atStart => exact ⟨0, _, by omega, rfl, rfl, Nat.zero_le _, Lib.hid (by simp [endJ]; rfl), y2⟩
  case round =>
    obtain ⟨k, A, hk, rfl, rfl, hAs, hA, y⟩ := hrel
    by_cases hlt : k < B + 1
    · have hlt' : (k : Int) < ((B + 1 : Nat) : Int) := by omega
      have hlt2 : (k : Int) ≤ (s.size : Int) := by omega
      obtain ⟨a, b, q1, q2, C0, C1, C2, HS⟩ := HJ.out k (by omega)
      have c := box_cell y
      go_wp2_with fail
      refine (C0.out _ (hRa.ext y)).mono ?_
      rintro e v1 ⟨rfl, z⟩
      replace y := y.ext_trans z
      replace c := box_cell y
      clear z
      go_wp2_with fail
      refine (C1.out _ (hRa.ext y)).mono ?_
      rintro e v2 ⟨rfl, z⟩
      replace y := y.ext_trans z
      replace c := box_cell y
      clear z
      go_wp2_with fail
      refine (C2.out _ (hRa.ext y)).mono ?_
      rintro e v3 ⟨rfl, z⟩
      replace y := y.ext_trans z
      clear c z
      have hse : (s.extract a b).size ≤ s.size - a := by rw [ByteArray.size_extract]; omega
      have hq1 : ¬ (b : Int) < (a : Int) := by omega
      have hq2 : ¬ (s.size : Int) < (b : Int) := by omega
      by_cases h0 : k = 0
      · obtain rfl := h0
        have hfin := HS.out.1 rfl
        have hA0 : A = ⟨#[]⟩ := by rw [hA.out]; simp [endJ]; rfl
        subst hA0
        have Hfin := Lib.hid hfin
        clear hfin
        go_wp2_with fail
        go_roundw
        case rel => exact ⟨1, _, by omega, by go_num, rfl, by first | exact Nat.le_trans hse (Nat.sub_le _ _) | (rw [ByteArray.size_append]; exact Nat.le_trans (by simpa using hse) (Nat.sub_le _ _)), Lib.hid (by first | exact Hfin.out | (rw [← Hfin.out]; simp)), y⟩
        case measure => simp [intOf]
      · have h0' : 0 < k := by omega
        have hfin := HS.out.2 h0'
        rw [← hA.out] at hfin
        have Hfin := Lib.hid hfin
        clear hfin
        go_wp2_with fail
        go_roundw
        case rel => exact ⟨k + 1, _, by omega, by go_num, rfl, by rw [Hfin.out, ByteArray.size_extract]; omega, Hfin, y⟩
        case measure => simp [intOf]; omega
    · have hlt' : ¬ (k : Int) < ((B + 1 : Nat) : Int) := by omega
      obtain rfl : k = B + 1 := by omega
      obtain rfl : A = s := by rw [hA.out]; exact HE.out
      have c := box_cell y
      go_wp2_with fail
      refine (Hno.out _ (hRa.ext y)).mono ?_
      rintro e v1 ⟨rfl, z⟩
      go_wp2_with fail
      refine (awake4_any _).mono ?_
      rintro e v3 ⟨rfl, y'⟩
      go_wp2_with fail
      go_ret
      exact ⟨rfl, ((hxa.ext_trans y).ext_trans z).ext_trans y'⟩

set_option maxHeartbeats 800000 in
set_option maxRecDepth 1000000 in
theorem linesJoin_calls (w : World) (s : ByteArray) (ws : s.size ≤ 9223372036854775807) :
    Calls Try.prog 10 #[.string s] w fun e w' => e = .returned (.bool true) ∧ Ext w w' := by
  by_cases h1 : s.size ≤ 300
  · exact linesJoin_any w s h1
  · have j1 : (300 : Int) < (s.size : Int) := by omega
    clear ws
    go_enter Try.func10, Try.ntmps10
    go_wp2_with fail
    refine (awake4_any _).mono ?_
    rintro e w1 ⟨rfl, hx⟩
    go_wp2_with fail
    go_ret
    exact ⟨rfl, hx⟩

end Go.Proofs.Ytbcjlbapgidhiaa

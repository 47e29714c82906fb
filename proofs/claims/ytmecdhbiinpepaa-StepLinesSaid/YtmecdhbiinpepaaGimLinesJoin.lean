/- The lines, with breaks between, are the text; each one's Start is in it: the plain law and the walk. Conditions: none. -/
import Derived.Test.YtmecdhbiinpepaaGimPackC
namespace Go.Gim
theorem upto3_at (l : List UInt8) : ∀ j, j < brk l → l[upto 3 l j]? = some 10 ∧ brk (l.take (upto 3 l j)) = j := by
  induction l with
  | nil => intro j h; rw [brk_nil] at h; omega
  | cons c r ih =>
    intro j h
    rw [brk_cons] at h
    simp only [upto, byW3_one]
    by_cases hc : (c == 10) = true
    · have hc' : c = 10 := by simpa using hc
      rw [if_pos hc] at h ⊢
      by_cases hj : j < 1
      · rw [if_pos hj]
        refine ⟨by simp [hc'], ?_⟩
        rw [List.take_zero, brk_nil]; omega
      · rw [if_neg hj]
        obtain ⟨a, b⟩ := ih (j - 1) (by omega)
        rw [Nat.add_comm 1]
        refine ⟨by rw [List.getElem?_cons_succ]; exact a, ?_⟩
        rw [List.take_succ_cons, brk_cons, b, if_pos hc]; omega
    · rw [if_neg hc] at h ⊢
      rw [if_neg (Nat.not_lt_zero j), Nat.sub_zero]
      obtain ⟨a, b⟩ := ih j (by omega)
      rw [Nat.add_comm 1]
      refine ⟨by rw [List.getElem?_cons_succ]; exact a, ?_⟩
      rw [List.take_succ_cons, brk_cons, b, if_neg hc]; rfl
theorem upto3_next (l : List UInt8) (j : Nat) (h : j < brk l) : l.take (upto 3 l j + 1) = l.take (upto 3 l j) ++ [10] := by
  rw [List.take_add_one, (upto3_at l j h).1]; rfl
/-- A line's own number is found at where it begins. -/
theorem line_at (l : List UInt8) (j : Nat) (h : j ≤ brk l) : brk (l.take (lineN l j)) = j := by
  cases j with
  | zero => rfl
  | succ j =>
    rw [show lineN l (j + 1) = upto 3 l j + 1 from by simp [lineN], upto3_next l j (by omega), brk_append, (upto3_at l j (by omega)).2]
    rfl
/-- Where what is joined ends. -/
def endJ (l : List UInt8) (k : Nat) : Nat := if k = 0 then 0 else lineE l (k - 1)
theorem endJ_step (s : ByteArray) (k : Nat) (h : k + 1 ≤ brk s.data.toList) (hle : lineN s.data.toList (k + 1) ≤ lineE s.data.toList (k + 1)) :
    s.extract 0 (endJ s.data.toList (k + 1)) ++ ⟨#[10]⟩ ++ s.extract (lineN s.data.toList (k + 1)) (lineE s.data.toList (k + 1)) = s.extract 0 (lineE s.data.toList (k + 1)) := by
  have e1 : endJ s.data.toList (k + 1) = upto 3 s.data.toList k := by simp [endJ, lineE]
  have e2 : lineN s.data.toList (k + 1) = upto 3 s.data.toList k + 1 := by simp [lineN]
  have hn := upto3_next s.data.toList k (by omega)
  rw [e1]
  generalize lineE s.data.toList (k + 1) = b at *
  have e3 : s.extract 0 (upto 3 s.data.toList k) ++ ⟨#[10]⟩ = s.extract 0 (lineN s.data.toList (k + 1)) := by
    rw [e2, extract_bs, extract_bs]
    simp only [List.drop_zero, Nat.sub_zero]
    rw [hn]
    generalize List.take (upto 3 s.data.toList k) s.data.toList = q
    show bs q ++ bs [10] = _
    apply ByteArray.ext
    apply Array.toList_inj.1
    simp only [ByteArray.data_append, Array.toList_append, bs_toList]
  rw [e3]
  generalize lineN s.data.toList (k + 1) = a at *
  rw [extract_bs, extract_bs, extract_bs]
  apply ByteArray.ext
  apply Array.toList_inj.1
  simp only [ByteArray.data_append, Array.toList_append, bs_toList, List.drop_zero, Nat.sub_zero]
  have := List.take_add (l := s.data.toList) (i := a) (j := b - a)
  rw [show a + (b - a) = b from by omega] at this
  exact this.symm
end Go.Gim

namespace Go.Proofs.Ytmecdhbiinpepaa
open Go.RowKit Go.Gim

theorem text_size {R : Rp} {s : ByteArray} (ht : R.text = s.data.toList) : R.text.length = s.size := by
  rw [ht, toList_length]
theorem join_line (R : Rp) (s : ByteArray) (k : Nat) (ht : R.text = s.data.toList) (hk : k ≤ brk R.text) :
    ∃ a b : Nat, a ≤ b ∧ b ≤ s.size ∧
      Hid (∀ v, RopeAt v R → Calls Try.prog 52 #[.agg #[.pointer (some ⟨R.rb, 0, none⟩)], .int .i64 k] v fun e w' => e = .returned (.tuple #[.int .i64 a, .int .i64 0]) ∧ Ext v w') ∧
      Hid (∀ v, RopeAt v R → Calls Try.prog 67 #[.agg #[.pointer (some ⟨R.rb, 0, none⟩)], .int .i64 k] v fun e w' => e = .returned (.tuple #[.int .i64 b, .int .i64 0]) ∧ Ext v w') ∧
      Hid (∀ v, RopeAt v R → Calls Try.prog 51 #[.agg #[.pointer (some ⟨R.rb, 0, none⟩)], .int .i64 a] v fun e w' => e = .returned (.tuple #[.int .i64 k, .int .i64 0]) ∧ Ext v w') ∧
      Hid ((k = 0 → s.extract a b = s.extract 0 (endJ R.text (k + 1))) ∧ (0 < k → s.extract 0 (endJ R.text k) ++ ⟨#[10]⟩ ++ s.extract a b = s.extract 0 (endJ R.text (k + 1)))) := by
  have hl := text_size ht
  have hz := size_text ht
  have hh : hasB R.text (k : Nat) = true := has_of ⟨by omega, by omega⟩
  have h1 := lineN_lineE R.text k hk
  have h2 := lineE_le R.text k
  refine ⟨lineN R.text k, lineE R.text k, h1, by omega, Lib.hid fun v hv => start_yes R k v hv hh, Lib.hid fun v hv => end_yes R k v hv hh, Lib.hid fun v hv => ?_, Lib.hid ⟨?_, ?_⟩⟩
  · have h := at_yes R (lineN R.text k : Nat) v hv (rises_of ⟨by omega, by omega, by omega⟩)
    rw [Int.toNat_natCast, line_at R.text k hk] at h
    exact h
  · rintro rfl
    simp [lineN, endJ]
  · intro h0
    obtain ⟨j, rfl⟩ : ∃ j, k = j + 1 := ⟨k - 1, by omega⟩
    rw [ht] at hk h1 ⊢
    exact endJ_step s j hk h1
theorem join_end (R : Rp) (s : ByteArray) (ht : R.text = s.data.toList) : s.extract 0 (endJ R.text (brk R.text + 1)) = s := by
  have hl := text_size ht
  have : endJ R.text (brk R.text + 1) = s.size := by
    simp only [endJ]
    rw [if_neg (by omega), Nat.add_sub_cancel, lineE_last]; exact hl
  rw [this]; simp

end Go.Proofs.Ytmecdhbiinpepaa

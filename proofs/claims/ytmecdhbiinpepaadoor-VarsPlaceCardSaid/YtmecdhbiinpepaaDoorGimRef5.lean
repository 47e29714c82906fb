/- What the reference gimletref4 computes of a text: At, Place, Offset, Indent. Conditions: a text of at most 65536 bytes. -/
import Derived.Test.YtmecdhbiinpepaaDoorGimRef2
namespace Go.Gim
theorem byW_cut (way : Int) (l : List UInt8) (a b : Nat) (h : a ≤ b) : (byW way (cut l a b) : Int) = (byW way (l.take b) : Int) - (byW way (l.take a) : Int) := by
  have e : l.take b = l.take a ++ cut l a b := by
    unfold cut
    simp only [Int.toNat_natCast]
    have h1 : (l.take b).take a = l.take a := by rw [List.take_take, Nat.min_eq_left h]
    rw [← h1, List.take_append_drop]
  rw [e, byW_append]; omega
theorem upto_cut (way : Int) (l : List UInt8) (S T c : Nat) (h : S ≤ T) (hT : T ≤ l.length) :
    (if 2 * ((T : Int) - (S : Int)) ≤ (c : Int) then T else min T (upto way l (byW way (l.take S) + c))) = S + upto way (cut l S T) c := by
  have hc : (cut l S T).length = T - S := by rw [cut_len]; omega
  have e : l = l.take S ++ (cut l S T ++ l.drop T) := by
    have h1 : (l.take T).take S = l.take S := by rw [List.take_take, Nat.min_eq_left h]
    have h2 : cut l S T = (l.take T).drop S := by unfold cut; simp
    rw [← List.append_assoc, h2, ← h1, List.take_append_drop, List.take_append_drop]
  have hts : (l.take S).length = S := by rw [List.length_take]; omega
  have hU : upto way l (byW way (l.take S) + c) = S + upto way (cut l S T ++ l.drop T) c := by
    conv => lhs; rw [e]
    rw [upto_append_ge _ _ _ _ (by rw [← e]; omega)]
    rw [← e, hts, Nat.add_sub_cancel_left]
  have hle := upto_le way (cut l S T) c
  by_cases hb : byW way (cut l S T) ≤ c
  · have h1 := upto_all way (cut l S T) c hb
    have h2 := upto_append_ge way (cut l S T) (l.drop T) c hb
    split <;> omega
  · have h1 := upto_append_lt way (cut l S T) (l.drop T) c (by omega)
    have h2 := byW_le way (cut l S T)
    rw [if_neg (by omega), hU, h1]; omega
theorem upto3_break (l : List UInt8) : ∀ n, upto 3 l n < l.length → l[upto 3 l n]? = some 10 := by
  induction l with
  | nil => intro n h; simp [upto] at h
  | cons c r ih =>
    intro n h
    simp only [upto, byW3_one] at h ⊢
    by_cases hc : (c == 10) = true
    · simp only [hc, if_true] at h ⊢
      by_cases hn : n < 1
      · rw [if_pos hn]
        have : c = 10 := by simpa using hc
        rw [this]; rfl
      · rw [if_neg hn] at h ⊢
        rw [Nat.add_comm, List.getElem?_cons_succ]
        exact ih _ (by simp only [List.length_cons] at h; omega)
    · simp only [hc, Bool.false_eq_true, if_false, Nat.sub_zero] at h ⊢
      rw [if_neg (by omega)] at h ⊢
      rw [Nat.add_comm, List.getElem?_cons_succ]
      exact ih _ (by simp only [List.length_cons] at h; omega)
theorem blanks_append (a b : List UInt8) (h : b = [] ∨ ∃ r, b = 10 :: r) : blanks (a ++ b) = blanks a := by
  induction a with
  | nil =>
    rcases h with rfl | ⟨r, rfl⟩
    · rfl
    · rfl
  | cons c q ih =>
    simp only [List.cons_append, blanks, List.takeWhile_cons] at ih ⊢
    split
    · rw [ih]
    · rfl
theorem drop_cut (l : List UInt8) (S T : Nat) (h : S ≤ T) (hT : T ≤ l.length) : l.drop S = cut l S T ++ l.drop T := by
  have h2 : cut l S T = (l.take T).drop S := by unfold cut; simp
  have h1 : (l.take T ++ l.drop T).drop S = (l.take T).drop S ++ l.drop T := List.drop_append_of_le_length (by rw [List.length_take]; omega)
  rw [List.take_append_drop] at h1
  rw [h1, h2]
theorem blanks_line (l : List UInt8) (j : Nat) (h : j ≤ brk l) : blanks (l.drop (lineN l j)) = blanks (cut l (lineN l j) (lineE l j)) := by
  have h1 := lineN_lineE l j h
  have h2 := lineE_le l j
  have e := drop_cut l _ _ h1 h2
  rw [e]
  refine blanks_append _ _ ?_
  by_cases hl : lineE l j < l.length
  · right
    have := upto3_break l j hl
    obtain ⟨hh, h3⟩ := List.getElem?_eq_some_iff.1 this
    exact ⟨_, by rw [List.drop_eq_getElem_cons (show lineE l j < l.length from hl)]; congr 1⟩
  · left; exact List.drop_of_length_le (by omega)
end Go.Gim
namespace Go.Proofs.YtmecdhbiinpepaaDoor
open Go.RowKit Go.Gim

set_option maxHeartbeats 800000 in
set_option maxRecDepth 1000000 in
theorem refAt_no (s : ByteArray) (f : Int) (w : World) (hn : risesB f f s.size = false) : Calls Tryd.prog 40 #[.string s, .int .i64 f] w fun e w' => e = .returned (.tuple #[.int .i64 0, .int .i64 3]) ∧ Ext w w' := by
  have hn2 : ¬ (0 ≤ f ∧ f ≤ f ∧ f ≤ (s.size : Int)) := fun hh => by rw [rises_of hh] at hn; cases hn
  clear hn
  by_cases h1 : f < 0
  · clear hn2
    go_enter Tryd.func40, Tryd.ntmps40
    go_wp2_with fail
    go_ret2
    exact ⟨rfl, Mod.refl _ _⟩
  · have h1' : decide (f < 0) = false := by simpa using h1
    have h2 : (s.size : Int) < f := by omega
    clear hn2
    go_enter Tryd.func40, Tryd.ntmps40
    go_wp2_with fail
    go_ret2
    exact ⟨rfl, Mod.refl _ _⟩
set_option maxHeartbeats 800000 in
set_option maxRecDepth 1000000 in
theorem refAt_yes (s : ByteArray) (f : Int) (w : World) (hs : s.size ≤ 65536) (hn : risesB f f s.size = true) : Calls Tryd.prog 40 #[.string s, .int .i64 f] w fun e w' => e = .returned (.tuple #[.int .i64 (brk (s.data.toList.take f.toNat) : Nat), .int .i64 0]) ∧ Ext w w' := by
  obtain ⟨g1, _, g3⟩ := rises_out hn
  have h1' : decide (f < 0) = false := by simpa using g1
  have h2 : ¬ (s.size : Int) < f := by omega
  have hof := fun v => ref2Of_any (s.extract 0 f.toNat) v (by simp; omega)
  have hex : (s.extract 0 f.toNat).data.toList = s.data.toList.take f.toNat := by rw [extract_bs, bs_toList]; simp
  rw [hex] at hof
  have Hof := Lib.hid hof
  generalize s.data.toList.take f.toNat = X at *
  have hfd : ∀ v : World, (Instr.field 93 (.agg (#[Value.int IntKind.i64 ((byt (X) : Nat) : Int), Value.int IntKind.i64 ((brk (X) : Nat) : Int), Value.int IntKind.i64 ((run (X) : Nat) : Int), Value.int IntKind.i64 ((unt (X) : Nat) : Int)] : Array Value)) 1).run Tryd.prog v = .ok (.int .i64 ((brk X : Nat) : Int)) v := fun _ => by kernel_rfl
  clear hn hof hex
  go_enter Tryd.func40, Tryd.ntmps40
  go_wp2_with fail
  refine (Hof.out _).mono ?_
  rintro e w1 ⟨rfl, hx⟩
  go_wp2_with fail
  go_ret2
  exact ⟨rfl, hx⟩

end Go.Proofs.YtmecdhbiinpepaaDoor

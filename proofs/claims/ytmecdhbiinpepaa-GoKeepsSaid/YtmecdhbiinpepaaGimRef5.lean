/- What the reference gimletref4 computes of a text: At, Place, Offset, Indent. Conditions: a text of at most 65536 bytes. -/
import Derived.Test.YtmecdhbiinpepaaGimRef2
namespace Go.Gim
theorem byW_cut (way : Int) (l : List UInt8) (a b : Nat) (h : a ≤ b) : (byW way (cut l a b) : Int) = (byW way (l.take b) : Int) - (byW way (l.take a) : Int) := by
  have e : l.take b = l.take a ++ cut l a b := by
    unfold cut
    simp only [Int.toNat_natCast]
    have h1 : (l.take b).take a = l.take a := by rw [List.take_take, Nat.min_eq_left h]
    rw [← h1, List.take_append_drop]
  rw [e, byW_append]; omega
theorem upto_cut (way : Int) (l : List UInt8) (S T c : Nat) (h : S ≤ T) (hT : T ≤ l.length) :
    (if 2 * ((T : Int) - (S : Int)) ≤ (c : Int) then T else min T (upto way l (byW way (l.take S) + c))) = S + upto way (cut l S T) c := by
  have hc : (cut l S T).length = T - S := by rw [cut_len]; omega
  have e : l = l.take S ++ (cut l S T ++ l.drop T) := by
    have h1 : (l.take T).take S = l.take S := by rw [List.take_take, Nat.min_eq_left h]
    have h2 : cut l S T = (l.take T).drop S := by unfold cut; simp
    rw [← List.append_assoc, h2, ← h1, List.take_append_drop, List.take_append_drop]
  have hts : (l.take S).length = S := by rw [List.length_take]; omega
  have hU : upto way l (byW way (l.take S) + c) = S + upto way (cut l S T ++ l.drop T) c := by
    conv => lhs; rw [e]
    rw [upto_append_ge _ _ _ _ (by rw [← e]; omega)]
    rw [← e, hts, Nat.add_sub_cancel_left]
  have hle := upto_le way (cut l S T) c
  by_cases hb : byW way (cut l S T) ≤ c
  · have h1 := upto_all way (cut l S T) c hb
    have h2 := upto_append_ge way (cut l S T) (l.drop T) c hb
    split <;> omega
  · have h1 := upto_append_lt way (cut l S T) (l.drop T) c (by omega)
    have h2 := byW_le way (cut l S T)
    rw [if_neg (by omega), hU, h1]; omega
theorem upto3_break (l : List UInt8) : ∀ n, upto 3 l n < l.length → l[upto 3 l n]? = some 10 := by
  induction l with
  | nil => intro n h; simp [upto] at h
  | cons c r ih =>
    intro n h
    simp only [upto, byW3_one] at h ⊢
    by_cases hc : (c == 10) = true
    · simp only [hc, if_true] at h ⊢
      by_cases hn : n < 1
      · rw [if_pos hn]
        have : c = 10 := by simpa using hc
        rw [this]; rfl
      · rw [if_neg hn] at h ⊢
        rw [Nat.add_comm, List.getElem?_cons_succ]
        exact ih _ (by simp only [List.length_cons] at h; omega)
    · simp only [hc, Bool.false_eq_true, if_false, Nat.sub_zero] at h ⊢
      rw [if_neg (by omega)] at h ⊢
      rw [Nat.add_comm, List.getElem?_cons_succ]
      exact ih _ (by simp only [List.length_cons] at h; omega)
theorem blanks_append (a b : List UInt8) (h : b = [] ∨ ∃ r, b = 10 :: r) : blanks (a ++ b) = blanks a := by
  induction a with
  | nil =>
    rcases h with rfl | ⟨r, rfl⟩
    · rfl
    · rfl
  | cons c q ih =>
    simp only [List.cons_append, blanks, List.takeWhile_cons] at ih ⊢
    split
    · rw [ih]
    · rfl
theorem drop_cut (l : List UInt8) (S T : Nat) (h : S ≤ T) (hT : T ≤ l.length) : l.drop S = cut l S T ++ l.drop T := by
  have h2 : cut l S T = (l.take T).drop S := by unfold cut; simp
  have h1 : (l.take T ++ l.drop T).drop S = (l.take T).drop S ++ l.drop T := List.drop_append_of_le_length (by rw [List.length_take]; omega)
  rw [List.take_append_drop] at h1
  rw [h1, h2]
theorem blanks_line (l : List UInt8) (j : Nat) (h : j ≤ brk l) : blanks (l.drop (lineN l j)) = blanks (cut l (lineN l j) (lineE l j)) := by
  have h1 := lineN_lineE l j h
  have h2 := lineE_le l j
  have e := drop_cut l _ _ h1 h2
  rw [e]
  refine blanks_append _ _ ?_
  by_cases hl : lineE l j < l.length
  · right
    have := upto3_break l j hl
    obtain ⟨hh, h3⟩ := List.getElem?_eq_some_iff.1 this
    exact ⟨_, by rw [List.drop_eq_getElem_cons (show lineE l j < l.length from hl)]; congr 1⟩
  · left; exact List.drop_of_length_le (by omega)
end Go.Gim
namespace Go.Proofs.Ytmecdhbiinpepaa
open Go.RowKit Go.Gim

set_option maxHeartbeats 800000 in
set_option maxRecDepth 1000000 in
theorem refAt_no (s : ByteArray) (f : Int) (w : World) (hn : risesB f f s.size = false) : Calls Try.prog 73 #[.string s, .int .i64 f] w fun e w' => e = .returned (.tuple #[.int .i64 0, .int .i64 3]) ∧ Ext w w' := by
  have hn2 : ¬ (0 ≤ f ∧ f ≤ f ∧ f ≤ (s.size : Int)) := fun hh => by rw [rises_of hh] at hn; cases hn
  clear hn
  by_cases h1 : f < 0
  · clear hn2
    go_enter Try.func73, Try.ntmps73
    go_wp2_with fail
    go_ret2
    exact ⟨rfl, Mod.refl _ _⟩
  · have h1' : decide (f < 0) = false := by simpa using h1
    have h2 : (s.size : Int) < f := by omega
    clear hn2
    go_enter Try.func73, Try.ntmps73
    go_wp2_with fail
    go_ret2
    exact ⟨rfl, Mod.refl _ _⟩
set_option maxHeartbeats 800000 in
set_option maxRecDepth 1000000 in
theorem refAt_yes (s : ByteArray) (f : Int) (w : World) (hs : s.size ≤ 65536) (hn : risesB f f s.size = true) : Calls Try.prog 73 #[.string s, .int .i64 f] w fun e w' => e = .returned (.tuple #[.int .i64 (brk (s.data.toList.take f.toNat) : Nat), .int .i64 0]) ∧ Ext w w' := by
  obtain ⟨g1, _, g3⟩ := rises_out hn
  have h1' : decide (f < 0) = false := by simpa using g1
  have h2 : ¬ (s.size : Int) < f := by omega
  have hof := fun v => ref2Of_any (s.extract 0 f.toNat) v (by simp; omega)
  have hex : (s.extract 0 f.toNat).data.toList = s.data.toList.take f.toNat := by rw [extract_bs, bs_toList]; simp
  rw [hex] at hof
  have Hof := Lib.hid hof
  generalize s.data.toList.take f.toNat = X at *
  have hfd : ∀ v : World, (Instr.field 100 (.agg (#[Value.int IntKind.i64 ((byt (X) : Nat) : Int), Value.int IntKind.i64 ((brk (X) : Nat) : Int), Value.int IntKind.i64 ((run (X) : Nat) : Int), Value.int IntKind.i64 ((unt (X) : Nat) : Int)] : Array Value)) 1).run Try.prog v = .ok (.int .i64 ((brk X : Nat) : Int)) v := fun _ => by kernel_rfl
  clear hn hof hex
  go_enter Try.func73, Try.ntmps73
  go_wp2_with fail
  refine (Hof.out _).mono ?_
  rintro e w1 ⟨rfl, hx⟩
  go_wp2_with fail
  go_ret2
  exact ⟨rfl, hx⟩

set_option maxHeartbeats 800000 in
set_option maxRecDepth 1000000 in
theorem refPlace_way (s : ByteArray) (f way : Int) (w : World) (h : wayB way = false) : Calls Try.prog 40 #[.string s, .int .i64 f, .int .i64 way] w fun e w' => e = .returned (.tuple #[.int .i64 0, .int .i64 0, .int .i64 2]) ∧ Ext w w' := by
  have hc := fun v => good_any way v
  rw [h] at hc
  have Hc := Lib.hid hc
  clear hc h
  go_enter Try.func40, Try.ntmps40
  go_wp2_with fail
  refine (Hc.out _).mono ?_
  rintro e w1 ⟨rfl, rfl⟩
  go_wp2_with fail
  go_ret3
  exact ⟨rfl, Mod.refl _ _⟩
set_option maxHeartbeats 800000 in
set_option maxRecDepth 1000000 in
theorem refPlace_no (s : ByteArray) (f way : Int) (w : World) (h : wayB way = true) (hn : risesB f f s.size = false) : Calls Try.prog 40 #[.string s, .int .i64 f, .int .i64 way] w fun e w' => e = .returned (.tuple #[.int .i64 0, .int .i64 0, .int .i64 3]) ∧ Ext w w' := by
  have hc := fun v => good_any way v
  rw [h] at hc
  have Hc := Lib.hid hc
  have ha := refAt_no s f w hn
  clear hc h hn
  go_enter Try.func40, Try.ntmps40
  go_wp2_with fail
  refine (Hc.out _).mono ?_
  rintro e w1 ⟨rfl, rfl⟩
  go_wp2_with fail
  refine ha.mono ?_
  rintro e w1 ⟨rfl, hx⟩
  go_wp2_with fail
  go_ret3
  exact ⟨rfl, hx⟩
set_option maxHeartbeats 1600000 in
set_option maxRecDepth 1000000 in
theorem refPlace_yes (s : ByteArray) (f way : Int) (w : World) (hs : s.size ≤ 65536) (h : wayB way = true) (hn : risesB f f s.size = true) : Calls Try.prog 40 #[.string s, .int .i64 f, .int .i64 way] w (PlacePost s.data.toList f way w) := by
  have hc := fun v => good_any way v
  rw [h] at hc
  obtain ⟨g1, _, g3⟩ := rises_out hn
  have ha := refAt_yes s f w hs hn
  have hbl : brk (s.data.toList.take f.toNat) ≤ brk s.data.toList := by
    have : brk s.data.toList = brk (s.data.toList.take f.toNat) + brk (s.data.toList.drop f.toNat) := by rw [← brk_append, List.take_append_drop]
    omega
  have hst := fun v => refStart_yes s (brk (s.data.toList.take f.toNat)) v (by omega) (has_of ⟨by omega, by omega⟩)
  have hle := lineN_le s.data.toList f.toNat
  have hcut := byW_cut way s.data.toList _ _ hle
  unfold PlacePost
  rw [← hcut]
  generalize lineN s.data.toList (brk (s.data.toList.take f.toNat)) = S at *
  generalize brk (s.data.toList.take f.toNat) = L at *
  have hof := fun v => ref2Of_any (s.extract S f.toNat) v (by simp; omega)
  have hex : (s.extract S f.toNat).data.toList = cut s.data.toList S f.toNat := extract_cut s S f.toNat S f.toNat (Int.toNat_natCast _) (Int.toNat_natCast _)
  rw [hex] at hof
  generalize cut s.data.toList S f.toNat = X at *
  have Hc := Lib.hid hc
  have Hst := Lib.hid hst
  have Hof := Lib.hid hof
  have Hw := Lib.hid h
  have e1 : (S : Int) ≤ f := by omega
  have e2 : (0 : Int) ≤ (S : Int) := by omega
  clear hc h hn hst hbl hcut hof hex
  go_enter Try.func40, Try.ntmps40
  go_wp2_with fail
  refine (Hc.out _).mono ?_
  rintro e w1 ⟨rfl, rfl⟩
  go_wp2_with fail
  refine ha.mono ?_
  rintro e w2 ⟨rfl, hx⟩
  go_wp2_with fail
  refine (Hst.out _).mono ?_
  rintro e w3 ⟨rfl, hx2⟩
  go_wp2_with fail
  refine (Hof.out _).mono ?_
  rintro e w4 ⟨rfl, hx3⟩
  go_wp2_with fail
  refine (rby_any X way _ Hw.out).mono ?_
  rintro e w5 ⟨rfl, hx4⟩
  go_wp2_with fail
  go_ret3
  exact ⟨rfl, ((hx.ext_trans hx2).ext_trans hx3).ext_trans hx4⟩

set_option maxHeartbeats 800000 in
set_option maxRecDepth 1000000 in
theorem refOffset_way (s : ByteArray) (line col way : Int) (w : World) (h : wayB way = false) : Calls Try.prog 45 #[.string s, .int .i64 line, .int .i64 col, .int .i64 way] w fun e w' => e = .returned (.tuple #[.int .i64 0, .int .i64 2]) ∧ Ext w w' := by
  have hc := fun v => good_any way v
  rw [h] at hc
  have Hc := Lib.hid hc
  clear hc h
  go_enter Try.func45, Try.ntmps45
  go_wp2_with fail
  refine (Hc.out _).mono ?_
  rintro e w1 ⟨rfl, rfl⟩
  go_wp2_with fail
  go_ret2
  exact ⟨rfl, Mod.refl _ _⟩
set_option maxHeartbeats 800000 in
set_option maxRecDepth 1000000 in
theorem refOffset_no (s : ByteArray) (line col way : Int) (w : World) (hs : s.size ≤ 65536) (h : wayB way = true) (hn : hasB s.data.toList line = false) : Calls Try.prog 45 #[.string s, .int .i64 line, .int .i64 col, .int .i64 way] w fun e w' => e = .returned (.tuple #[.int .i64 0, .int .i64 3]) ∧ Ext w w' := by
  have hc := fun v => good_any way v
  rw [h] at hc
  have Hc := Lib.hid hc
  have ha := refStart_no s line w (by omega) hn
  clear hc h hn
  go_enter Try.func45, Try.ntmps45
  go_wp2_with fail
  refine (Hc.out _).mono ?_
  rintro e w1 ⟨rfl, rfl⟩
  go_wp2_with fail
  refine ha.mono ?_
  rintro e w1 ⟨rfl, hx⟩
  go_wp2_with fail
  go_ret2
  exact ⟨rfl, hx⟩
set_option maxHeartbeats 800000 in
set_option maxRecDepth 1000000 in
theorem refOffset_neg (s : ByteArray) (line : Nat) (col way : Int) (w : World) (hs : s.size ≤ 65536) (h : wayB way = true) (hn : hasB s.data.toList line = true) (hcol : col < 0) : Calls Try.prog 45 #[.string s, .int .i64 line, .int .i64 col, .int .i64 way] w fun e w' => e = .returned (.tuple #[.int .i64 0, .int .i64 3]) ∧ Ext w w' := by
  have hc := fun v => good_any way v
  rw [h] at hc
  have Hc := Lib.hid hc
  have ha := refStart_yes s line w (by omega) hn
  clear hc h hn
  go_enter Try.func45, Try.ntmps45
  go_wp2_with fail
  refine (Hc.out _).mono ?_
  rintro e w1 ⟨rfl, rfl⟩
  go_wp2_with fail
  refine ha.mono ?_
  rintro e w1 ⟨rfl, hx⟩
  go_wp2_with fail
  go_ret2
  exact ⟨rfl, hx⟩
set_option maxHeartbeats 1600000 in
set_option maxRecDepth 1000000 in
theorem refOffset_yes (s : ByteArray) (line c : Nat) (way : Int) (w : World) (hs : s.size ≤ 65536) (h : wayB way = true) (hn : hasB s.data.toList line = true) (hci : IsInt c) : Calls Try.prog 45 #[.string s, .int .i64 line, .int .i64 c, .int .i64 way] w (OffsetPost s.data.toList line c way w) := by
  have hc := fun v => good_any way v
  rw [h] at hc
  have hst := refStart_yes s line w (by omega) hn
  have hen := fun v => refEnd_yes s line v (by omega) hn
  have hjb : line ≤ brk s.data.toList := by have := (has_out hn).2; omega
  have h1 := lineN_lineE s.data.toList line hjb
  have h2 := lineE_le s.data.toList line
  have hcut := upto_cut way s.data.toList _ _ c h1 h2
  rw [toList_length] at h2
  unfold OffsetPost offN
  rw [hcut]
  generalize lineN s.data.toList line = S at *
  generalize lineE s.data.toList line = T at *
  have hup := fun v => ref2Upto_any (s.extract S T) way c v h (by simp; omega) hci
  have hex : (s.extract S T).data.toList = cut s.data.toList S T := extract_cut s S T S T (by simp) (by simp)
  rw [hex] at hup
  have hul := upto_le way (cut s.data.toList S T) c
  have hcl : (cut s.data.toList S T).length ≤ 65536 := by rw [cut_len, toList_length]; omega
  generalize upto way (cut s.data.toList S T) c = U at *
  have hU : U ≤ 65536 := by omega
  have Hc := Lib.hid hc
  have Hen := Lib.hid hen
  have Hup := Lib.hid hup
  have e1 : (S : Int) ≤ (T : Int) := by omega
  have e2 : (0 : Int) ≤ (S : Int) := by omega
  have e3 : (T : Int) ≤ (s.size : Int) := by omega
  have e4 : (0 : Int) ≤ (c : Int) := by omega
  clear hc h hn hen hup hcut hex hul hcl hjb hci
  go_enter Try.func45, Try.ntmps45
  go_wp2_with fail
  refine (Hc.out _).mono ?_
  rintro e w1 ⟨rfl, rfl⟩
  go_wp2_with fail
  refine hst.mono ?_
  rintro e w2 ⟨rfl, hx⟩
  go_wp2_with fail
  refine (Hen.out _).mono ?_
  rintro e w3 ⟨rfl, hx2⟩
  go_wp2_with fail
  refine (Hup.out _).mono ?_
  rintro e w4 ⟨rfl, hx3⟩
  go_wp2_with fail
  go_ret2
  exact ⟨congrArg (fun z : Int => Ending.returned (.tuple #[.int .i64 z, .int .i64 0])) (show (S : Int) + (U : Int) = ((S + U : Nat) : Int) from by omega), (hx.ext_trans hx2).ext_trans hx3⟩

end Go.Proofs.Ytmecdhbiinpepaa

/- What package lines computes of a rope's text: Indent. Conditions: a rope of at most 65536 bytes. -/
import Derived.Test.YtbcjlbapgidhiaaGimLines4
namespace Go.Gim
theorem upto3_lt (l : List UInt8) : ∀ j, j + 1 ≤ brk l → upto 3 l j < upto 3 l (j + 1) := by
  induction l with
  | nil => intro j h; simp [brk_nil] at h
  | cons c r ih =>
    intro j h
    rw [brk_cons] at h
    simp only [upto, byW3_one]
    by_cases hc : (c == 10) = true
    · simp only [hc, if_true] at h ⊢
      cases j with
      | zero => simp; omega
      | succ j =>
        rw [if_neg (by omega), if_neg (by omega)]
        have := ih j (by omega)
        simp only [Nat.add_sub_cancel]; omega
    · simp only [hc, Bool.false_eq_true, if_false, Nat.add_zero, Nat.sub_zero] at h ⊢
      rw [if_neg (by omega), if_neg (by omega)]
      have := ih j h; omega
theorem lineN_lineE (l : List UInt8) (j : Nat) (h : j ≤ brk l) : lineN l j ≤ lineE l j := by
  cases j with
  | zero => simp [lineN]
  | succ j =>
    have := upto3_lt l j h
    simp only [lineN, lineE]
    rw [if_neg (by omega), Nat.add_sub_cancel]; omega
theorem blanks_nil : blanks [] = [] := rfl
theorem blanks_yes (c : UInt8) (r : List UInt8) (h : c.toNat = 32 ∨ c.toNat = 9) : blanks (c :: r) = c :: blanks r := by
  have : (c == 32 || c == 9) = true := by
    rcases h with h | h
    · have : c = 32 := UInt8.toNat_inj.1 h
      subst this; rfl
    · have : c = 9 := UInt8.toNat_inj.1 h
      subst this; rfl
  simp [blanks, this]
theorem blanks_no (c : UInt8) (r : List UInt8) (h : ¬ c.toNat = 32) (h2 : ¬ c.toNat = 9) : blanks (c :: r) = [] := by
  have : (c == 32 || c == 9) = false := by
    simp only [Bool.or_eq_false_iff, beq_eq_false_iff_ne]
    exact ⟨fun e => h (by rw [e]; rfl), fun e => h2 (by rw [e]; rfl)⟩
  simp [blanks, this]
end Go.Gim
namespace Go.Proofs.Ytbcjlbapgidhiaa
open Go.RowKit Go.Gim

set_option maxHeartbeats 800000 in
set_option maxRecDepth 1000000 in
theorem indent_nil (line : Int) (w : World) : Calls Try.prog 47 #[.agg #[.pointer none], .int .i64 line] w fun e w' => e = .returned (.tuple #[.string ⟨#[]⟩, .int .i64 1]) ∧ Ext w w' := by
  have hx0 : Ext w (w.alloc (.cells #[.pointer none] 64)) := (Mod.refl _ w).alloc _
  go_enter Try.func47, Try.ntmps47
  go_wp2_with fail
  refine (start_nil line _).mono ?_
  rintro e w1 ⟨rfl, hx⟩
  go_wp2_with fail
  go_ret2
  exact ⟨rfl, hx0.ext_trans hx⟩
set_option maxHeartbeats 800000 in
set_option maxRecDepth 1000000 in
theorem indent_no (R : Rp) (line : Int) (w : World) (hR : RopeAt w R) (hn : hasB R.text line = false) : Calls Try.prog 47 #[.agg #[.pointer (some ⟨R.rb, 0, none⟩)], .int .i64 line] w fun e w' => e = .returned (.tuple #[.string ⟨#[]⟩, .int .i64 3]) ∧ Ext w w' := by
  have hx0 : Ext w (w.alloc (.cells #[.pointer (some ⟨R.rb, 0, none⟩)] 64)) := (Mod.refl _ w).alloc _
  have ha := start_no R line _ (hR.ext hx0) hn
  clear hn
  go_enter Try.func47, Try.ntmps47
  go_wp2_with fail
  refine ha.mono ?_
  rintro e w1 ⟨rfl, hx⟩
  go_wp2_with fail
  go_ret2
  exact ⟨rfl, hx0.ext_trans hx⟩

def IndentPost (l : List UInt8) (line : Nat) (w : World) (e : Ending) (w' : World) : Prop := e = .returned (.tuple #[.string (bs (blanks (cut l (lineN l line) (lineE l line)))), .int .i64 0]) ∧ Ext w w'

set_option maxHeartbeats 1600000 in
set_option maxRecDepth 1000000 in
theorem indent_yes (R : Rp) (line : Nat) (w : World) (hR : RopeAt w R) (hn : hasB R.text line = true) : Calls Try.prog 47 #[.agg #[.pointer (some ⟨R.rb, 0, none⟩)], .int .i64 line] w (IndentPost R.text line w) := by
  have hx0 : Ext w (w.alloc (.cells #[.pointer (some ⟨R.rb, 0, none⟩)] 64)) := (Mod.refl _ w).alloc _
  have h0 := hR.ext hx0
  have hsz := hR.size
  have hlen : R.text.length = R.t.size := rfl
  have hs := start_yes R line _ h0 hn
  have he := fun v (hv : Ext (w.alloc (.cells #[.pointer (some ⟨R.rb, 0, none⟩)] 64)) v) => end_yes R line v (h0.ext hv) hn
  have hle := lineE_le R.text line
  have hse := lineN_lineE R.text line (by have := (has_out hn).2; omega)
  have hsl := fun v (hv : Ext (w.alloc (.cells #[.pointer (some ⟨R.rb, 0, none⟩)] 64)) v) => slice_yes R (lineN R.text line : Nat) (lineE R.text line : Nat) v (h0.ext hv) (rises_of ⟨by omega, by omega, by omega⟩)
  unfold IndentPost
  have hcl := cut_len R.text (lineN R.text line : Nat) (lineE R.text line : Nat)
  generalize hX : cut R.text (lineN R.text line : Nat) (lineE R.text line : Nat) = X at *
  have hXl : (bs X).size ≤ 65536 := by rw [bs_size]; omega
  obtain ⟨s, hsx⟩ : ∃ s, s = bs X := ⟨_, rfl⟩
  rw [show X = s.data.toList from by rw [hsx]; rfl]
  rw [← hsx] at hsl hXl
  have Hsl := Lib.hid hsl
  have He := Lib.hid he
  generalize lineE R.text line = T at *
  generalize lineN R.text line = S at *
  clear hsl he hn hle hse hX hcl hsx
  go_enter Try.func47, Try.ntmps47
  go_wp2_with fail
  refine hs.mono ?_
  rintro e w1 ⟨rfl, hx⟩
  have hcell := box_cell hx
  go_wp2_with fail
  refine (He.out _ hx).mono ?_
  rintro e w2 ⟨rfl, hx2⟩
  have hx3 := hx.ext_trans hx2
  have hcell2 := box_cell hx3
  clear hcell hs
  go_wp2_with fail
  refine (Hsl.out _ hx3).mono ?_
  rintro e w3 ⟨rfl, hx4⟩
  have hx5 := (hx0.ext_trans hx3).ext_trans hx4
  clear hcell2
  go_wp2_with fail
  go_loop [12] (fun q => ∃ k : Nat, k ≤ s.size ∧ q = .int .i64 k ∧ Hid (blanks s.data.toList = s.data.toList.take k ++ blanks (s.data.toList.drop k))) (fun q => s.size - (intOf q).toNat)
  case atStart => exact ⟨0, by omega, rfl, Lib.hid (by simp)⟩
  case round =>
    obtain ⟨k, hk, rfl, HB⟩ := hrel
    by_cases hlt : k < s.size
    · have hlt' : (k : Int) < (s.size : Int) := by omega
      have hk0 : (0 : Int) ≤ (k : Int) := by omega
      have hd : s.data.toList.drop k = s[k] :: s.data.toList.drop (k + 1) := by
        rw [List.drop_eq_getElem_cons (by simpa using hlt)]; rfl
      have ht : s.data.toList.take (k + 1) = s.data.toList.take k ++ [s[k]] := by rw [← toList_get s k hlt, List.take_append_getElem]
      have Hd := Lib.hid hd
      have Ht := Lib.hid ht
      clear hd ht
      by_cases hc1 : s[k].toNat = 32
      · have b1 : ((s[k].toNat : Int) == 32) = true := by simp; omega
        have Hc1 := Lib.hid hc1
        clear hc1
        go_wp2_with fail
        go_round
        case rel => exact ⟨k + 1, by omega, by go_num, Lib.hid (by rw [HB.out, Hd.out, blanks_yes _ _ (.inl Hc1.out), Ht.out, List.append_assoc]; rfl)⟩
        case measure => simp [intOf]; omega
      · have b1 : ((s[k].toNat : Int) == 32) = false := by simp; omega
        have Hc1 := Lib.hid hc1
        clear hc1
        by_cases hc2 : s[k].toNat = 9
        · have b2 : ((s[k].toNat : Int) == 9) = true := by simp; omega
          have Hc2 := Lib.hid hc2
          clear hc2
          go_wp2_with fail
          go_round
          case rel => exact ⟨k + 1, by omega, by go_num, Lib.hid (by rw [HB.out, Hd.out, blanks_yes _ _ (.inr Hc2.out), Ht.out, List.append_assoc]; rfl)⟩
          case measure => simp [intOf]; omega
        · have b2 : ((s[k].toNat : Int) == 9) = false := by simp; omega
          have Hc2 := Lib.hid hc2
          clear hc2
          have hfin : s.extract 0 k = bs (blanks s.data.toList) := by
            rw [HB.out, Hd.out, blanks_no _ _ Hc1.out Hc2.out, List.append_nil, extract_bs]; simp
          have Hfin := Lib.hid hfin
          clear hfin
          go_wp2_with fail
          go_ret2
          exact ⟨congrArg (fun z => Ending.returned (.tuple #[.string z, .int .i64 0])) Hfin.out, hx5⟩
    · have hlt' : ¬ (k : Int) < (s.size : Int) := by omega
      obtain rfl : k = s.size := by omega
      have hfin : s = bs (blanks s.data.toList) := by
        rw [HB.out, List.drop_of_length_le (by rw [toList_length]; omega), blanks_nil, List.append_nil, List.take_of_length_le (by rw [toList_length]; omega), bs_of]
      have Hfin := Lib.hid hfin
      clear hfin
      go_wp2_with fail
      go_ret2
      exact ⟨congrArg (fun z => Ending.returned (.tuple #[.string z, .int .i64 0])) Hfin.out, hx5⟩

end Go.Proofs.Ytbcjlbapgidhiaa

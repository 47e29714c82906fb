/- What package lines computes of a rope's text: Start, End, At, counts, ahead. Conditions: a rope of at most 65536 bytes. -/
import Derived.Test.YtmecdhbiinpepaaGimLines
namespace Go.Proofs.Ytmecdhbiinpepaa
open Go.RowKit Go.Gim

set_option maxHeartbeats 800000 in
set_option maxRecDepth 1000000 in
theorem start_nil (line : Int) (w : World) : Calls Try.prog 52 #[.agg #[.pointer none], .int .i64 line] w fun e w' => e = .returned (.tuple #[.int .i64 0, .int .i64 1]) ∧ Ext w w' := by
  have hx0 : Ext w (w.alloc (.cells #[.pointer none] 35)) := (Mod.refl _ w).alloc _
  go_enter Try.func52, Try.ntmps52
  go_wp2_with fail
  refine (has_nil line _).mono ?_
  rintro e w1 ⟨rfl, hx⟩
  go_wp2_with fail
  go_ret2
  exact ⟨rfl, hx0.ext_trans hx⟩
set_option maxHeartbeats 800000 in
set_option maxRecDepth 1000000 in
theorem end_nil (line : Int) (w : World) : Calls Try.prog 67 #[.agg #[.pointer none], .int .i64 line] w fun e w' => e = .returned (.tuple #[.int .i64 0, .int .i64 1]) ∧ Ext w w' := by
  have hx0 : Ext w (w.alloc (.cells #[.pointer none] 35)) := (Mod.refl _ w).alloc _
  go_enter Try.func67, Try.ntmps67
  go_wp2_with fail
  refine (has_nil line _).mono ?_
  rintro e w1 ⟨rfl, hx⟩
  go_wp2_with fail
  go_ret2
  exact ⟨rfl, hx0.ext_trans hx⟩
set_option maxHeartbeats 800000 in
set_option maxRecDepth 1000000 in
theorem start_no (R : Rp) (line : Int) (w : World) (h : RopeAt w R) (hn : hasB R.text line = false) : Calls Try.prog 52 #[.agg #[.pointer (some ⟨R.rb, 0, none⟩)], .int .i64 line] w fun e w' => e = .returned (.tuple #[.int .i64 0, .int .i64 3]) ∧ Ext w w' := by
  have hx0 : Ext w (w.alloc (.cells #[.pointer (some ⟨R.rb, 0, none⟩)] 35)) := (Mod.refl _ w).alloc _
  have hc := has_no R line _ (h.ext hx0) hn
  clear hn
  go_enter Try.func52, Try.ntmps52
  go_wp2_with fail
  refine hc.mono ?_
  rintro e w1 ⟨rfl, hx⟩
  go_wp2_with fail
  go_ret2
  exact ⟨rfl, hx0.ext_trans hx⟩
set_option maxHeartbeats 800000 in
set_option maxRecDepth 1000000 in
theorem end_no (R : Rp) (line : Int) (w : World) (h : RopeAt w R) (hn : hasB R.text line = false) : Calls Try.prog 67 #[.agg #[.pointer (some ⟨R.rb, 0, none⟩)], .int .i64 line] w fun e w' => e = .returned (.tuple #[.int .i64 0, .int .i64 3]) ∧ Ext w w' := by
  have hx0 : Ext w (w.alloc (.cells #[.pointer (some ⟨R.rb, 0, none⟩)] 35)) := (Mod.refl _ w).alloc _
  have hc := has_no R line _ (h.ext hx0) hn
  clear hn
  go_enter Try.func67, Try.ntmps67
  go_wp2_with fail
  refine hc.mono ?_
  rintro e w1 ⟨rfl, hx⟩
  go_wp2_with fail
  go_ret2
  exact ⟨rfl, hx0.ext_trans hx⟩

theorem brk_small {w : World} {R : Rp} (h : RopeAt w R) : brk R.text ≤ 65536 := by
  have h1 := brk_le R.text
  have h2 := h.size
  have : R.text.length = R.t.size := rfl
  omega
set_option maxHeartbeats 1600000 in
set_option maxRecDepth 1000000 in
theorem start_zero (R : Rp) (w : World) (h : RopeAt w R) : Calls Try.prog 52 #[.agg #[.pointer (some ⟨R.rb, 0, none⟩)], .int .i64 0] w fun e w' => e = .returned (.tuple #[.int .i64 0, .int .i64 0]) ∧ Ext w w' := by
  have hx0 : Ext w (w.alloc (.cells #[.pointer (some ⟨R.rb, 0, none⟩)] 35)) := (Mod.refl _ w).alloc _
  have hc := has_yes R 0 _ (h.ext hx0) (has_of ⟨by omega, by omega⟩)
  go_enter Try.func52, Try.ntmps52
  go_wp2_with fail
  refine hc.mono ?_
  rintro e w1 ⟨rfl, hx⟩
  go_wp2_with fail
  go_ret2
  exact ⟨rfl, hx0.ext_trans hx⟩
set_option maxHeartbeats 1600000 in
set_option maxRecDepth 1000000 in
theorem start_succ (R : Rp) (k : Nat) (w : World) (h : RopeAt w R) (hn : hasB R.text (k + 1 : Nat) = true) : Calls Try.prog 52 #[.agg #[.pointer (some ⟨R.rb, 0, none⟩)], .int .i64 (k + 1 : Nat)] w fun e w' => e = .returned (.tuple #[.int .i64 (upto 3 R.text k + 1 : Nat), .int .i64 0]) ∧ Ext w w' := by
  have hx0 : Ext w (w.alloc (.cells #[.pointer (some ⟨R.rb, 0, none⟩)] 35)) := (Mod.refl _ w).alloc _
  have h0 := h.ext hx0
  have hc := has_yes R _ _ h0 hn
  obtain ⟨_, h2⟩ := has_out hn
  have hb := brk_small h
  have hk : (k : Int) ≤ 65536 := by omega
  have hk0 : (0 : Int) ≤ (k : Int) := by omega
  have hu := fun v (hv : Ext (w.alloc (.cells #[.pointer (some ⟨R.rb, 0, none⟩)] 35)) v) => upto_yes R 3 k v (h0.ext hv) (by omega) (by omega) (IsInt.small (by omega) (by omega))
  have hul := upto_le 3 R.text k
  have hrl : R.text.length ≤ 65536 := h.size
  generalize upto 3 R.text k = U at *
  have Hu := Lib.hid hu
  have hb0 : ((k : Int) + 1 == 0) = false := by simp; omega
  rw [show ((k + 1 : Nat) : Int) = (k : Int) + 1 from by omega] at hc ⊢
  clear hu hn h2
  go_enter Try.func52, Try.ntmps52
  go_wp2_with fail
  refine hc.mono ?_
  rintro e w1 ⟨rfl, hx⟩
  have hcell := ((Blk.new w 35 #[.pointer (some ⟨R.rb, 0, none⟩)]).mod hx (fun f => f)).cell 0
  simp only [List.getElem?_toArray, List.getElem?_cons_zero] at hcell
  go_wp2_with fail
  refine (Hu.out _ hx).mono ?_
  rintro e w2 ⟨rfl, hx2⟩
  go_wp2_with fail
  go_ret2
  exact ⟨congrArg (fun z : Int => Ending.returned (.tuple #[.int .i64 z, .int .i64 0])) (show (U : Int) + 1 = ((U + 1 : Nat) : Int) from by omega), (hx0.ext_trans hx).ext_trans hx2⟩
/-- Where a line begins, of a rope that has it. -/
theorem start_yes (R : Rp) (line : Nat) (w : World) (h : RopeAt w R) (hn : hasB R.text line = true) : Calls Try.prog 52 #[.agg #[.pointer (some ⟨R.rb, 0, none⟩)], .int .i64 line] w fun e w' => e = .returned (.tuple #[.int .i64 (lineN R.text line : Nat), .int .i64 0]) ∧ Ext w w' := by
  cases line with
  | zero => exact start_zero R w h
  | succ k => exact start_succ R k w h hn
set_option maxHeartbeats 1600000 in
set_option maxRecDepth 1000000 in
theorem end_yes (R : Rp) (line : Nat) (w : World) (h : RopeAt w R) (hn : hasB R.text line = true) : Calls Try.prog 67 #[.agg #[.pointer (some ⟨R.rb, 0, none⟩)], .int .i64 line] w fun e w' => e = .returned (.tuple #[.int .i64 (lineE R.text line : Nat), .int .i64 0]) ∧ Ext w w' := by
  have hx0 : Ext w (w.alloc (.cells #[.pointer (some ⟨R.rb, 0, none⟩)] 35)) := (Mod.refl _ w).alloc _
  have h0 := h.ext hx0
  have hc := has_yes R _ _ h0 hn
  obtain ⟨_, h2⟩ := has_out hn
  have hb := brk_small h
  have hu := fun v (hv : Ext (w.alloc (.cells #[.pointer (some ⟨R.rb, 0, none⟩)] 35)) v) => upto_yes R 3 line v (h0.ext hv) (by omega) (by omega) (IsInt.small (by omega) (by omega))
  unfold lineE
  have Hu := Lib.hid hu
  clear hu hn h2
  go_enter Try.func67, Try.ntmps67
  go_wp2_with fail
  refine hc.mono ?_
  rintro e w1 ⟨rfl, hx⟩
  have hcell := ((Blk.new w 35 #[.pointer (some ⟨R.rb, 0, none⟩)]).mod hx (fun f => f)).cell 0
  simp only [List.getElem?_toArray, List.getElem?_cons_zero] at hcell
  go_wp2_with fail
  refine (Hu.out _ hx).mono ?_
  rintro e w2 ⟨rfl, hx2⟩
  go_wp2_with fail
  go_ret2
  exact ⟨rfl, (hx0.ext_trans hx).ext_trans hx2⟩

set_option maxHeartbeats 800000 in
set_option maxRecDepth 1000000 in
theorem at_nil (f : Int) (w : World) : Calls Try.prog 51 #[.agg #[.pointer none], .int .i64 f] w fun e w' => e = .returned (.tuple #[.int .i64 0, .int .i64 1]) ∧ Ext w w' := by
  go_enter Try.func51, Try.ntmps51
  go_wp2_with fail
  go_ret2
  exact ⟨rfl, (Mod.refl _ w).alloc _⟩
set_option maxHeartbeats 1600000 in
set_option maxRecDepth 1000000 in
theorem at_no (R : Rp) (f : Int) (w : World) (h : RopeAt w R) (hn : risesB f f R.t.size = false) : Calls Try.prog 51 #[.agg #[.pointer (some ⟨R.rb, 0, none⟩)], .int .i64 f] w fun e w' => e = .returned (.tuple #[.int .i64 0, .int .i64 3]) ∧ Ext w w' := by
  have hx0 : Ext w (w.alloc (.cells #[.pointer (some ⟨R.rb, 0, none⟩)] 35)) := (Mod.refl _ w).alloc _
  have h0 := h.ext hx0
  have hn2 : ¬ (0 ≤ f ∧ f ≤ f ∧ f ≤ (R.t.size : Int)) := fun hh => by rw [rises_of hh] at hn; cases hn
  clear hn
  by_cases h1 : f < 0
  · clear hn2
    go_enter Try.func51, Try.ntmps51
    go_wp2_with fail
    go_ret2
    exact ⟨rfl, hx0⟩
  · have h1' : decide (f < 0) = false := by simpa using h1
    have h2 : (R.t.size : Int) < f := by omega
    clear hn2
    go_enter Try.func51, Try.ntmps51
    go_wp2_with fail
    refine (len_any R _ h0).mono ?_
    rintro e w1 ⟨rfl, rfl⟩
    go_wp2_with fail
    go_ret2
    exact ⟨rfl, hx0⟩
set_option maxHeartbeats 1600000 in
set_option maxRecDepth 1000000 in
theorem at_yes (R : Rp) (f : Int) (w : World) (h : RopeAt w R) (hn : risesB f f R.t.size = true) : Calls Try.prog 51 #[.agg #[.pointer (some ⟨R.rb, 0, none⟩)], .int .i64 f] w fun e w' => e = .returned (.tuple #[.int .i64 (brk (R.text.take f.toNat) : Nat), .int .i64 0]) ∧ Ext w w' := by
  have hx0 : Ext w (w.alloc (.cells #[.pointer (some ⟨R.rb, 0, none⟩)] 35)) := (Mod.refl _ w).alloc _
  have h0 := h.ext hx0
  have hc := breaks_any R f _ h0 hn
  obtain ⟨g1, _, g3⟩ := rises_out hn
  have h1' : decide (f < 0) = false := by simpa using g1
  have h2 : ¬ (R.t.size : Int) < f := by omega
  generalize brk (R.text.take f.toNat) = X at *
  clear hn
  go_enter Try.func51, Try.ntmps51
  go_wp2_with fail
  refine (len_any R _ h0).mono ?_
  rintro e w1 ⟨rfl, rfl⟩
  go_wp2_with fail
  refine hc.mono ?_
  rintro e w1 ⟨rfl, hx⟩
  go_wp2_with fail
  go_ret2
  exact ⟨rfl, hx0.ext_trans hx⟩

/-- A way of columns? -/
def wayB (way : Int) : Bool := decide (0 ≤ way ∧ way ≤ 2)
theorem way_out {way : Int} (h : wayB way = true) : 0 ≤ way ∧ way ≤ 2 := of_decide_eq_true h
theorem way_not {way : Int} (h : wayB way = false) : ¬ (0 ≤ way ∧ way ≤ 2) := of_decide_eq_false h
set_option maxHeartbeats 800000 in
set_option maxRecDepth 1000000 in
theorem counts_any (way : Int) (w : World) : Calls Try.prog 50 #[.int .i64 way] w fun e w' => e = .returned (.bool (wayB way)) ∧ w' = w := by
  by_cases h0 : way = 0
  · subst h0
    go_enter Try.func50, Try.ntmps50
    go_wp2_with fail
    go_ret
    exact ⟨rfl, rfl⟩
  · have b0 : (way == 0) = false := by simpa using h0
    by_cases h1 : way = 1
    · subst h1
      clear b0 h0
      go_enter Try.func50, Try.ntmps50
      go_wp2_with fail
      go_ret
      exact ⟨rfl, rfl⟩
    · have b1 : (way == 1) = false := by simpa using h1
      have e : wayB way = (way == 2) := by
        unfold wayB
        rw [Bool.eq_iff_iff]; simp; omega
      have E := Lib.hid e
      clear h0 h1 e
      go_enter Try.func50, Try.ntmps50
      go_wp2_with fail
      go_ret
      exact ⟨ret_bool E.out.symm, rfl⟩

set_option maxHeartbeats 1600000 in
set_option maxRecDepth 1000000 in
theorem ahead_any (R : Rp) (f way : Int) (w : World) (h : RopeAt w R) (hn : risesB f f R.t.size = true) : Calls Try.prog 53 #[.agg #[.pointer (some ⟨R.rb, 0, none⟩)], .int .i64 f, .int .i64 way] w fun e w' => e = .returned (.int .i64 (byW way (R.text.take f.toNat) : Nat)) ∧ Ext w w' := by
  have hx0 : Ext w (w.alloc (.cells #[.pointer (some ⟨R.rb, 0, none⟩)] 35)) := (Mod.refl _ w).alloc _
  have hc := count_yes R f _ (h.ext hx0) hn
  generalize R.text.take f.toNat = X at *
  clear hn
  go_enter Try.func53, Try.ntmps53
  go_wp2_with fail
  refine hc.mono ?_
  rintro e w1 ⟨rfl, hx⟩
  clear hc
  have hx1 := (hx0.ext_trans hx).alloc (.cells (#[Value.int IntKind.i64 ((byt (X) : Nat) : Int), Value.int IntKind.i64 ((brk (X) : Nat) : Int), Value.int IntKind.i64 ((run (X) : Nat) : Int), Value.int IntKind.i64 ((unt (X) : Nat) : Int)] : Array Value) 94)
  go_wp2_with fail
  refine (by_any X way _).mono ?_
  rintro e w2 ⟨rfl, hx2⟩
  go_wp2_with fail
  go_ret
  exact ⟨rfl, hx1.ext_trans hx2⟩

end Go.Proofs.Ytmecdhbiinpepaa

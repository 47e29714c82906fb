/- What package lines computes of a rope's text: breaks, Many, has, Start, End, At, counts, ahead. Conditions: a rope of at most 65536 bytes. -/
import Derived.Test.YtmecdhbiinpepaaDoorGimPackB
import Derived.Test.YtmecdhbiinpepaaDoorGimPackA
namespace Go.Proofs.YtmecdhbiinpepaaDoor
open Go.RowKit Go.Gim

set_option maxHeartbeats 800000 in
set_option maxRecDepth 1000000 in
theorem linesOf_any (p : Option Addr) (w : World) : Calls Tryd.prog 22 #[.pointer p] w fun e w' => e = .returned (.agg #[.pointer p]) ∧ Ext w w' := by
  go_enter Tryd.func22, Tryd.ntmps22
  go_wp2_with fail
  go_returns
  exact ⟨rfl, (Mod.refl _ w).alloc _⟩

set_option maxHeartbeats 1600000 in
set_option maxRecDepth 1000000 in
theorem breaks_any (R : Rp) (f : Int) (w : World) (h : RopeAt w R) (hn : risesB f f R.t.size = true) : Calls Tryd.prog 44 #[.agg #[.pointer (some ⟨R.rb, 0, none⟩)], .int .i64 f] w fun e w' => e = .returned (.int .i64 (brk (R.text.take f.toNat) : Nat)) ∧ Ext w w' := by
  have hx0 : Ext w (w.alloc (.cells #[.pointer (some ⟨R.rb, 0, none⟩)] 29)) := (Mod.refl _ w).alloc _
  have hc := count_yes R f _ (h.ext hx0) hn
  generalize R.text.take f.toNat = X at *
  clear hn
  go_enter Tryd.func44, Tryd.ntmps44
  go_wp2_with fail
  refine hc.mono ?_
  rintro e w1 ⟨rfl, hx⟩
  clear hc
  go_wp2_with fail
  go_ret
  exact ⟨rfl, (hx0.ext_trans hx).alloc _⟩

set_option maxHeartbeats 800000 in
set_option maxRecDepth 1000000 in
theorem many_nil (w : World) : Calls Tryd.prog 63 #[.agg #[.pointer none]] w fun e w' => e = .returned (.int .i64 0) ∧ Ext w w' := by
  go_enter Tryd.func63, Tryd.ntmps63
  go_wp2_with fail
  go_ret
  exact ⟨rfl, (Mod.refl _ w).alloc _⟩
set_option maxHeartbeats 1600000 in
set_option maxRecDepth 1000000 in
theorem many_any (R : Rp) (w : World) (h : RopeAt w R) : Calls Tryd.prog 63 #[.agg #[.pointer (some ⟨R.rb, 0, none⟩)]] w fun e w' => e = .returned (.int .i64 (brk R.text + 1 : Nat)) ∧ Ext w w' := by
  have hx0 : Ext w (w.alloc (.cells #[.pointer (some ⟨R.rb, 0, none⟩)] 29)) := (Mod.refl _ w).alloc _
  have hsz := h.size
  have hb := brk_le R.text
  have hl : R.text.length = R.t.size := rfl
  have h0 := h.ext hx0
  have hc := fun v (hv : Ext (w.alloc (.cells #[.pointer (some ⟨R.rb, 0, none⟩)] 29)) v) => breaks_any R (R.t.size : Nat) v (h0.ext hv) (rises_of ⟨by omega, by omega, by omega⟩)
  rw [Int.toNat_natCast, ← hl, List.take_length, hl] at hc
  have hb2 : brk R.text ≤ 65536 := by omega
  have Hc := Lib.hid hc
  clear hc hb hl
  go_enter Tryd.func63, Tryd.ntmps63
  go_wp2_with fail
  refine wp_region_ext_lit (by kernel_rfl) (by kernel_rfl) ?_
  repeat (go_big_quiet_step (first | (with_reducible exact Calls.ext_of_same (len_any R _ (h0.ext (Mod.of_below (ext_below _ _))))) | (with_reducible exact Calls.ext_of (Hc.out _ (Mod.of_below (ext_below _ _))))))
  refine wpQuiet_nil ?_
  intro we hxe
  go_wp2_with fail
  go_ret
  exact ⟨ret_int (by omega), hx0.ext_trans hxe⟩

set_option maxHeartbeats 800000 in
set_option maxRecDepth 1000000 in
theorem has_nil (line : Int) (w : World) : Calls Tryd.prog 45 #[.agg #[.pointer none], .int .i64 line] w fun e w' => e = .returned (.int .i64 1) ∧ Ext w w' := by
  go_enter Tryd.func45, Tryd.ntmps45
  go_wp2_with fail
  go_ret
  exact ⟨rfl, (Mod.refl _ w).alloc _⟩
/-- Is there such a line? -/
def hasB (l : List UInt8) (line : Int) : Bool := decide (0 ≤ line ∧ line ≤ brk l)
theorem has_of {l : List UInt8} {line : Int} (h : 0 ≤ line ∧ line ≤ brk l) : hasB l line = true := decide_eq_true h
theorem has_out {l : List UInt8} {line : Int} (h : hasB l line = true) : 0 ≤ line ∧ line ≤ brk l := of_decide_eq_true h
theorem has_not {l : List UInt8} {line : Int} (h : ¬ (0 ≤ line ∧ line ≤ brk l)) : hasB l line = false := decide_eq_false h
theorem has_out_not {l : List UInt8} {line : Int} (h : hasB l line = false) : ¬ (0 ≤ line ∧ line ≤ brk l) := of_decide_eq_false h
set_option maxHeartbeats 1600000 in
set_option maxRecDepth 1000000 in
theorem has_no (R : Rp) (line : Int) (w : World) (h : RopeAt w R) (hn : hasB R.text line = false) : Calls Tryd.prog 45 #[.agg #[.pointer (some ⟨R.rb, 0, none⟩)], .int .i64 line] w fun e w' => e = .returned (.int .i64 3) ∧ Ext w w' := by
  have hx0 : Ext w (w.alloc (.cells #[.pointer (some ⟨R.rb, 0, none⟩)] 29)) := (Mod.refl _ w).alloc _
  have hm := many_any R _ (h.ext hx0)
  have hn2 := has_out_not hn
  generalize brk R.text = B at *
  clear hn
  by_cases h1 : line < 0
  · clear hm hn2
    go_enter Tryd.func45, Tryd.ntmps45
    go_wp2_with fail
    go_ret
    exact ⟨rfl, hx0⟩
  · have h1' : decide (line < 0) = false := by simpa using h1
    have h2 : ((B + 1 : Nat) : Int) ≤ line := by omega
    have h3 : (B : Int) + 1 ≤ line := by omega
    clear hn2
    go_enter Tryd.func45, Tryd.ntmps45
    go_wp2_with fail
    refine hm.mono ?_
    rintro e w1 ⟨rfl, hx⟩
    go_wp2_with fail
    go_ret
    exact ⟨rfl, hx0.ext_trans hx⟩
set_option maxHeartbeats 1600000 in
set_option maxRecDepth 1000000 in
theorem has_yes (R : Rp) (line : Int) (w : World) (h : RopeAt w R) (hn : hasB R.text line = true) : Calls Tryd.prog 45 #[.agg #[.pointer (some ⟨R.rb, 0, none⟩)], .int .i64 line] w fun e w' => e = .returned (.int .i64 0) ∧ Ext w w' := by
  have hx0 : Ext w (w.alloc (.cells #[.pointer (some ⟨R.rb, 0, none⟩)] 29)) := (Mod.refl _ w).alloc _
  have hm := many_any R _ (h.ext hx0)
  obtain ⟨h0, h2⟩ := has_out hn
  generalize brk R.text = B at *
  have h1' : decide (line < 0) = false := by simp; omega
  have h3 : ¬ ((B + 1 : Nat) : Int) ≤ line := by omega
  have h4 : ¬ (B : Int) + 1 ≤ line := by omega
  clear hn
  go_enter Tryd.func45, Tryd.ntmps45
  go_wp2_with fail
  refine hm.mono ?_
  rintro e w1 ⟨rfl, hx⟩
  go_wp2_with fail
  go_ret
  exact ⟨rfl, hx0.ext_trans hx⟩

end Go.Proofs.YtmecdhbiinpepaaDoor

/- What package lines computes of a rope's text: Start, End, At, counts, ahead. Conditions: a rope of at most 65536 bytes. -/
namespace Go.Proofs.YtmecdhbiinpepaaDoor
open Go.RowKit Go.Gim

set_option maxHeartbeats 800000 in
set_option maxRecDepth 1000000 in
theorem start_nil (line : Int) (w : World) : Calls Tryd.prog 19 #[.agg #[.pointer none], .int .i64 line] w fun e w' => e = .returned (.tuple #[.int .i64 0, .int .i64 1]) ∧ Ext w w' := by
  have hx0 : Ext w (w.alloc (.cells #[.pointer none] 29)) := (Mod.refl _ w).alloc _
  go_enter Tryd.func19, Tryd.ntmps19
  go_wp2_with fail
  refine (has_nil line _).mono ?_
  rintro e w1 ⟨rfl, hx⟩
  go_wp2_with fail
  go_ret2
  exact ⟨rfl, hx0.ext_trans hx⟩
set_option maxHeartbeats 800000 in
set_option maxRecDepth 1000000 in
theorem end_nil (line : Int) (w : World) : Calls Tryd.prog 20 #[.agg #[.pointer none], .int .i64 line] w fun e w' => e = .returned (.tuple #[.int .i64 0, .int .i64 1]) ∧ Ext w w' := by
  have hx0 : Ext w (w.alloc (.cells #[.pointer none] 29)) := (Mod.refl _ w).alloc _
  go_enter Tryd.func20, Tryd.ntmps20
  go_wp2_with fail
  refine (has_nil line _).mono ?_
  rintro e w1 ⟨rfl, hx⟩
  go_wp2_with fail
  go_ret2
  exact ⟨rfl, hx0.ext_trans hx⟩
set_option maxHeartbeats 800000 in
set_option maxRecDepth 1000000 in
theorem start_no (R : Rp) (line : Int) (w : World) (h : RopeAt w R) (hn : hasB R.text line = false) : Calls Tryd.prog 19 #[.agg #[.pointer (some ⟨R.rb, 0, none⟩)], .int .i64 line] w fun e w' => e = .returned (.tuple #[.int .i64 0, .int .i64 3]) ∧ Ext w w' := by
  have hx0 : Ext w (w.alloc (.cells #[.pointer (some ⟨R.rb, 0, none⟩)] 29)) := (Mod.refl _ w).alloc _
  have hc := has_no R line _ (h.ext hx0) hn
  clear hn
  go_enter Tryd.func19, Tryd.ntmps19
  go_wp2_with fail
  refine hc.mono ?_
  rintro e w1 ⟨rfl, hx⟩
  go_wp2_with fail
  go_ret2
  exact ⟨rfl, hx0.ext_trans hx⟩
set_option maxHeartbeats 800000 in
set_option maxRecDepth 1000000 in
theorem end_no (R : Rp) (line : Int) (w : World) (h : RopeAt w R) (hn : hasB R.text line = false) : Calls Tryd.prog 20 #[.agg #[.pointer (some ⟨R.rb, 0, none⟩)], .int .i64 line] w fun e w' => e = .returned (.tuple #[.int .i64 0, .int .i64 3]) ∧ Ext w w' := by
  have hx0 : Ext w (w.alloc (.cells #[.pointer (some ⟨R.rb, 0, none⟩)] 29)) := (Mod.refl _ w).alloc _
  have hc := has_no R line _ (h.ext hx0) hn
  clear hn
  go_enter Tryd.func20, Tryd.ntmps20
  go_wp2_with fail
  refine hc.mono ?_
  rintro e w1 ⟨rfl, hx⟩
  go_wp2_with fail
  go_ret2
  exact ⟨rfl, hx0.ext_trans hx⟩

theorem brk_small {w : World} {R : Rp} (h : RopeAt w R) : brk R.text ≤ 65536 := by
  have h1 := brk_le R.text
  have h2 := h.size
  have : R.text.length = R.t.size := rfl
  omega
set_option maxHeartbeats 1600000 in
set_option maxRecDepth 1000000 in
theorem start_zero (R : Rp) (w : World) (h : RopeAt w R) : Calls Tryd.prog 19 #[.agg #[.pointer (some ⟨R.rb, 0, none⟩)], .int .i64 0] w fun e w' => e = .returned (.tuple #[.int .i64 0, .int .i64 0]) ∧ Ext w w' := by
  have hx0 : Ext w (w.alloc (.cells #[.pointer (some ⟨R.rb, 0, none⟩)] 29)) := (Mod.refl _ w).alloc _
  have hc := has_yes R 0 _ (h.ext hx0) (has_of ⟨by omega, by omega⟩)
  go_enter Tryd.func19, Tryd.ntmps19
  go_wp2_with fail
  refine hc.mono ?_
  rintro e w1 ⟨rfl, hx⟩
  go_wp2_with fail
  go_ret2
  exact ⟨rfl, hx0.ext_trans hx⟩
set_option maxHeartbeats 1600000 in
set_option maxRecDepth 1000000 in
theorem start_succ (R : Rp) (k : Nat) (w : World) (h : RopeAt w R) (hn : hasB R.text (k + 1 : Nat) = true) : Calls Tryd.prog 19 #[.agg #[.pointer (some ⟨R.rb, 0, none⟩)], .int .i64 (k + 1 : Nat)] w fun e w' => e = .returned (.tuple #[.int .i64 (upto 3 R.text k + 1 : Nat), .int .i64 0]) ∧ Ext w w' := by
  have hx0 : Ext w (w.alloc (.cells #[.pointer (some ⟨R.rb, 0, none⟩)] 29)) := (Mod.refl _ w).alloc _
  have h0 := h.ext hx0
  have hc := has_yes R _ _ h0 hn
  obtain ⟨_, h2⟩ := has_out hn
  have hb := brk_small h
  have hk : (k : Int) ≤ 65536 := by omega
  have hk0 : (0 : Int) ≤ (k : Int) := by omega
  have hu := fun v (hv : Ext (w.alloc (.cells #[.pointer (some ⟨R.rb, 0, none⟩)] 29)) v) => upto_yes R 3 k v (h0.ext hv) (by omega) (by omega) (IsInt.small (by omega) (by omega))
  have hul := upto_le 3 R.text k
  have hrl : R.text.length ≤ 65536 := h.size
  generalize upto 3 R.text k = U at *
  have Hu := Lib.hid hu
  have hb0 : ((k : Int) + 1 == 0) = false := by simp; omega
  rw [show ((k + 1 : Nat) : Int) = (k : Int) + 1 from by omega] at hc ⊢
  clear hu hn h2
  go_enter Tryd.func19, Tryd.ntmps19
  go_wp2_with fail
  refine hc.mono ?_
  rintro e w1 ⟨rfl, hx⟩
  have hcell := ((Blk.new w 29 #[.pointer (some ⟨R.rb, 0, none⟩)]).mod hx (fun f => f)).cell 0
  simp only [List.getElem?_toArray, List.getElem?_cons_zero] at hcell
  go_wp2_with fail
  refine (Hu.out _ hx).mono ?_
  rintro e w2 ⟨rfl, hx2⟩
  go_wp2_with fail
  go_ret2
  exact ⟨congrArg (fun z : Int => Ending.returned (.tuple #[.int .i64 z, .int .i64 0])) (show (U : Int) + 1 = ((U + 1 : Nat) : Int) from by omega), (hx0.ext_trans hx).ext_trans hx2⟩
/-- Where a line begins, of a rope that has it. -/
theorem start_yes (R : Rp) (line : Nat) (w : World) (h : RopeAt w R) (hn : hasB R.text line = true) : Calls Tryd.prog 19 #[.agg #[.pointer (some ⟨R.rb, 0, none⟩)], .int .i64 line] w fun e w' => e = .returned (.tuple #[.int .i64 (lineN R.text line : Nat), .int .i64 0]) ∧ Ext w w' := by
  cases line with
  | zero => exact start_zero R w h
  | succ k => exact start_succ R k w h hn
set_option maxHeartbeats 1600000 in
set_option maxRecDepth 1000000 in
theorem end_yes (R : Rp) (line : Nat) (w : World) (h : RopeAt w R) (hn : hasB R.text line = true) : Calls Tryd.prog 20 #[.agg #[.pointer (some ⟨R.rb, 0, none⟩)], .int .i64 line] w fun e w' => e = .returned (.tuple #[.int .i64 (lineE R.text line : Nat), .int .i64 0]) ∧ Ext w w' := by
  have hx0 : Ext w (w.alloc (.cells #[.pointer (some ⟨R.rb, 0, none⟩)] 29)) := (Mod.refl _ w).alloc _
  have h0 := h.ext hx0
  have hc := has_yes R _ _ h0 hn
  obtain ⟨_, h2⟩ := has_out hn
  have hb := brk_small h
  have hu := fun v (hv : Ext (w.alloc (.cells #[.pointer (some ⟨R.rb, 0, none⟩)] 29)) v) => upto_yes R 3 line v (h0.ext hv) (by omega) (by omega) (IsInt.small (by omega) (by omega))
  unfold lineE
  have Hu := Lib.hid hu
  clear hu hn h2
  go_enter Tryd.func20, Tryd.ntmps20
  go_wp2_with fail
  refine hc.mono ?_
  rintro e w1 ⟨rfl, hx⟩
  have hcell := ((Blk.new w 29 #[.pointer (some ⟨R.rb, 0, none⟩)]).mod hx (fun f => f)).cell 0
  simp only [List.getElem?_toArray, List.getElem?_cons_zero] at hcell
  go_wp2_with fail
  refine (Hu.out _ hx).mono ?_
  rintro e w2 ⟨rfl, hx2⟩
  go_wp2_with fail
  go_ret2
  exact ⟨rfl, (hx0.ext_trans hx).ext_trans hx2⟩

set_option maxHeartbeats 800000 in
set_option maxRecDepth 1000000 in
theorem at_nil (f : Int) (w : World) : Calls Tryd.prog 18 #[.agg #[.pointer none], .int .i64 f] w fun e w' => e = .returned (.tuple #[.int .i64 0, .int .i64 1]) ∧ Ext w w' := by
  go_enter Tryd.func18, Tryd.ntmps18
  go_wp2_with fail
  go_ret2
  exact ⟨rfl, (Mod.refl _ w).alloc _⟩
set_option maxHeartbeats 1600000 in
set_option maxRecDepth 1000000 in
theorem at_no (R : Rp) (f : Int) (w : World) (h : RopeAt w R) (hn : risesB f f R.t.size = false) : Calls Tryd.prog 18 #[.agg #[.pointer (some ⟨R.rb, 0, none⟩)], .int .i64 f] w fun e w' => e = .returned (.tuple #[.int .i64 0, .int .i64 3]) ∧ Ext w w' := by
  have hx0 : Ext w (w.alloc (.cells #[.pointer (some ⟨R.rb, 0, none⟩)] 29)) := (Mod.refl _ w).alloc _
  have h0 := h.ext hx0
  have hn2 : ¬ (0 ≤ f ∧ f ≤ f ∧ f ≤ (R.t.size : Int)) := fun hh => by rw [rises_of hh] at hn; cases hn
  clear hn
  by_cases h1 : f < 0
  · clear hn2
    go_enter Tryd.func18, Tryd.ntmps18
    go_wp2_with fail
    go_ret2
    exact ⟨rfl, hx0⟩
  · have h1' : decide (f < 0) = false := by simpa using h1
    have h2 : (R.t.size : Int) < f := by omega
    clear hn2
    go_enter Tryd.func18, Tryd.ntmps18
    go_wp2_with fail
    refine (len_any R _ h0).mono ?_
    rintro e w1 ⟨rfl, rfl⟩
    go_wp2_with fail
    go_ret2
    exact ⟨rfl, hx0⟩
set_option maxHeartbeats 1600000 in
set_option maxRecDepth 1000000 in
theorem at_yes (R : Rp) (f : Int) (w : World) (h : RopeAt w R) (hn : risesB f f R.t.size = true) : Calls Tryd.prog 18 #[.agg #[.pointer (some ⟨R.rb, 0, none⟩)], .int .i64 f] w fun e w' => e = .returned (.tuple #[.int .i64 (brk (R.text.take f.toNat) : Nat), .int .i64 0]) ∧ Ext w w' := by
  have hx0 : Ext w (w.alloc (.cells #[.pointer (some ⟨R.rb, 0, none⟩)] 29)) := (Mod.refl _ w).alloc _
  have h0 := h.ext hx0
  have hc := breaks_any R f _ h0 hn
  obtain ⟨g1, _, g3⟩ := rises_out hn
  have h1' : decide (f < 0) = false := by simpa using g1
  have h2 : ¬ (R.t.size : Int) < f := by omega
  generalize brk (R.text.take f.toNat) = X at *
  clear hn
  go_enter Tryd.func18, Tryd.ntmps18
  go_wp2_with fail
  refine (len_any R _ h0).mono ?_
  rintro e w1 ⟨rfl, rfl⟩
  go_wp2_with fail
  refine hc.mono ?_
  rintro e w1 ⟨rfl, hx⟩
  go_wp2_with fail
  go_ret2
  exact ⟨rfl, hx0.ext_trans hx⟩

/-- A way of columns? -/
def wayB (way : Int) : Bool := decide (0 ≤ way ∧ way ≤ 2)
theorem way_out {way : Int} (h : wayB way = true) : 0 ≤ way ∧ way ≤ 2 := of_decide_eq_true h
theorem way_not {way : Int} (h : wayB way = false) : ¬ (0 ≤ way ∧ way ≤ 2) := of_decide_eq_false h
end Go.Proofs.YtmecdhbiinpepaaDoor

/- What package lines computes of a rope's text: Place, Offset, Indent. Conditions: a rope of at most 65536 bytes. -/
namespace Go.Proofs.YtmecdhbiinpepaaDoor
open Go.RowKit Go.Gim

/-- The box of a Lines, in a world that has only grown. -/
theorem box_cell {w w1 : World} {p : Option Addr} (hx : Ext (w.alloc (.cells #[.pointer p] 29)) w1) : w1.cell? ⟨w.heap.size, 0, none⟩ = some (.pointer p) := by
  have h := ((Blk.new w 29 #[.pointer p]).mod hx (fun f => f)).cell 0
  simpa using h

def PlacePost (l : List UInt8) (f way : Int) (w : World) (e : Ending) (w' : World) : Prop :=
  e = .returned (.tuple #[.int .i64 (brk (l.take f.toNat) : Nat), .int .i64 ((byW way (l.take f.toNat) : Int) - (byW way (l.take (lineN l (brk (l.take f.toNat)))) : Int)), .int .i64 0]) ∧ Ext w w'

end Go.Proofs.YtmecdhbiinpepaaDoor

/- What package lines computes of a rope's text: Offset, Indent. Conditions: a rope of at most 65536 bytes. -/
namespace Go.Gim
/-- Where a column of a line is, or the line's end. -/
def offN (l : List UInt8) (line c : Nat) (way : Int) : Nat :=
  if 2 * ((lineE l line : Int) - (lineN l line : Int)) ≤ (c : Int) then lineE l line else min (lineE l line) (upto way l (byW way (l.take (lineN l line)) + c))
/-- The blanks and tabs at a list's beginning. -/
def blanks (l : List UInt8) : List UInt8 := l.takeWhile (fun c => c == 32 || c == 9)
end Go.Gim
namespace Go.Proofs.YtmecdhbiinpepaaDoor
open Go.RowKit Go.Gim

def OffsetPost (l : List UInt8) (line c : Nat) (way : Int) (w : World) (e : Ending) (w' : World) : Prop := e = .returned (.tuple #[.int .i64 (offN l line c way : Nat), .int .i64 0]) ∧ Ext w w'

theorem lineN_le2 {l : List UInt8} {j : Nat} (h : j ≤ brk l) : lineN l j ≤ l.length := by
  cases j with
  | zero => simp [lineN]
  | succ j => exact (lineN_pos l j (by omega)).2

end Go.Proofs.YtmecdhbiinpepaaDoor

/- What package lines computes of a rope's text: Indent. Conditions: a rope of at most 65536 bytes. -/
namespace Go.Gim
theorem upto3_lt (l : List UInt8) : ∀ j, j + 1 ≤ brk l → upto 3 l j < upto 3 l (j + 1) := by
  induction l with
  | nil => intro j h; simp [brk_nil] at h
  | cons c r ih =>
    intro j h
    rw [brk_cons] at h
    simp only [upto, byW3_one]
    by_cases hc : (c == 10) = true
    · simp only [hc, if_true] at h ⊢
      cases j with
      | zero => simp; omega
      | succ j =>
        rw [if_neg (by omega), if_neg (by omega)]
        have := ih j (by omega)
        simp only [Nat.add_sub_cancel]; omega
    · simp only [hc, Bool.false_eq_true, if_false, Nat.add_zero, Nat.sub_zero] at h ⊢
      rw [if_neg (by omega), if_neg (by omega)]
      have := ih j h; omega
theorem lineN_lineE (l : List UInt8) (j : Nat) (h : j ≤ brk l) : lineN l j ≤ lineE l j := by
  cases j with
  | zero => simp [lineN]
  | succ j =>
    have := upto3_lt l j h
    simp only [lineN, lineE]
    rw [if_neg (by omega), Nat.add_sub_cancel]; omega
theorem blanks_nil : blanks [] = [] := rfl
theorem blanks_yes (c : UInt8) (r : List UInt8) (h : c.toNat = 32 ∨ c.toNat = 9) : blanks (c :: r) = c :: blanks r := by
  have : (c == 32 || c == 9) = true := by
    rcases h with h | h
    · have : c = 32 := UInt8.toNat_inj.1 h
      subst this; rfl
    · have : c = 9 := UInt8.toNat_inj.1 h
      subst this; rfl
  simp [blanks, this]
theorem blanks_no (c : UInt8) (r : List UInt8) (h : ¬ c.toNat = 32) (h2 : ¬ c.toNat = 9) : blanks (c :: r) = [] := by
  have : (c == 32 || c == 9) = false := by
    simp only [Bool.or_eq_false_iff, beq_eq_false_iff_ne]
    exact ⟨fun e => h (by rw [e]; rfl), fun e => h2 (by rw [e]; rfl)⟩
  simp [blanks, this]
end Go.Gim
namespace Go.Proofs.YtmecdhbiinpepaaDoor
open Go.RowKit Go.Gim

def IndentPost (l : List UInt8) (line : Nat) (w : World) (e : Ending) (w' : World) : Prop := e = .returned (.tuple #[.string (bs (blanks (cut l (lineN l line) (lineE l line)))), .int .i64 0]) ∧ Ext w w'

end Go.Proofs.YtmecdhbiinpepaaDoor

/- What package lines computes of a rope's text: Offset, Indent. Conditions: a rope of at most 65536 bytes. -/
import Derived.Test.YtmecdhbiinpepaaGimLines3
namespace Go.Gim
/-- Where a column of a line is, or the line's end. -/
def offN (l : List UInt8) (line c : Nat) (way : Int) : Nat :=
  if 2 * ((lineE l line : Int) - (lineN l line : Int)) ≤ (c : Int) then lineE l line else min (lineE l line) (upto way l (byW way (l.take (lineN l line)) + c))
/-- The blanks and tabs at a list's beginning. -/
def blanks (l : List UInt8) : List UInt8 := l.takeWhile (fun c => c == 32 || c == 9)
end Go.Gim
namespace Go.Proofs.Ytmecdhbiinpepaa
open Go.RowKit Go.Gim

set_option maxHeartbeats 800000 in
set_option maxRecDepth 1000000 in
theorem offset_nil (line col way : Int) (w : World) : Calls Try.prog 95 #[.agg #[.pointer none], .int .i64 line, .int .i64 col, .int .i64 way] w fun e w' => e = .returned (.tuple #[.int .i64 0, .int .i64 1]) ∧ Ext w w' := by
  go_enter Try.func95, Try.ntmps95
  go_wp2_with fail
  go_ret2
  exact ⟨rfl, (Mod.refl _ w).alloc _⟩
set_option maxHeartbeats 800000 in
set_option maxRecDepth 1000000 in
theorem offset_way (r : Addr) (line col way : Int) (w : World) (h : wayB way = false) : Calls Try.prog 95 #[.agg #[.pointer (some r)], .int .i64 line, .int .i64 col, .int .i64 way] w fun e w' => e = .returned (.tuple #[.int .i64 0, .int .i64 2]) ∧ Ext w w' := by
  have hc := fun v => counts_any way v
  rw [h] at hc
  have Hc := Lib.hid hc
  clear hc h
  go_enter Try.func95, Try.ntmps95
  go_wp2_with fail
  refine (Hc.out _).mono ?_
  rintro e w1 ⟨rfl, rfl⟩
  go_wp2_with fail
  go_ret2
  exact ⟨rfl, (Mod.refl _ w).alloc _⟩
set_option maxHeartbeats 800000 in
set_option maxRecDepth 1000000 in
theorem offset_no (R : Rp) (line col way : Int) (w : World) (hR : RopeAt w R) (h : wayB way = true) (hn : hasB R.text line = false) : Calls Try.prog 95 #[.agg #[.pointer (some ⟨R.rb, 0, none⟩)], .int .i64 line, .int .i64 col, .int .i64 way] w fun e w' => e = .returned (.tuple #[.int .i64 0, .int .i64 3]) ∧ Ext w w' := by
  have hx0 : Ext w (w.alloc (.cells #[.pointer (some ⟨R.rb, 0, none⟩)] 35)) := (Mod.refl _ w).alloc _
  have hc := fun v => counts_any way v
  rw [h] at hc
  have Hc := Lib.hid hc
  have ha := start_no R line _ (hR.ext hx0) hn
  clear hc h hn
  go_enter Try.func95, Try.ntmps95
  go_wp2_with fail
  refine (Hc.out _).mono ?_
  rintro e w1 ⟨rfl, rfl⟩
  go_wp2_with fail
  refine ha.mono ?_
  rintro e w1 ⟨rfl, hx⟩
  go_wp2_with fail
  go_ret2
  exact ⟨rfl, hx0.ext_trans hx⟩
set_option maxHeartbeats 800000 in
set_option maxRecDepth 1000000 in
theorem offset_neg (R : Rp) (line : Nat) (col way : Int) (w : World) (hR : RopeAt w R) (h : wayB way = true) (hn : hasB R.text line = true) (hcol : col < 0) : Calls Try.prog 95 #[.agg #[.pointer (some ⟨R.rb, 0, none⟩)], .int .i64 line, .int .i64 col, .int .i64 way] w fun e w' => e = .returned (.tuple #[.int .i64 0, .int .i64 3]) ∧ Ext w w' := by
  have hx0 : Ext w (w.alloc (.cells #[.pointer (some ⟨R.rb, 0, none⟩)] 35)) := (Mod.refl _ w).alloc _
  have hc := fun v => counts_any way v
  rw [h] at hc
  have Hc := Lib.hid hc
  have ha := start_yes R line _ (hR.ext hx0) hn
  clear hc h hn
  go_enter Try.func95, Try.ntmps95
  go_wp2_with fail
  refine (Hc.out _).mono ?_
  rintro e w1 ⟨rfl, rfl⟩
  go_wp2_with fail
  refine ha.mono ?_
  rintro e w1 ⟨rfl, hx⟩
  go_wp2_with fail
  go_ret2
  exact ⟨rfl, hx0.ext_trans hx⟩

def OffsetPost (l : List UInt8) (line c : Nat) (way : Int) (w : World) (e : Ending) (w' : World) : Prop := e = .returned (.tuple #[.int .i64 (offN l line c way : Nat), .int .i64 0]) ∧ Ext w w'

theorem lineN_le2 {l : List UInt8} {j : Nat} (h : j ≤ brk l) : lineN l j ≤ l.length := by
  cases j with
  | zero => simp [lineN]
  | succ j => exact (lineN_pos l j (by omega)).2

set_option maxHeartbeats 1600000 in
set_option maxRecDepth 1000000 in
theorem offset_yes (R : Rp) (line c : Nat) (way : Int) (w : World) (hR : RopeAt w R) (h : wayB way = true) (hn : hasB R.text line = true) : Calls Try.prog 95 #[.agg #[.pointer (some ⟨R.rb, 0, none⟩)], .int .i64 line, .int .i64 c, .int .i64 way] w (OffsetPost R.text line c way w) := by
  have hx0 : Ext w (w.alloc (.cells #[.pointer (some ⟨R.rb, 0, none⟩)] 35)) := (Mod.refl _ w).alloc _
  have h0 := hR.ext hx0
  have hc := fun v => counts_any way v
  rw [h] at hc
  have hw := way_out h
  have hsz := hR.size
  have hlen : R.text.length = R.t.size := rfl
  have hs := start_yes R line _ h0 hn
  have he := fun v (hv : Ext (w.alloc (.cells #[.pointer (some ⟨R.rb, 0, none⟩)] 35)) v) => end_yes R line v (h0.ext hv) hn
  have hle := lineE_le R.text line
  have hls := lineN_le2 (l := R.text) (j := line) (by have := (has_out hn).2; omega)
  have h1 := fun v (hv : Ext (w.alloc (.cells #[.pointer (some ⟨R.rb, 0, none⟩)] 35)) v) => ahead_any R (lineN R.text line : Nat) way v (h0.ext hv) (rises_of ⟨by omega, by omega, by omega⟩)
  rw [Int.toNat_natCast] at h1
  have hby := byW_le way (R.text.take (lineN R.text line))
  have hl2 := List.length_take_le (lineN R.text line) R.text
  have hul := upto_le way R.text (byW way (R.text.take (lineN R.text line)) + c)
  have hc0 : (0 : Int) ≤ (c : Int) := Int.natCast_nonneg _
  have c1 : byW way (R.text.take (lineN R.text line)) ≤ 200000 := by rw [List.length_take] at hby; omega
  unfold OffsetPost offN
  by_cases hbig : 2 * ((lineE R.text line : Int) - (lineN R.text line : Int)) ≤ (c : Int)
  · rw [if_pos hbig]
    have Hc := Lib.hid hc
    have He := Lib.hid he
    generalize lineE R.text line = T at *
    generalize lineN R.text line = S at *
    have d1 : T ≤ 65536 := by omega
    have d2 : S ≤ 65536 := by omega
    clear hc he h1 hby hl2 hul h hn hle hls
    go_enter Try.func95, Try.ntmps95
    go_wp2_with fail
    refine (Hc.out _).mono ?_
    rintro e w1 ⟨rfl, rfl⟩
    go_wp2_with fail
    refine hs.mono ?_
    rintro e w1 ⟨rfl, hx⟩
    have hcell := box_cell hx
    go_wp2_with fail
    refine (He.out _ hx).mono ?_
    rintro e w2 ⟨rfl, hx2⟩
    go_wp2_with fail
    go_ret2
    exact ⟨rfl, (hx0.ext_trans hx).ext_trans hx2⟩
  · rw [if_neg hbig]
    have h2 := fun v (hv : Ext (w.alloc (.cells #[.pointer (some ⟨R.rb, 0, none⟩)] 35)) v) => upto_yes R way (byW way (R.text.take (lineN R.text line)) + c) v (h0.ext hv) hw.1 (by omega) (IsInt.small (by omega) (by omega))
    rw [Int.natCast_add] at h2
    have d1 : lineE R.text line ≤ 65536 := by omega
    have d2 : lineN R.text line ≤ 65536 := by omega
    have d3 : (c : Int) ≤ 200000 := by omega
    have d4 : upto way R.text (byW way (R.text.take (lineN R.text line)) + c) ≤ 65536 := by omega
    have Hc := Lib.hid hc
    have He := Lib.hid he
    have H1 := Lib.hid h1
    have H2 := Lib.hid h2
    generalize upto way R.text (byW way (R.text.take (lineN R.text line)) + c) = U at *
    generalize byW way (R.text.take (lineN R.text line)) = B at *
    generalize lineE R.text line = T at *
    generalize lineN R.text line = S at *
    have e1 : IntKind.i64.wrap ((B : Int) + (c : Int)) = (B : Int) + (c : Int) := IntWalk.i64_in _ ⟨by omega, by omega⟩
    have E1 := Lib.hid e1
    obtain ⟨M, hM⟩ : ∃ M, M = min T U := ⟨_, rfl⟩
    rw [← hM]
    have hmin : (M = T ∧ (T : Int) ≤ (U : Int)) ∨ (M = U ∧ (U : Int) < (T : Int)) := by omega
    have Hmin := Lib.hid hmin
    clear hM hmin
    clear hc he h1 h2 hby hl2 hul h hn hle hls e1
    go_enter Try.func95, Try.ntmps95
    go_wp2_with fail
    refine (Hc.out _).mono ?_
    rintro e w1 ⟨rfl, rfl⟩
    go_wp2_with fail
    refine hs.mono ?_
    rintro e w1 ⟨rfl, hx⟩
    have hcell := box_cell hx
    go_wp2_with fail
    refine (He.out _ hx).mono ?_
    rintro e w2 ⟨rfl, hx2⟩
    have hx3 := hx.ext_trans hx2
    have hcell2 := box_cell hx3
    have hlt := World.block_lt_of_cell? w2 _ hcell2
    clear hcell hs
    rcases Hmin.out with ⟨hm, hmi⟩ | ⟨hm, hmi⟩
    · have Hm := Lib.hid hm
      clear hm
      go_wp2_with fail
      refine wp_region_ext_lit (by kernel_rfl) (by kernel_rfl) ?_
      repeat (go_big_quiet_step (first | (with_reducible exact Calls.ext_of (H1.out _ (hx3.ext_trans (Mod.of_below (ext_below _ _))))) | (with_reducible exact Calls.ext_of (H2.out _ (hx3.ext_trans (Mod.of_below (ext_below _ _)))))))
      refine wpQuiet_nil ?_
      intro we hxe
      go_wp2_with fail
      go_ret2
      exact ⟨congrArg (fun z : Nat => Ending.returned (.tuple #[.int .i64 z, .int .i64 0])) Hm.out.symm, (hx0.ext_trans hx3).ext_trans hxe⟩
    · have Hm := Lib.hid hm
      clear hm
      go_wp2_with fail
      refine wp_region_ext_lit (by kernel_rfl) (by kernel_rfl) ?_
      repeat (go_big_quiet_step (first | (with_reducible exact Calls.ext_of (H1.out _ (hx3.ext_trans (Mod.of_below (ext_below _ _))))) | (with_reducible exact Calls.ext_of (H2.out _ (hx3.ext_trans (Mod.of_below (ext_below _ _)))))))
      refine wpQuiet_nil ?_
      intro we hxe
      go_wp2_with fail
      go_ret2
      exact ⟨congrArg (fun z : Nat => Ending.returned (.tuple #[.int .i64 z, .int .i64 0])) Hm.out.symm, (hx0.ext_trans hx3).ext_trans hxe⟩

end Go.Proofs.Ytmecdhbiinpepaa

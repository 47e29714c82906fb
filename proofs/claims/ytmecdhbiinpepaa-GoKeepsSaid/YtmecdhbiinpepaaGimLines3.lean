/- What package lines computes of a rope's text: Place, Offset, Indent. Conditions: a rope of at most 65536 bytes. -/
import Derived.Test.YtmecdhbiinpepaaGimLines2
namespace Go.Proofs.Ytmecdhbiinpepaa
open Go.RowKit Go.Gim

/-- The box of a Lines, in a world that has only grown. -/
theorem box_cell {w w1 : World} {p : Option Addr} (hx : Ext (w.alloc (.cells #[.pointer p] 35)) w1) : w1.cell? ⟨w.heap.size, 0, none⟩ = some (.pointer p) := by
  have h := ((Blk.new w 35 #[.pointer p]).mod hx (fun f => f)).cell 0
  simpa using h

def PlacePost (l : List UInt8) (f way : Int) (w : World) (e : Ending) (w' : World) : Prop :=
  e = .returned (.tuple #[.int .i64 (brk (l.take f.toNat) : Nat), .int .i64 ((byW way (l.take f.toNat) : Int) - (byW way (l.take (lineN l (brk (l.take f.toNat)))) : Int)), .int .i64 0]) ∧ Ext w w'

set_option maxHeartbeats 800000 in
set_option maxRecDepth 1000000 in
theorem place_nil (f way : Int) (w : World) : Calls Try.prog 25 #[.agg #[.pointer none], .int .i64 f, .int .i64 way] w fun e w' => e = .returned (.tuple #[.int .i64 0, .int .i64 0, .int .i64 1]) ∧ Ext w w' := by
  go_enter Try.func25, Try.ntmps25
  go_wp2_with fail
  go_ret3
  exact ⟨rfl, (Mod.refl _ w).alloc _⟩
set_option maxHeartbeats 800000 in
set_option maxRecDepth 1000000 in
theorem place_way (r : Addr) (f way : Int) (w : World) (h : wayB way = false) : Calls Try.prog 25 #[.agg #[.pointer (some r)], .int .i64 f, .int .i64 way] w fun e w' => e = .returned (.tuple #[.int .i64 0, .int .i64 0, .int .i64 2]) ∧ Ext w w' := by
  have hc := fun v => counts_any way v
  rw [h] at hc
  have Hc := Lib.hid hc
  clear hc h
  go_enter Try.func25, Try.ntmps25
  go_wp2_with fail
  refine (Hc.out _).mono ?_
  rintro e w1 ⟨rfl, rfl⟩
  go_wp2_with fail
  go_ret3
  exact ⟨rfl, (Mod.refl _ w).alloc _⟩
set_option maxHeartbeats 800000 in
set_option maxRecDepth 1000000 in
theorem place_no (R : Rp) (f way : Int) (w : World) (hR : RopeAt w R) (h : wayB way = true) (hn : risesB f f R.t.size = false) : Calls Try.prog 25 #[.agg #[.pointer (some ⟨R.rb, 0, none⟩)], .int .i64 f, .int .i64 way] w fun e w' => e = .returned (.tuple #[.int .i64 0, .int .i64 0, .int .i64 3]) ∧ Ext w w' := by
  have hx0 : Ext w (w.alloc (.cells #[.pointer (some ⟨R.rb, 0, none⟩)] 35)) := (Mod.refl _ w).alloc _
  have hc := fun v => counts_any way v
  rw [h] at hc
  have Hc := Lib.hid hc
  have ha := at_no R f _ (hR.ext hx0) hn
  clear hc h hn
  go_enter Try.func25, Try.ntmps25
  go_wp2_with fail
  refine (Hc.out _).mono ?_
  rintro e w1 ⟨rfl, rfl⟩
  go_wp2_with fail
  refine ha.mono ?_
  rintro e w1 ⟨rfl, hx⟩
  go_wp2_with fail
  go_ret3
  exact ⟨rfl, hx0.ext_trans hx⟩
set_option maxHeartbeats 1600000 in
set_option maxRecDepth 1000000 in
theorem place_yes (R : Rp) (f way : Int) (w : World) (hR : RopeAt w R) (h : wayB way = true) (hn : risesB f f R.t.size = true) : Calls Try.prog 25 #[.agg #[.pointer (some ⟨R.rb, 0, none⟩)], .int .i64 f, .int .i64 way] w (PlacePost R.text f way w) := by
  have hx0 : Ext w (w.alloc (.cells #[.pointer (some ⟨R.rb, 0, none⟩)] 35)) := (Mod.refl _ w).alloc _
  have h0 := hR.ext hx0
  have hc := fun v => counts_any way v
  rw [h] at hc
  obtain ⟨g1, _, g3⟩ := rises_out hn
  have hsz := hR.size
  have ha := at_yes R f _ h0 hn
  have hbl : brk (R.text.take f.toNat) ≤ brk R.text := by
    have : brk R.text = brk (R.text.take f.toNat) + brk (R.text.drop f.toNat) := by rw [← brk_append, List.take_append_drop]
    omega
  have hs := fun v (hv : Ext (w.alloc (.cells #[.pointer (some ⟨R.rb, 0, none⟩)] 35)) v) => start_yes R (brk (R.text.take f.toNat)) v (h0.ext hv) (has_of ⟨by omega, by omega⟩)
  have hle := lineN_le R.text f.toNat
  have h1 := fun v (hv : Ext (w.alloc (.cells #[.pointer (some ⟨R.rb, 0, none⟩)] 35)) v) => ahead_any R f way v (h0.ext hv) hn
  have h2 := fun v (hv : Ext (w.alloc (.cells #[.pointer (some ⟨R.rb, 0, none⟩)] 35)) v) => ahead_any R (lineN R.text (brk (R.text.take f.toNat)) : Nat) way v (h0.ext hv) (rises_of ⟨by omega, by omega, by omega⟩)
  have hby1 := byW_le way (R.text.take f.toNat)
  have hby2 := byW_le way (R.text.take (lineN R.text (brk (R.text.take f.toNat))))
  have hl1 := List.length_take_le f.toNat R.text
  have hl2 := List.length_take_le (lineN R.text (brk (R.text.take f.toNat))) R.text
  have hl3 : (R.text.take f.toNat).length ≤ 65536 := by have : R.text.length = R.t.size := rfl; simp only [List.length_take] at *; omega
  have hl4 : (R.text.take (lineN R.text (brk (R.text.take f.toNat)))).length ≤ 65536 := by have : R.text.length = R.t.size := rfl; simp only [List.length_take] at *; omega
  unfold PlacePost
  rw [Int.toNat_natCast] at h2
  generalize byW way (R.text.take (lineN R.text (brk (R.text.take f.toNat)))) = B2 at *
  generalize lineN R.text (brk (R.text.take f.toNat)) = S at *
  generalize byW way (R.text.take f.toNat) = B1 at *
  generalize brk (R.text.take f.toNat) = L at *
  have c1 : B1 ≤ 200000 := by omega
  have c2 : B2 ≤ 200000 := by omega
  have Hc := Lib.hid hc
  have Hs := Lib.hid hs
  have H1 := Lib.hid h1
  have H2 := Lib.hid h2
  clear hc h hn hs h1 h2 hby1 hby2 hl1 hl2 hl3 hl4 hbl hle
  go_enter Try.func25, Try.ntmps25
  go_wp2_with fail
  refine (Hc.out _).mono ?_
  rintro e w1 ⟨rfl, rfl⟩
  go_wp2_with fail
  refine ha.mono ?_
  rintro e w1 ⟨rfl, hx⟩
  have hcell := box_cell hx
  go_wp2_with fail
  refine (Hs.out _ hx).mono ?_
  rintro e w2 ⟨rfl, hx2⟩
  have hx3 := hx.ext_trans hx2
  have hcell2 := box_cell hx3
  have hlt := World.block_lt_of_cell? w2 _ hcell2
  clear hcell ha
  go_wp2_with fail
  refine wp_region_ext_lit (by kernel_rfl) (by kernel_rfl) ?_
  repeat (go_big_quiet_step (first | (with_reducible exact Calls.ext_of (H1.out _ (hx3.ext_trans (Mod.of_below (ext_below _ _))))) | (with_reducible exact Calls.ext_of (H2.out _ (hx3.ext_trans (Mod.of_below (ext_below _ _)))))))
  refine wpQuiet_nil ?_
  intro we hxe
  go_wp2_with fail
  go_ret3
  exact ⟨rfl, (hx0.ext_trans hx3).ext_trans hxe⟩

end Go.Proofs.Ytmecdhbiinpepaa

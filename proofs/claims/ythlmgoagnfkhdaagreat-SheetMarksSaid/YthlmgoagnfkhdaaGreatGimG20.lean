/- What package lines computes of a rope's text: Offset, Indent. Conditions: a rope of at most 65536 bytes. -/
import Derived.Test.YthlmgoagnfkhdaaGreatGimG19
set_option maxHeartbeats 6400000
set_option maxRecDepth 1000000
set_option linter.unusedVariables false
set_option linter.unusedSimpArgs false
namespace Go.Gim
def offN (l : List UInt8) (line c : Nat) (way : Int) : Nat :=
 if 2 * ((lineE l line : Int) - (lineN l line : Int)) ≤ (c : Int) then lineE l line else min (lineE l line) (upto way l (byW way (l.take (lineN l line)) + c))
end Go.Gim
namespace Go.Proofs.YthlmgoagnfkhdaaGreat
open Go.RowKit Go.Gim
def OffsetPost (l : List UInt8) (line c : Nat) (way : Int) (w : World) (e : Ending) (w' : World) : Prop := e = .returned (.tuple #[.int .i64 (offN l line c way : Nat), .int .i64 0]) ∧ Ext w w'
theorem lineN_le2 {l : List UInt8} {j : Nat} (h : j ≤ brk l) : lineN l j ≤ l.length := by
 cases j with
 | zero => simp [lineN]
 | succ j => exact (lineN_pos l j (by omega)).2
theorem offset_yes (R : Rp) (line c : Nat) (way : Int) (w : World) (hR : RopeAt w R) (h : wayB way = true) (hn : hasB R.text line = true) : Calls Tryz.prog 152 #[.agg #[.pointer (some ⟨R.rb, 0, none⟩)], .int .i64 line, .int .i64 c, .int .i64 way] w (OffsetPost R.text line c way w) := by
 have hx0 : Ext w (w.alloc (.cells #[.pointer (some ⟨R.rb, 0, none⟩)] 42)) := (Mod.refl _ w).alloc _
 have h0 := hR.ext hx0
 have hc := fun v => counts_any way v
 rw [h] at hc
 have hw := way_out h
 have hsz := hR.size
 have hlen : R.text.length = R.t.size := rfl
 have hs := start_yes R line _ h0 hn
 have he := fun v (hv : Ext (w.alloc (.cells #[.pointer (some ⟨R.rb, 0, none⟩)] 42)) v) => end_yes R line v (h0.ext hv) hn
 have hle := lineE_le R.text line
 have hls := lineN_le2 (l := R.text) (j := line) (by have := (has_out hn).2; omega)
 have h1 := fun v (hv : Ext (w.alloc (.cells #[.pointer (some ⟨R.rb, 0, none⟩)] 42)) v) => ahead_any R (lineN R.text line : Nat) way v (h0.ext hv) (rises_of ⟨by omega, by omega, by omega⟩)
 rw [Int.toNat_natCast] at h1
 have hby := byW_le way (R.text.take (lineN R.text line))
 have hl2 := List.length_take_le (lineN R.text line) R.text
 have hul := upto_le way R.text (byW way (R.text.take (lineN R.text line)) + c)
 have hc0 : (0 : Int) ≤ (c : Int) := Int.natCast_nonneg _
 have c1 : byW way (R.text.take (lineN R.text line)) ≤ 200000 := by rw [List.length_take] at hby; omega
 unfold OffsetPost offN
 by_cases hbig : 2 * ((lineE R.text line : Int) - (lineN R.text line : Int)) ≤ (c : Int)
 ·rw [if_pos hbig]
  have Hc := Lib.hid hc
  have He := Lib.hid he
  generalize lineE R.text line = T at *
  generalize lineN R.text line = S at *
  have d1 : T ≤ 65536 := by omega
  have d2 : S ≤ 65536 := by omega
  clear hc he h1 hby hl2 hul h hn hle hls
  go_enter Tryz.func152, Tryz.ntmps152
  go_wp2_with fail
  refine (Hc.out _).mono ?_
  rintro e w1 ⟨rfl, rfl⟩
  go_wp2_with fail
  refine hs.mono ?_
  rintro e w1 ⟨rfl, hx⟩
  have hcell := box_cell hx
  go_wp2_with fail
  refine (He.out _ hx).mono ?_
  rintro e w2 ⟨rfl, hx2⟩
  go_wp2_with fail
  go_ret2
  exact ⟨rfl, (hx0.ext_trans hx).ext_trans hx2⟩
 ·rw [if_neg hbig]
  have h2 := fun v (hv : Ext (w.alloc (.cells #[.pointer (some ⟨R.rb, 0, none⟩)] 42)) v) => upto_yes R way (byW way (R.text.take (lineN R.text line)) + c) v (h0.ext hv) hw.1 (by omega) (IsInt.small (by omega) (by omega))
  rw [Int.natCast_add] at h2
  have d1 : lineE R.text line ≤ 65536 := by omega
  have d2 : lineN R.text line ≤ 65536 := by omega
  have d3 : (c : Int) ≤ 200000 := by omega
  have d4 : upto way R.text (byW way (R.text.take (lineN R.text line)) + c) ≤ 65536 := by omega
  have Hc := Lib.hid hc
  have He := Lib.hid he
  have H1 := Lib.hid h1
  have H2 := Lib.hid h2
  generalize upto way R.text (byW way (R.text.take (lineN R.text line)) + c) = U at *
  generalize byW way (R.text.take (lineN R.text line)) = B at *
  generalize lineE R.text line = T at *
  generalize lineN R.text line = S at *
  have e1 : IntKind.i64.wrap ((B : Int) + (c : Int)) = (B : Int) + (c : Int) := IntWalk.i64_in _ ⟨by omega, by omega⟩
  have E1 := Lib.hid e1
  obtain ⟨M, hM⟩ : ∃ M, M = min T U := ⟨_, rfl⟩
  rw [← hM]
  have hmin : (M = T ∧ (T : Int) ≤ (U : Int)) ∨ (M = U ∧ (U : Int) < (T : Int)) := by omega
  have Hmin := Lib.hid hmin
  clear hM hmin
  clear hc he h1 h2 hby hl2 hul h hn hle hls e1
  go_enter Tryz.func152, Tryz.ntmps152
  go_wp2_with fail
  refine (Hc.out _).mono ?_
  rintro e w1 ⟨rfl, rfl⟩
  go_wp2_with fail
  refine hs.mono ?_
  rintro e w1 ⟨rfl, hx⟩
  have hcell := box_cell hx
  go_wp2_with fail
  refine (He.out _ hx).mono ?_
  rintro e w2 ⟨rfl, hx2⟩
  have hx3 := hx.ext_trans hx2
  have hcell2 := box_cell hx3
  have hlt := World.block_lt_of_cell? w2 _ hcell2
  clear hcell hs
  rcases Hmin.out with ⟨hm, hmi⟩ | ⟨hm, hmi⟩
  ·have Hm := Lib.hid hm
   clear hm
   go_wp2_with fail
   refine wp_region_ext_lit (by kernel_rfl) (by kernel_rfl) ?_
   repeat (go_big_quiet_step (first | (with_reducible exact Calls.ext_of (H1.out _ (hx3.ext_trans (Mod.of_below (ext_below _ _))))) | (with_reducible exact Calls.ext_of (H2.out _ (hx3.ext_trans (Mod.of_below (ext_below _ _)))))))
   refine wpQuiet_nil ?_
   intro we hxe
   go_wp2_with fail
   go_ret2
   exact ⟨congrArg (fun z : Nat => Ending.returned (.tuple #[.int .i64 z, .int .i64 0])) Hm.out.symm, (hx0.ext_trans hx3).ext_trans hxe⟩
  ·have Hm := Lib.hid hm
   clear hm
   go_wp2_with fail
   refine wp_region_ext_lit (by kernel_rfl) (by kernel_rfl) ?_
   repeat (go_big_quiet_step (first | (with_reducible exact Calls.ext_of (H1.out _ (hx3.ext_trans (Mod.of_below (ext_below _ _))))) | (with_reducible exact Calls.ext_of (H2.out _ (hx3.ext_trans (Mod.of_below (ext_below _ _)))))))
   refine wpQuiet_nil ?_
   intro we hxe
   go_wp2_with fail
   go_ret2
   exact ⟨congrArg (fun z : Nat => Ending.returned (.tuple #[.int .i64 z, .int .i64 0])) Hm.out.symm, (hx0.ext_trans hx3).ext_trans hxe⟩
end Go.Proofs.YthlmgoagnfkhdaaGreat
namespace Go.Gim
theorem upto3_lt (l : List UInt8) : ∀ j, j + 1 ≤ brk l → upto 3 l j < upto 3 l (j + 1) := by
 induction l with
 | nil => intro j h; simp [brk_nil] at h
 | cons c r ih =>
  intro j h
  rw [brk_cons] at h
  simp only [upto, byW3_one]
  by_cases hc : (c == 10) = true
  ·simp only [hc, if_true] at h ⊢
   cases j with
   | zero => simp; omega
   | succ j =>
    rw [if_neg (by omega), if_neg (by omega)]
    have := ih j (by omega)
    simp only [Nat.add_sub_cancel]; omega
  ·simp only [hc, Bool.false_eq_true, if_false, Nat.add_zero, Nat.sub_zero] at h ⊢
   rw [if_neg (by omega), if_neg (by omega)]
   have := ih j h; omega
theorem lineN_lineE (l : List UInt8) (j : Nat) (h : j ≤ brk l) : lineN l j ≤ lineE l j := by
 cases j with
 | zero => simp [lineN]
 | succ j =>
  have := upto3_lt l j h
  simp only [lineN, lineE]
  rw [if_neg (by omega), Nat.add_sub_cancel]; omega
end Go.Gim
namespace Go.Proofs.YthlmgoagnfkhdaaGreat
open Go.RowKit Go.Gim
theorem Tryz.info3 : (Tryz.prog.info? 3).map (fun i => (i.zero, i.size, i.bytes)) = some (some (.int .i64 0), 1, 8) := by kernel_rfl
def RowI (B : Nat) (l : List Nat) (v : Value) (w : World) : Prop := B ≤ w.heap.size ∧ w.ownsRow B 3 1 v l.length (l.map fun n : Nat => Value.int .i64 n)
theorem refLead_any (c : UInt8) (w : World) : Calls Tryz.prog 166 #[.int .u8 c.toNat] w fun e w' => e = .returned (.bool (decide (c.toNat < 128 ∨ 191 < c.toNat))) ∧ w' = w := by
 generalize c.toNat = k
 by_cases h1 : (k : Int) < 128
 ·have hr : decide (k < 128 ∨ 191 < k) = true := by simp; omega
  rw [hr]
  clear hr
  go_enter Tryz.func166, Tryz.ntmps166
  go_wp2_with fail
  go_ret
  exact ⟨rfl, rfl⟩
 ·have h1' : decide ((k : Int) < 128) = false := by simpa using h1
  by_cases h2 : (191 : Int) < (k : Int)
  ·have hr : decide (k < 128 ∨ 191 < k) = true := by simp; omega
   rw [hr]
   clear hr
   go_enter Tryz.func166, Tryz.ntmps166
   go_wp2_with fail
   go_ret
   exact ⟨rfl, rfl⟩
  ·have h2' : decide ((191 : Int) < (k : Int)) = false := by simpa using h2
   have hr : decide (k < 128 ∨ 191 < k) = false := by simp; omega
   rw [hr]
   clear hr
   go_enter Tryz.func166, Tryz.ntmps166
   go_wp2_with fail
   go_ret
   exact ⟨rfl, rfl⟩
theorem good_any (way : Int) (w : World) : Calls Tryz.prog 162 #[.int .i64 way] w fun e w' => e = .returned (.bool (wayB way)) ∧ w' = w := by
 by_cases h0 : way = 0
 ·subst h0
  go_enter Tryz.func162, Tryz.ntmps162
  go_wp2_with fail
  go_ret
  exact ⟨rfl, rfl⟩
 ·have b0 : (way == 0) = false := by simpa using h0
  by_cases h1 : way = 1
  ·subst h1
   clear b0 h0
   go_enter Tryz.func162, Tryz.ntmps162
   go_wp2_with fail
   go_ret
   exact ⟨rfl, rfl⟩
  ·have b1 : (way == 1) = false := by simpa using h1
   have e : wayB way = (way == 2) := by
    unfold wayB
    rw [Bool.eq_iff_iff]; simp; omega
   have E := Lib.hid e
   clear h0 h1 e
   go_enter Tryz.func162, Tryz.ntmps162
   go_wp2_with fail
   go_ret
   exact ⟨ret_bool E.out.symm, rfl⟩
theorem wpList_append_rowI {w0 w : World} {ops : Array Oper} {rest : List Oper} {o : Oper} {a : Act} {Q : Exit → Act → World → Prop} (hgd : o.guard = none) (s x : Operand)
  (ho : o.op = .call { callee := .builtin .append, args := #[s, x], argTypes := #[52, 52] })
  (B : Nat) (l : List Nat) (v : Value) (hs : a.eval s = v) (hr : RowI B l v w0) (n : Nat) (hw : w = w0.alloc (.cells #[.int .i64 n] 3)) (hx : a.eval x = .slice (some ⟨w0.heap.size, 0, none⟩) 1 1) (h63 : l.length ≤ 2000000)
  (h : ∀ v' w', RowI B (l ++ [n]) v' w' → Mod (B ≤ ·) w0 w' → wpList Tryz.prog ops Q rest (a.put o.dst v') w') : wpList Tryz.prog ops Q (o :: rest) a w := by
 have hx0 : Ext w0 w := by rw [hw]; exact (Mod.refl _ w0).alloc _
 have hr2 : RowI B l v w := ⟨Nat.le_trans hr.1 hx0.size, ownsRow_mod hr.2 hx0 (fun _ _ f => f)⟩
 refine wpList_append_reads hgd s x 52 ho B 3 _ 1 8 Tryz.info3 Tryz.underlying52 rfl (by omega) v _ _ hs hr2.2 _ 1 1 [.int .i64 n] hx ?_ ?_ (by unfold maxLen; omega) (by omega) hr2.1 fun v' w' k1 k2 _ => ?_
 ·rw [hw]; exact Reads.new w0 3 #[.int .i64 n] 1 1 rfl
 ·intro u hu; simp only [List.mem_cons, List.not_mem_nil, or_false] at hu; rw [hu]; rfl
 ·refine h v' w' ⟨Nat.le_trans hr2.1 k2.size, ?_⟩ (Mod.trans hx0.any k2 (fun k _ hk => (hr2.2.lt k hk).1))
  rw [List.map_append, List.length_append]
  exact k1
def StartsPost (l : List UInt8) (w : World) (e : Ending) (w' : World) : Prop := ∃ v, e = .returned v ∧ RowI w.heap.size (startsL l) v w' ∧ Ext w w'
theorem RowI.lit (w : World) (n : Nat) : RowI w.heap.size [n] (.slice (some ⟨w.heap.size, 0, none⟩) 1 1) (w.alloc (.cells #[.int .i64 n] 3)) :=
 ⟨by simp, World.ownsRow_lit w #[.int .i64 n] 1 (Nat.le_refl _) (by unfold maxLen; omega) rfl⟩
theorem starts_any (s : ByteArray) (w : World) (hs : s.size ≤ 1000000) : Calls Tryz.prog 167 #[.string s] w (StartsPost s.data.toList w) := by
 have hlit := Lib.hid (RowI.lit w 0)
 go_enter Tryz.func167, Tryz.ntmps167
 go_wp2_with fail
 go_loopw [3, 4] (fun s1 s2 wr => ∃ (k : Nat) (v : Value), k ≤ s.size ∧ s2 = .int .i64 k ∧ v = s1 ∧ Hid (RowI w.heap.size (startsL (s.data.toList.take k)) v wr ∧ Mod (w.heap.size ≤ ·) w wr)) (fun _ s2 _ => s.size - (intOf s2).toNat)
 case atStart => exact ⟨0, _, by omega, rfl, rfl, Lib.hid ⟨hlit.out, ((Mod.refl _ w).alloc _)⟩⟩
 case round =>
  obtain ⟨k, v, hk, rfl, rfl, HR⟩ := hrel
  by_cases hlt : k < s.size
  ·have hlt' : (k : Int) < (s.size : Int) := by omega
   have hk0 : (0 : Int) ≤ (k : Int) := by omega
   have ht : s.data.toList.take (k + 1) = s.data.toList.take k ++ [s[k]] := by rw [← toList_get s k hlt, List.take_append_getElem]
   have hst := startsL_snoc (s.data.toList.take k) s[k]
   rw [← ht, List.length_take, toList_length, Nat.min_eq_left hk] at hst
   have hll := startsL_len (s.data.toList.take k)
   have hbl := brk_le (s.data.toList.take k)
   have htl := List.length_take_le k s.data.toList
   have hR := HR.out.1
   generalize startsL (s.data.toList.take k) = L at *
   have hLb : L.length ≤ 2000000 := by omega
   have Hst := Lib.hid hst
   clear hst ht
   by_cases hc : s[k].toNat = 10
   ·have hc10 : (s[k] == 10) = true := by
     have : s[k] = 10 := UInt8.toNat_inj.1 hc
     rw [this]; rfl
    have b1 : ((s[k].toNat : Int) == 10) = true := by simp; omega
    have Hc := Lib.hid hc10
    clear hc hc10
    go_wp2_with (at_builtin; refine wpList_append_rowI rfl _ _ rfl w.heap.size L v rfl hR (k + 1) (by rfl) rfl hLb ?_)
    intro v2 w2 k1 k2
    have K1 := Lib.hid k1
    clear k1
    go_wp2_with fail
    go_roundw
    case rel => exact ⟨k + 1, v2, by omega, by go_num, rfl, Lib.hid ⟨by rw [Hst.out, Hc.out, if_pos rfl]; exact K1.out, Mod.trans HR.out.2 k2 (fun _ _ h => h)⟩⟩
    case measure => simp [intOf]; omega
   ·have hc10 : (s[k] == 10) = false := by
     rw [beq_eq_false_iff_ne]; intro e; exact hc (by rw [e]; rfl)
    have b1 : ((s[k].toNat : Int) == 10) = false := by simp; omega
    have Hc := Lib.hid hc10
    clear hc hc10
    go_wp2_with fail
    go_roundw
    case rel => exact ⟨k + 1, v, by omega, by go_num, rfl, Lib.hid ⟨by rw [Hst.out, Hc.out, if_neg (by simp), List.append_nil]; exact hR, HR.out.2⟩⟩
    case measure => simp [intOf]; omega
  ·have hlt' : ¬ (k : Int) < (s.size : Int) := by omega
   have hR := HR.out.1
   rw [List.take_of_length_le (by rw [toList_length]; omega)] at hR
   have HR2 := Lib.hid hR
   have hm := HR.out.2
   clear hR
   go_wp2_with fail
   go_ret
   exact ⟨v, rfl, HR2.out, hm.os, hm.tape, hm.output, hm.size, fun k hk _ => hm.block k hk (Nat.not_le.2 hk)⟩
theorem refMany_any (s : ByteArray) (w : World) (hs : s.size ≤ 1000000) : Calls Tryz.prog 132 #[.string s] w fun e w' => e = .returned (.int .i64 (brk s.data.toList + 1 : Nat)) ∧ Ext w w' := by
 have hl := startsL_len s.data.toList
 go_enter Tryz.func132, Tryz.ntmps132
 go_wp2_with fail
 refine (starts_any s _ hs).mono ?_
 rintro e w1 ⟨v, rfl, hr, hx⟩
 obtain ⟨ao, cap, rfl, _⟩ := ownsRow_shape hr.2
 rw [hl]
 clear hr hl
 go_wp2_with fail
 go_ret
 exact ⟨ret_int (by omega), hx⟩
theorem refStart_yes (s : ByteArray) (line : Nat) (w : World) (hs : s.size ≤ 1000000) (hn : hasB s.data.toList line = true) : Calls Tryz.prog 129 #[.string s, .int .i64 line] w fun e w' => e = .returned (.tuple #[.int .i64 (lineN s.data.toList line : Nat), .int .i64 0]) ∧ Ext w w' := by
 have hl := startsL_len s.data.toList
 obtain ⟨hn1, hn2⟩ := has_out hn
 have hat := startsL_at s.data.toList line (by omega)
 have hbl := brk_le s.data.toList
 rw [toList_length] at hbl
 generalize lineN s.data.toList line = S at *
 clear hn
 go_enter Tryz.func129, Tryz.ntmps129
 go_wp2_with fail
 refine (starts_any s _ hs).mono ?_
 rintro e w1 ⟨v, rfl, hr, hx⟩
 obtain ⟨ao, cap, rfl, _, hg⟩ := ownsRow_shape hr.2
 obtain ⟨g, rfl⟩ := hg (by omega)
 have hc : w1.cell? ⟨g, line, none⟩ = some (.int .i64 (S : Nat)) := by
  rw [hr.2.cellAt line (by omega)]
  rw [List.getElem?_map, hat]; rfl
 rw [hl]
 generalize brk s.data.toList = B at *
 clear hr hl hat
 have h1 : decide ((line : Int) < 0) = false := by simp
 have h2 : ¬ ((B + 1 : Nat) : Int) ≤ (line : Int) := by omega
 have h3 : ¬ (B : Int) + 1 ≤ (line : Int) := by omega
 have h4 : (line : Int) < ((B + 1 : Nat) : Int) := by omega
 have h5 : (line : Int) < (B : Int) + 1 := by omega
 have h6 : (0 : Int) ≤ (line : Int) := by omega
 have h7 : line < B + 1 := by omega
 go_wp2_with fail
 go_ret2
 exact ⟨rfl, hx⟩
theorem refEnd_yes (s : ByteArray) (line : Nat) (w : World) (hs : s.size ≤ 1000000) (hn : hasB s.data.toList line = true) : Calls Tryz.prog 130 #[.string s, .int .i64 line] w fun e w' => e = .returned (.tuple #[.int .i64 (lineE s.data.toList line : Nat), .int .i64 0]) ∧ Ext w w' := by
 have hl := startsL_len s.data.toList
 obtain ⟨hn1, hn2⟩ := has_out hn
 have hbl := brk_le s.data.toList
 rw [toList_length] at hbl
 have hle := lineE_le s.data.toList line
 rw [toList_length] at hle
 have hlast := lineE_last s.data.toList
 rw [toList_length] at hlast
 have hsucc := lineE_succ s.data.toList line
 have hpos : line < brk s.data.toList → 0 < lineN s.data.toList (line + 1) := fun h => (lineN_pos s.data.toList line h).1
 have hat := fun (h : line + 1 ≤ brk s.data.toList) => startsL_at s.data.toList (line + 1) h
 generalize hE : lineE s.data.toList line = E at *
 generalize lineN s.data.toList (line + 1) = S at *
 clear hn
 have hEl : line = brk s.data.toList → E = s.size := fun h => by rw [← hE, h]; exact hlast
 have HEl := Lib.hid hEl
 have Hsu := Lib.hid hsucc
 have Hpos := Lib.hid hpos
 have Hat := Lib.hid hat
 clear hE hlast hsucc hpos hat hEl
 go_enter Tryz.func130, Tryz.ntmps130
 go_wp2_with fail
 refine (starts_any s _ hs).mono ?_
 rintro e w1 ⟨v, rfl, hr, hx⟩
 obtain ⟨ao, cap, rfl, _, hg⟩ := ownsRow_shape hr.2
 obtain ⟨g, rfl⟩ := hg (by omega)
 have hc : line < brk s.data.toList → w1.cell? ⟨g, line + 1, none⟩ = some (.int .i64 (S : Nat)) := fun h => by
  rw [hr.2.cellAt (line + 1) (by omega), List.getElem?_map, Hat.out (by omega)]; rfl
 have Hc := Lib.hid hc
 rw [hl]
 generalize brk s.data.toList = B at *
 clear hr hl hc
 have h1 : decide ((line : Int) < 0) = false := by simp
 have h2 : ¬ ((B + 1 : Nat) : Int) ≤ (line : Int) := by omega
 have h3 : ¬ (B : Int) + 1 ≤ (line : Int) := by omega
 by_cases hlt : line < B
 ·have h4 : (line : Int) + 1 < (B : Int) + 1 := by omega
  have h4' : (line : Int) < (B : Int) := by omega
  have h5 : line + 1 < B + 1 := by omega
  have h6 : (0 : Int) ≤ (line : Int) + 1 := by omega
  have hc2 := Hc.out hlt
  have hS := Hpos.out hlt
  have hsb : E ≤ 1000000 := by omega
  have hsb2 : S ≤ 1000001 := by have := Hsu.out; omega
  go_wp2_with fail
  go_ret2
  exact ⟨congrArg (fun z : Int => Ending.returned (.tuple #[.int .i64 z, .int .i64 0])) (show (S : Int) - 1 = (E : Int) from by have := Hsu.out; omega), hx⟩
 ·have h4 : ¬ (line : Int) + 1 < (B : Int) + 1 := by omega
  have h4' : ¬ (line : Int) < (B : Int) := by omega
  have h5 : ¬ line < B := hlt
  go_wp2_with fail
  go_ret2
  exact ⟨congrArg (fun z : Nat => Ending.returned (.tuple #[.int .i64 z, .int .i64 0])) (HEl.out (by omega)).symm, hx⟩
theorem refTallySize : (Tryz.prog.info? 204).map (·.size) = some 4 := by kernel_rfl
theorem tally_step (l : List UInt8) (c : UInt8) : byt (l ++ [c]) = byt l + 1 ∧ brk (l ++ [c]) = brk l + (if c.toNat = 10 then 1 else 0) ∧ run (l ++ [c]) = run l + (if c.toNat < 128 ∨ 191 < c.toNat then 1 else 0) ∧
  unt (l ++ [c]) = unt l + (if c.toNat < 128 then 1 else if 240 ≤ c.toNat then 2 else if 191 < c.toNat then 1 else 0) := by
 have h := tally_one c
 unfold tally at h
 simp only [Array.mk.injEq, List.cons.injEq, Value.int.injEq, true_and, and_true] at h
 obtain ⟨h1, h2, h3, h4⟩ := h
 rw [byt_append, brk_append, run_append, unt_append]
 refine ⟨rfl, ?_, ?_, ?_⟩
 ·split at h2 <;> simp_all
  all_goals omega
 ·split at h3 <;> simp_all
  all_goals omega
 ·by_cases k1 : c.toNat < 128
  ·rw [if_pos k1] at h4 ⊢; omega
  ·rw [if_neg k1] at h4 ⊢
   by_cases k2 : 240 ≤ c.toNat
   ·rw [if_pos k2] at h4 ⊢; omega
   ·rw [if_neg k2] at h4 ⊢
    by_cases k3 : 191 < c.toNat
    ·rw [if_pos k3] at h4 ⊢; omega
    ·rw [if_neg k3] at h4 ⊢; omega
theorem ref2Of_any (s : ByteArray) (w : World) (hs : s.size ≤ 1000000) : Calls Tryz.prog 164 #[.string s] w fun e w' => e = .returned (.agg (#[Value.int IntKind.i64 ((byt (s.data.toList) : Nat) : Int), Value.int IntKind.i64 ((brk (s.data.toList) : Nat) : Int), Value.int IntKind.i64 ((run (s.data.toList) : Nat) : Int), Value.int IntKind.i64 ((unt (s.data.toList) : Nat) : Int)] : Array Value)) ∧ Ext w w' := by
 go_enter Tryz.func164, Tryz.ntmps164
 go_wp2_with fail
 go_loopw [4] (fun i wr => ∃ k : Nat, k ≤ s.size ∧ i = .int .i64 k ∧ Blk wr (w.heap.size + 1) 204 (#[Value.int IntKind.i64 ((byt (s.data.toList.take k) : Nat) : Int), Value.int IntKind.i64 ((brk (s.data.toList.take k) : Nat) : Int), Value.int IntKind.i64 ((run (s.data.toList.take k) : Nat) : Int), Value.int IntKind.i64 ((unt (s.data.toList.take k) : Nat) : Int)] : Array Value) ∧ Blk wr w.heap.size 204 (#[Value.int IntKind.i64 ((byt ([]) : Nat) : Int), Value.int IntKind.i64 ((brk ([]) : Nat) : Int), Value.int IntKind.i64 ((run ([]) : Nat) : Int), Value.int IntKind.i64 ((unt ([]) : Nat) : Int)] : Array Value) ∧ Ext w wr) (fun i _ => s.size - (intOf i).toNat)
 case atStart => exact ⟨0, by omega, rfl, Blk.new1 _ _ _ _, (Blk.new _ _ _).alloc _, ((Mod.refl _ w).alloc _).alloc _⟩
 case round =>
  obtain ⟨k, hk, rfl, hb, hr, hx⟩ := hrel
  obtain ⟨c0, c1, c2, c3, f0, f1, f2, f3⟩ := hb.tal
  by_cases hlt : k < s.size
  ·have hlt' : (k : Int) < (s.size : Int) := by omega
   have hk0 : (0 : Int) ≤ (k : Int) := by omega
   have ht : s.data.toList.take (k + 1) = s.data.toList.take k ++ [s[k]] := by rw [← toList_get s k hlt, List.take_append_getElem]
   have hts := tally_step (s.data.toList.take k) s[k]
   have g1 := brk_le (s.data.toList.take k)
   have g2 := run_le (s.data.toList.take k)
   have g3 := unt_le (s.data.toList.take k)
   have g4 : byt (s.data.toList.take k) = (s.data.toList.take k).length := rfl
   have g5 := List.length_take_le k s.data.toList
   have q0 : byt (s.data.toList.take k) ≤ 1000000 := by omega
   have q1 : brk (s.data.toList.take k) ≤ 1000000 := by omega
   have q2 : run (s.data.toList.take k) ≤ 1000000 := by omega
   have q3 : unt (s.data.toList.take k) ≤ 2000000 := by omega
   have Ht := Lib.hid ht
   have Hts := Lib.hid hts
   clear ht hts g1 g2 g3 g4 g5
   by_cases h1 : s[k].toNat < 128
   ·have hld : decide (s[k].toNat < 128 ∨ 191 < s[k].toNat) = true := by simp; omega
    have Hld := Lib.hid hld
    have b2 : ¬ ((240 : Int) ≤ (s[k].toNat : Int)) := by omega
    clear hld
    by_cases h10 : s[k].toNat = 10
    ·have b1 : ((s[k].toNat : Int) == 10) = true := by simp; omega
     have h10' : s[k].toNat ≤ 10 ∧ 10 ≤ s[k].toNat := by omega
     clear h10
     obtain ⟨t1, t2, t3, t4⟩ := Hts.out
     have hk2 : byt (s.data.toList.take (k + 1)) = byt (s.data.toList.take k) + 1 ∧ brk (s.data.toList.take (k + 1)) = brk (s.data.toList.take k) + 1 ∧ run (s.data.toList.take (k + 1)) = run (s.data.toList.take k) + 1 ∧ unt (s.data.toList.take (k + 1)) = unt (s.data.toList.take k) + 1 := by
      rw [Ht.out]
      refine ⟨t1, ?_, ?_, ?_⟩
      ·rw [t2]; first | rw [if_pos (by omega)] | rw [if_neg (by omega)]
      ·rw [t3]; first | rw [if_pos (by omega)] | rw [if_neg (by omega)]
      ·rw [t4]; repeat' split
       all_goals omega
     have Hk2 := Lib.hid hk2
     clear t1 t2 t3 t4 hk2
     go_wp2_with fail
     refine (refLead_any s[k] _).mono ?_
     rintro e w2 ⟨rfl, rfl⟩
     rw [Hld.out]
     go_wp2_with fail
     go_roundw
     case rel =>
      refine ⟨k + 1, by omega, by go_num, ?_, ?_, ?_⟩
      ·rw [Hk2.out.1, Hk2.out.2.1, Hk2.out.2.2.1, Hk2.out.2.2.2]
       exact ((((hb.set 0 _).set 1 _).set 2 _).set 3 _)
      ·exact Blk.mod hr (S := (· = w.heap.size + 1)) (by repeat (first | exact Mod.refl _ _ | refine Mod.setCell ?_ (fun _ => by rfl) _)) (fun e => by omega)
      ·repeat (first | exact hx | refine Mod.setCell ?_ (by simp) _)
     case measure => simp [intOf]; omega
    ·have b1 : ((s[k].toNat : Int) == 10) = false := by simp; omega
     obtain ⟨t1, t2, t3, t4⟩ := Hts.out
     have hk2 : byt (s.data.toList.take (k + 1)) = byt (s.data.toList.take k) + 1 ∧ brk (s.data.toList.take (k + 1)) = brk (s.data.toList.take k) + 0 ∧ run (s.data.toList.take (k + 1)) = run (s.data.toList.take k) + 1 ∧ unt (s.data.toList.take (k + 1)) = unt (s.data.toList.take k) + 1 := by
      rw [Ht.out]
      refine ⟨t1, ?_, ?_, ?_⟩
      ·rw [t2]; first | rw [if_pos (by omega)] | rw [if_neg (by omega)]
      ·rw [t3]; first | rw [if_pos (by omega)] | rw [if_neg (by omega)]
      ·rw [t4]; repeat' split
       all_goals omega
     have Hk2 := Lib.hid hk2
     clear t1 t2 t3 t4 hk2
     go_wp2_with fail
     refine (refLead_any s[k] _).mono ?_
     rintro e w2 ⟨rfl, rfl⟩
     rw [Hld.out]
     go_wp2_with fail
     go_roundw
     case rel =>
      refine ⟨k + 1, by omega, by go_num, ?_, ?_, ?_⟩
      ·rw [Hk2.out.1, Hk2.out.2.1, Hk2.out.2.2.1, Hk2.out.2.2.2]
       exact (((hb.set 0 _).set 2 _).set 3 _)
      ·exact Blk.mod hr (S := (· = w.heap.size + 1)) (by repeat (first | exact Mod.refl _ _ | refine Mod.setCell ?_ (fun _ => by rfl) _)) (fun e => by omega)
      ·repeat (first | exact hx | refine Mod.setCell ?_ (by simp) _)
     case measure => simp [intOf]; omega
   ·have b1 : ((s[k].toNat : Int) == 10) = false := by simp; omega
    by_cases h2 : 191 < s[k].toNat
    ·have hld : decide (s[k].toNat < 128 ∨ 191 < s[k].toNat) = true := by simp; omega
     have Hld := Lib.hid hld
     clear hld
     by_cases h3 : 240 ≤ s[k].toNat
     ·have b2 : (240 : Int) ≤ (s[k].toNat : Int) := by omega
      obtain ⟨t1, t2, t3, t4⟩ := Hts.out
      have hk2 : byt (s.data.toList.take (k + 1)) = byt (s.data.toList.take k) + 1 ∧ brk (s.data.toList.take (k + 1)) = brk (s.data.toList.take k) + 0 ∧ run (s.data.toList.take (k + 1)) = run (s.data.toList.take k) + 1 ∧ unt (s.data.toList.take (k + 1)) = unt (s.data.toList.take k) + 2 := by
       rw [Ht.out]
       refine ⟨t1, ?_, ?_, ?_⟩
       ·rw [t2]; first | rw [if_pos (by omega)] | rw [if_neg (by omega)]
       ·rw [t3]; first | rw [if_pos (by omega)] | rw [if_neg (by omega)]
       ·rw [t4]; repeat' split
        all_goals omega
      have Hk2 := Lib.hid hk2
      clear t1 t2 t3 t4 hk2
      go_wp2_with fail
      refine (refLead_any s[k] _).mono ?_
      rintro e w2 ⟨rfl, rfl⟩
      rw [Hld.out]
      go_wp2_with fail
      go_roundw
      case rel =>
       refine ⟨k + 1, by omega, by go_num, ?_, ?_, ?_⟩
       ·rw [Hk2.out.1, Hk2.out.2.1, Hk2.out.2.2.1, Hk2.out.2.2.2]
        exact ((((hb.set 0 _).set 2 _).set 3 _).set 3 _)
       ·exact Blk.mod hr (S := (· = w.heap.size + 1)) (by repeat (first | exact Mod.refl _ _ | refine Mod.setCell ?_ (fun _ => by rfl) _)) (fun e => by omega)
       ·repeat (first | exact hx | refine Mod.setCell ?_ (by simp) _)
      case measure => simp [intOf]; omega
     ·have b2 : ¬ ((240 : Int) ≤ (s[k].toNat : Int)) := by omega
      obtain ⟨t1, t2, t3, t4⟩ := Hts.out
      have hk2 : byt (s.data.toList.take (k + 1)) = byt (s.data.toList.take k) + 1 ∧ brk (s.data.toList.take (k + 1)) = brk (s.data.toList.take k) + 0 ∧ run (s.data.toList.take (k + 1)) = run (s.data.toList.take k) + 1 ∧ unt (s.data.toList.take (k + 1)) = unt (s.data.toList.take k) + 1 := by
       rw [Ht.out]
       refine ⟨t1, ?_, ?_, ?_⟩
       ·rw [t2]; first | rw [if_pos (by omega)] | rw [if_neg (by omega)]
       ·rw [t3]; first | rw [if_pos (by omega)] | rw [if_neg (by omega)]
       ·rw [t4]; repeat' split
        all_goals omega
      have Hk2 := Lib.hid hk2
      clear t1 t2 t3 t4 hk2
      go_wp2_with fail
      refine (refLead_any s[k] _).mono ?_
      rintro e w2 ⟨rfl, rfl⟩
      rw [Hld.out]
      go_wp2_with fail
      go_roundw
      case rel =>
       refine ⟨k + 1, by omega, by go_num, ?_, ?_, ?_⟩
       ·rw [Hk2.out.1, Hk2.out.2.1, Hk2.out.2.2.1, Hk2.out.2.2.2]
        exact (((hb.set 0 _).set 2 _).set 3 _)
       ·exact Blk.mod hr (S := (· = w.heap.size + 1)) (by repeat (first | exact Mod.refl _ _ | refine Mod.setCell ?_ (fun _ => by rfl) _)) (fun e => by omega)
       ·repeat (first | exact hx | refine Mod.setCell ?_ (by simp) _)
      case measure => simp [intOf]; omega
    ·have hld : decide (s[k].toNat < 128 ∨ 191 < s[k].toNat) = false := by simp; omega
     have Hld := Lib.hid hld
     have b2 : ¬ ((240 : Int) ≤ (s[k].toNat : Int)) := by omega
     clear hld
     obtain ⟨t1, t2, t3, t4⟩ := Hts.out
     have hk2 : byt (s.data.toList.take (k + 1)) = byt (s.data.toList.take k) + 1 ∧ brk (s.data.toList.take (k + 1)) = brk (s.data.toList.take k) + 0 ∧ run (s.data.toList.take (k + 1)) = run (s.data.toList.take k) + 0 ∧ unt (s.data.toList.take (k + 1)) = unt (s.data.toList.take k) + 0 := by
      rw [Ht.out]
      refine ⟨t1, ?_, ?_, ?_⟩
      ·rw [t2]; first | rw [if_pos (by omega)] | rw [if_neg (by omega)]
      ·rw [t3]; first | rw [if_pos (by omega)] | rw [if_neg (by omega)]
      ·rw [t4]; repeat' split
       all_goals omega
     have Hk2 := Lib.hid hk2
     clear t1 t2 t3 t4 hk2
     go_wp2_with fail
     refine (refLead_any s[k] _).mono ?_
     rintro e w2 ⟨rfl, rfl⟩
     rw [Hld.out]
     go_wp2_with fail
     go_roundw
     case rel =>
      refine ⟨k + 1, by omega, by go_num, ?_, ?_, ?_⟩
      ·rw [Hk2.out.1, Hk2.out.2.1, Hk2.out.2.2.1, Hk2.out.2.2.2]
       exact (hb.set 0 _)
      ·exact Blk.mod hr (S := (· = w.heap.size + 1)) (by repeat (first | exact Mod.refl _ _ | refine Mod.setCell ?_ (fun _ => by rfl) _)) (fun e => by omega)
      ·repeat (first | exact hx | refine Mod.setCell ?_ (by simp) _)
     case measure => simp [intOf]; omega
  ·have hlt' : ¬ ((k : Int) < (s.size : Int)) := by omega
   obtain ⟨d0, d1, d2, d3, g0, g1, g2, g3⟩ := hr.tal
   go_wp2_with fail
   have hres := ((((hr.set 0 (.int .i64 (byt (s.data.toList.take k) : Nat))).set 1 (.int .i64 (brk (s.data.toList.take k) : Nat))).set 2 (.int .i64 (run (s.data.toList.take k) : Nat))).set 3 (.int .i64 (unt (s.data.toList.take k) : Nat)))
   refine bodyPost_ret (results_cell_row rfl _ _ w.heap.size _ (#[Value.int IntKind.i64 ((byt (s.data.toList.take k) : Nat) : Int), Value.int IntKind.i64 ((brk (s.data.toList.take k) : Nat) : Int), Value.int IntKind.i64 ((run (s.data.toList.take k) : Nat) : Int), Value.int IntKind.i64 ((unt (s.data.toList.take k) : Nat) : Int)] : Array Value) (0, 0) _ rfl hres Tryz.underlying204 rfl refTallySize) rfl ?_
   have e : s.data.toList.take k = s.data.toList := List.take_of_length_le (by rw [toList_length]; omega)
   rw [e]
   refine ⟨rfl, ?_⟩
   exact (((hx.setCell (by simp) _).setCell (by simp) _).setCell (by simp) _).setCell (by simp) _
theorem rby_0 (a b c d : Int) (w : World) : Calls Tryz.prog 165 #[.agg #[.int .i64 a, .int .i64 b, .int .i64 c, .int .i64 d], .int .i64 0] w fun e w' => e = .returned (.int .i64 a) ∧ Ext w w' := by
 go_enter Tryz.func165, Tryz.ntmps165
 go_wp2_with fail
 go_ret
 exact ⟨rfl, (Mod.refl _ w).alloc _⟩
theorem rby_1 (a b c d : Int) (w : World) : Calls Tryz.prog 165 #[.agg #[.int .i64 a, .int .i64 b, .int .i64 c, .int .i64 d], .int .i64 1] w fun e w' => e = .returned (.int .i64 c) ∧ Ext w w' := by
 go_enter Tryz.func165, Tryz.ntmps165
 go_wp2_with fail
 go_ret
 exact ⟨rfl, (Mod.refl _ w).alloc _⟩
theorem rby_2 (a b c d : Int) (w : World) : Calls Tryz.prog 165 #[.agg #[.int .i64 a, .int .i64 b, .int .i64 c, .int .i64 d], .int .i64 2] w fun e w' => e = .returned (.int .i64 d) ∧ Ext w w' := by
 go_enter Tryz.func165, Tryz.ntmps165
 go_wp2_with fail
 go_ret
 exact ⟨rfl, (Mod.refl _ w).alloc _⟩
theorem rby_any (l : List UInt8) (way : Int) (w : World) (h : wayB way = true) : Calls Tryz.prog 165 #[.agg (#[Value.int IntKind.i64 ((byt (l) : Nat) : Int), Value.int IntKind.i64 ((brk (l) : Nat) : Int), Value.int IntKind.i64 ((run (l) : Nat) : Int), Value.int IntKind.i64 ((unt (l) : Nat) : Int)] : Array Value), .int .i64 way] w fun e w' => e = .returned (.int .i64 (byW way l : Nat)) ∧ Ext w w' := by
 obtain ⟨h0, h2⟩ := way_out h
 unfold byW
 by_cases k0 : way = 0
 ·subst k0; exact rby_0 _ _ _ _ w
 by_cases k1 : way = 1
 ·subst k1; exact rby_1 _ _ _ _ w
 obtain rfl : way = 2 := by omega
 exact rby_2 _ _ _ _ w
theorem ref2Upto_any (s : ByteArray) (way : Int) (n : Nat) (w : World) (h : wayB way = true) (hs : s.size ≤ 100000) (hni : IsInt n) : Calls Tryz.prog 168 #[.string s, .int .i64 way, .int .i64 n] w fun e w' => e = .returned (.int .i64 (upto way s.data.toList n : Nat)) ∧ Ext w w' := by
 have hn0 : (0 : Int) ≤ (n : Int) := Int.natCast_nonneg _
 have hn1 : decide ((n : Int) < 0) = false := by simp
 obtain ⟨hw0, hw2⟩ := way_out h
 have hw0' : decide (way < 0) = false := by simpa using hw0
 have hw3' : ¬ (3 : Int) < way := by omega
 have Hway := Lib.hid h
 clear h
 generalize hL : s.data.toList = L
 have HL := Lib.hid hL
 clear hL
 generalize hU : upto way L n = U
 have HU := Lib.hid hU
 clear hU
 go_enter Tryz.func168, Tryz.ntmps168
 go_wp2_with fail
 go_loopw [7, 8] (fun p q wr => ∃ k m : Nat, k ≤ s.size ∧ m ≤ 200000 ∧ q = .int .i64 k ∧ p = .int .i64 m ∧ Hid (U = k + upto way (L.drop k) (n - m) ∧ m ≤ n ∧ m = byW way (L.take k) ∧ Ext w wr)) (fun _ q _ => s.size - (intOf q).toNat)
 case atStart => exact ⟨0, 0, by omega, by omega, rfl, rfl, Lib.hid ⟨by rw [← HU.out]; simp, by omega, by simp [byW_nil], Mod.refl _ _⟩⟩
 case round =>
  obtain ⟨k, m, hk, hm, rfl, rfl, HR⟩ := hrel
  by_cases hlt : k < s.size
  ·have hlt' : (k : Int) < (s.size : Int) := by omega
   have hk0 : (0 : Int) ≤ (k : Int) := by omega
   have hdr : L.drop k = s[k] :: L.drop (k + 1) := by
    rw [← HL.out, List.drop_eq_getElem_cons (by simpa using hlt)]; rfl
   have htk : L.take (k + 1) = L.take k ++ [s[k]] := by rw [← HL.out, ← toList_get s k hlt, List.take_append_getElem]
   have hex : (s.extract k (k + 1)).data.toList = [s[k]] := by
    rw [extract_bs, bs_toList, ← toList_get s k hlt, List.drop_eq_getElem_cons (by simpa using hlt), show k + 1 - k = 1 from by omega]; simp
   have hB2 : byW way [s[k]] ≤ 2 := by have := byW_le way [s[k]]; simpa using this
   have hof := fun v => ref2Of_any (s.extract k (k + 1)) v (by simp; omega)
   rw [hex] at hof
   have hmb := byW_le way (L.take (k + 1))
   have hml := List.length_take_le (k + 1) L
   have Hof := Lib.hid hof
   have Hdr := Lib.hid hdr
   have Htk := Lib.hid htk
   have hmb2 : byW way (L.take (k + 1)) ≤ 200000 := by
    have : (L.take (k + 1)).length ≤ s.size := by rw [List.length_take, ← HL.out, toList_length]; omega
    omega
   clear hdr htk hex hof hmb hml
   go_wp2_with fail
   refine (Hof.out _).mono ?_
   rintro e w1 ⟨rfl, hx1⟩
   go_wp2_with fail
   refine (rby_any [s[k]] way _ Hway.out).mono ?_
   rintro e w2 ⟨rfl, hx2⟩
   have hmm : m + byW way [s[k]] = byW way (L.take (k + 1)) := by rw [Htk.out, byW_append, ← HR.out.2.2.1]
   have Hmm := Lib.hid hmm
   have hmm2 : m + byW way [s[k]] ≤ 200000 := by omega
   clear hmm hmb2
   generalize hB : byW way [s[k]] = B at *
   have HB := Lib.hid hB
   clear hB
   have hmn := HR.out.2.1
   by_cases hgt : (n : Int) < (m : Int) + (B : Int)
   ·go_wp2_with fail
    go_ret
    refine ⟨ret_int ?_, (HR.out.2.2.2.ext_trans hx1).ext_trans hx2⟩
    rw [HR.out.1, Hdr.out, upto, HB.out, if_pos (by omega)]; simp
   ·go_wp2_with fail
    go_roundw
    case rel =>
     refine ⟨k + 1, m + B, by omega, by omega, by go_num, by go_num, Lib.hid ⟨?_, by omega, Hmm.out, (HR.out.2.2.2.ext_trans hx1).ext_trans hx2⟩⟩
     rw [HR.out.1, Hdr.out, upto, HB.out, if_neg (by omega), Nat.sub_sub]; omega
    case measure => simp [intOf]; omega
  ·have hlt' : ¬ (k : Int) < (s.size : Int) := by omega
   go_wp2_with fail
   go_ret
   refine ⟨ret_int ?_, HR.out.2.2.2⟩
   rw [HR.out.1, List.drop_of_length_le (by rw [← HL.out, toList_length]; omega)]
   simp only [upto]; omega
end Go.Proofs.YthlmgoagnfkhdaaGreat
namespace Go.Gim
theorem byW_cut (way : Int) (l : List UInt8) (a b : Nat) (h : a ≤ b) : (byW way (cut l a b) : Int) = (byW way (l.take b) : Int) - (byW way (l.take a) : Int) := by
 have e : l.take b = l.take a ++ cut l a b := by
  unfold cut
  simp only [Int.toNat_natCast]
  have h1 : (l.take b).take a = l.take a := by rw [List.take_take, Nat.min_eq_left h]
  rw [← h1, List.take_append_drop]
 rw [e, byW_append]; omega
theorem upto_cut (way : Int) (l : List UInt8) (S T c : Nat) (h : S ≤ T) (hT : T ≤ l.length) :
  (if 2 * ((T : Int) - (S : Int)) ≤ (c : Int) then T else min T (upto way l (byW way (l.take S) + c))) = S + upto way (cut l S T) c := by
 have hc : (cut l S T).length = T - S := by rw [cut_len]; omega
 have e : l = l.take S ++ (cut l S T ++ l.drop T) := by
  have h1 : (l.take T).take S = l.take S := by rw [List.take_take, Nat.min_eq_left h]
  have h2 : cut l S T = (l.take T).drop S := by unfold cut; simp
  rw [← List.append_assoc, h2, ← h1, List.take_append_drop, List.take_append_drop]
 have hts : (l.take S).length = S := by rw [List.length_take]; omega
 have hU : upto way l (byW way (l.take S) + c) = S + upto way (cut l S T ++ l.drop T) c := by
  conv => lhs; rw [e]
  rw [upto_append_ge _ _ _ _ (by rw [← e]; omega)]
  rw [← e, hts, Nat.add_sub_cancel_left]
 have hle := upto_le way (cut l S T) c
 by_cases hb : byW way (cut l S T) ≤ c
 ·have h1 := upto_all way (cut l S T) c hb
  have h2 := upto_append_ge way (cut l S T) (l.drop T) c hb
  split <;> omega
 ·have h1 := upto_append_lt way (cut l S T) (l.drop T) c (by omega)
  have h2 := byW_le way (cut l S T)
  rw [if_neg (by omega), hU, h1]; omega
end Go.Gim
namespace Go.Proofs.YthlmgoagnfkhdaaGreat
open Go.RowKit Go.Gim
theorem refAt_yes (s : ByteArray) (f : Int) (w : World) (hs : s.size ≤ 65536) (hn : risesB f f s.size = true) : Calls Tryz.prog 163 #[.string s, .int .i64 f] w fun e w' => e = .returned (.tuple #[.int .i64 (brk (s.data.toList.take f.toNat) : Nat), .int .i64 0]) ∧ Ext w w' := by
 obtain ⟨g1, _, g3⟩ := rises_out hn
 have h1' : decide (f < 0) = false := by simpa using g1
 have h2 : ¬ (s.size : Int) < f := by omega
 have hof := fun v => ref2Of_any (s.extract 0 f.toNat) v (by simp; omega)
 have hex : (s.extract 0 f.toNat).data.toList = s.data.toList.take f.toNat := by rw [extract_bs, bs_toList]; simp
 rw [hex] at hof
 have Hof := Lib.hid hof
 generalize s.data.toList.take f.toNat = X at *
 have hfd : ∀ v : World, (Instr.field 204 (.agg (#[Value.int IntKind.i64 ((byt (X) : Nat) : Int), Value.int IntKind.i64 ((brk (X) : Nat) : Int), Value.int IntKind.i64 ((run (X) : Nat) : Int), Value.int IntKind.i64 ((unt (X) : Nat) : Int)] : Array Value)) 1).run Tryz.prog v = .ok (.int .i64 ((brk X : Nat) : Int)) v := fun _ => by kernel_rfl
 clear hn hof hex
 go_enter Tryz.func163, Tryz.ntmps163
 go_wp2_with fail
 refine (Hof.out _).mono ?_
 rintro e w1 ⟨rfl, hx⟩
 go_wp2_with fail
 go_ret2
 exact ⟨rfl, hx⟩
theorem refPlace_yes (s : ByteArray) (f way : Int) (w : World) (hs : s.size ≤ 65536) (h : wayB way = true) (hn : risesB f f s.size = true) : Calls Tryz.prog 126 #[.string s, .int .i64 f, .int .i64 way] w (PlacePost s.data.toList f way w) := by
 have hc := fun v => good_any way v
 rw [h] at hc
 obtain ⟨g1, _, g3⟩ := rises_out hn
 have ha := refAt_yes s f w hs hn
 have hbl : brk (s.data.toList.take f.toNat) ≤ brk s.data.toList := by
  have : brk s.data.toList = brk (s.data.toList.take f.toNat) + brk (s.data.toList.drop f.toNat) := by rw [← brk_append, List.take_append_drop]
  omega
 have hst := fun v => refStart_yes s (brk (s.data.toList.take f.toNat)) v (by omega) (has_of ⟨by omega, by omega⟩)
 have hle := lineN_le s.data.toList f.toNat
 have hcut := byW_cut way s.data.toList _ _ hle
 unfold PlacePost
 rw [← hcut]
 generalize lineN s.data.toList (brk (s.data.toList.take f.toNat)) = S at *
 generalize brk (s.data.toList.take f.toNat) = L at *
 have hof := fun v => ref2Of_any (s.extract S f.toNat) v (by simp; omega)
 have hex : (s.extract S f.toNat).data.toList = cut s.data.toList S f.toNat := extract_cut s S f.toNat S f.toNat (Int.toNat_natCast _) (Int.toNat_natCast _)
 rw [hex] at hof
 generalize cut s.data.toList S f.toNat = X at *
 have Hc := Lib.hid hc
 have Hst := Lib.hid hst
 have Hof := Lib.hid hof
 have Hw := Lib.hid h
 have e1 : (S : Int) ≤ f := by omega
 have e2 : (0 : Int) ≤ (S : Int) := by omega
 clear hc h hn hst hbl hcut hof hex
 go_enter Tryz.func126, Tryz.ntmps126
 go_wp2_with fail
 refine (Hc.out _).mono ?_
 rintro e w1 ⟨rfl, rfl⟩
 go_wp2_with fail
 refine ha.mono ?_
 rintro e w2 ⟨rfl, hx⟩
 go_wp2_with fail
 refine (Hst.out _).mono ?_
 rintro e w3 ⟨rfl, hx2⟩
 go_wp2_with fail
 refine (Hof.out _).mono ?_
 rintro e w4 ⟨rfl, hx3⟩
 go_wp2_with fail
 refine (rby_any X way _ Hw.out).mono ?_
 rintro e w5 ⟨rfl, hx4⟩
 go_wp2_with fail
 go_ret3
 exact ⟨rfl, ((hx.ext_trans hx2).ext_trans hx3).ext_trans hx4⟩
theorem refOffset_yes (s : ByteArray) (line c : Nat) (way : Int) (w : World) (hs : s.size ≤ 65536) (h : wayB way = true) (hn : hasB s.data.toList line = true) (hci : IsInt c) : Calls Tryz.prog 131 #[.string s, .int .i64 line, .int .i64 c, .int .i64 way] w (OffsetPost s.data.toList line c way w) := by
 have hc := fun v => good_any way v
 rw [h] at hc
 have hst := refStart_yes s line w (by omega) hn
 have hen := fun v => refEnd_yes s line v (by omega) hn
 have hjb : line ≤ brk s.data.toList := by have := (has_out hn).2; omega
 have h1 := lineN_lineE s.data.toList line hjb
 have h2 := lineE_le s.data.toList line
 have hcut := upto_cut way s.data.toList _ _ c h1 h2
 rw [toList_length] at h2
 unfold OffsetPost offN
 rw [hcut]
 generalize lineN s.data.toList line = S at *
 generalize lineE s.data.toList line = T at *
 have hup := fun v => ref2Upto_any (s.extract S T) way c v h (by simp; omega) hci
 have hex : (s.extract S T).data.toList = cut s.data.toList S T := extract_cut s S T S T (by simp) (by simp)
 rw [hex] at hup
 have hul := upto_le way (cut s.data.toList S T) c
 have hcl : (cut s.data.toList S T).length ≤ 65536 := by rw [cut_len, toList_length]; omega
 generalize upto way (cut s.data.toList S T) c = U at *
 have hU : U ≤ 65536 := by omega
 have Hc := Lib.hid hc
 have Hen := Lib.hid hen
 have Hup := Lib.hid hup
 have e1 : (S : Int) ≤ (T : Int) := by omega
 have e2 : (0 : Int) ≤ (S : Int) := by omega
 have e3 : (T : Int) ≤ (s.size : Int) := by omega
 have e4 : (0 : Int) ≤ (c : Int) := by omega
 clear hc h hn hen hup hcut hex hul hcl hjb hci
 go_enter Tryz.func131, Tryz.ntmps131
 go_wp2_with fail
 refine (Hc.out _).mono ?_
 rintro e w1 ⟨rfl, rfl⟩
 go_wp2_with fail
 refine hst.mono ?_
 rintro e w2 ⟨rfl, hx⟩
 go_wp2_with fail
 refine (Hen.out _).mono ?_
 rintro e w3 ⟨rfl, hx2⟩
 go_wp2_with fail
 refine (Hup.out _).mono ?_
 rintro e w4 ⟨rfl, hx3⟩
 go_wp2_with fail
 go_ret2
 exact ⟨congrArg (fun z : Int => Ending.returned (.tuple #[.int .i64 z, .int .i64 0])) (show (S : Int) + (U : Int) = ((S + U : Nat) : Int) from by omega), (hx.ext_trans hx2).ext_trans hx3⟩
theorem size_text {R : Rp} {s : ByteArray} (ht : R.text = s.data.toList) : R.t.size = s.size := by
 rw [T.size, show R.t.text = s.data.toList from ht]; rfl
end Go.Proofs.YthlmgoagnfkhdaaGreat
namespace Go.Gim
theorem byW_seg (way : Int) (l : List UInt8) (a f : Nat) (h : a ≤ f) : byW way (l.take f) = byW way (l.take a) + byW way ((l.take f).drop a) := by
 have e := (List.take_append_drop a (l.take f)).symm
 rw [List.take_take, Nat.min_eq_left h] at e
 exact (congrArg (byW way) e).trans (byW_append way _ _)
end Go.Gim
namespace Go.Proofs.YthlmgoagnfkhdaaGreat
open Go.RowKit Go.Gim
end Go.Proofs.YthlmgoagnfkhdaaGreat
namespace Go.Gim
def wordB (c : UInt8) : Bool := decide (97 ≤ c.toNat ∧ c.toNat ≤ 122 ∨ 65 ≤ c.toNat ∧ c.toNat ≤ 90 ∨ 48 ≤ c.toNat ∧ c.toNat ≤ 57 ∨ c.toNat = 95 ∨ 128 ≤ c.toNat)
def noWordB (c : UInt8) : Bool := !wordB c
def skip (p : UInt8 → Bool) (l : List UInt8) : Nat := (l.takeWhile p).length
def fwdN (p : UInt8 → Bool) (l : List UInt8) (a : Nat) : Nat := a + skip p (l.drop a)
def backN (p : UInt8 → Bool) (l : List UInt8) : Nat → Nat
 | 0 => 0
 | k + 1 => if p (l.getD k 0) then backN p l k else k + 1
def downN (p : UInt8 → Bool) (l : List UInt8) : Nat → Nat
 | 0 => 0
 | k + 1 => if p (l.getD (k + 1) 0) then downN p l k else k + 1
def leftN (l : List UInt8) (a : Nat) : Nat := if a = 0 then 0 else downN inB l (a - 1)
def rightN (l : List UInt8) (a : Nat) : Nat := if a < l.length then fwdN inB l (a + 1) else a
def wordLN (l : List UInt8) (a : Nat) : Nat := backN wordB l (backN noWordB l a)
def wordRN (l : List UInt8) (a : Nat) : Nat := fwdN wordB l (fwdN noWordB l a)
def lnN (l : List UInt8) (a : Nat) : Nat := brk (l.take a)
def colN (l : List UInt8) (a : Nat) : Nat := byW 1 (l.take a) - byW 1 (l.take (lineN l (lnN l a)))
def upN (l : List UInt8) (a : Nat) : Nat := if lnN l a = 0 then 0 else offN l (lnN l a - 1) (colN l a) 1
def belowN (l : List UInt8) (a : Nat) : Nat := if lnN l a + 1 ≤ brk l then offN l (lnN l a + 1) (colN l a) 1 else l.length
def stepN (l : List UInt8) (a : Nat) (way : Int) : Nat :=
 if way = 1 then leftN l a else if way = 2 then rightN l a else if way = 3 then lineN l (lnN l a) else if way = 4 then lineE l (lnN l a)
 else if way = 5 then upN l a else if way = 6 then belowN l a else if way = 7 then 0 else if way = 8 then l.length else if way = 9 then wordLN l a else wordRN l a
theorem skip_le (p : UInt8 → Bool) (l : List UInt8) : skip p l ≤ l.length := (List.takeWhile_prefix _).length_le
theorem fwdN_in (p : UInt8 → Bool) (l : List UInt8) (a : Nat) (h : a < l.length) (hp : p l[a] = true) : fwdN p l a = fwdN p l (a + 1) := by
 unfold fwdN skip
 rw [List.drop_eq_getElem_cons h, List.takeWhile_cons, if_pos hp, List.length_cons]; omega
theorem fwdN_stop (p : UInt8 → Bool) (l : List UInt8) (a : Nat) (h : a < l.length) (hp : p l[a] = false) : fwdN p l a = a := by
 unfold fwdN skip
 rw [List.drop_eq_getElem_cons h, List.takeWhile_cons, if_neg (by simp [hp])]; simp
theorem fwdN_over (p : UInt8 → Bool) (l : List UInt8) (a : Nat) (h : l.length ≤ a) : fwdN p l a = a := by
 unfold fwdN skip
 rw [List.drop_of_length_le h]; simp
theorem fwdN_ge (p : UInt8 → Bool) (l : List UInt8) (a : Nat) : a ≤ fwdN p l a := by unfold fwdN; omega
theorem fwdN_le (p : UInt8 → Bool) (l : List UInt8) (a : Nat) (h : a ≤ l.length) : fwdN p l a ≤ l.length := by
 have := skip_le p (l.drop a)
 rw [List.length_drop] at this
 unfold fwdN; omega
theorem backN_pos (p : UInt8 → Bool) (l : List UInt8) (k : Nat) (h : k < l.length) : backN p l (k + 1) = if p l[k] then backN p l k else k + 1 := by
 simp [backN, List.getD, h]
theorem backN_le (p : UInt8 → Bool) (l : List UInt8) : ∀ a, backN p l a ≤ a
 | 0 => Nat.le_refl _
 | k + 1 => by
  unfold backN
  split
  ·have := backN_le p l k; omega
  ·exact Nat.le_refl _
theorem downN_pos (p : UInt8 → Bool) (l : List UInt8) (j : Nat) (h0 : 0 < j) (h : j < l.length) : downN p l j = if p l[j] then downN p l (j - 1) else j := by
 obtain ⟨k, rfl⟩ : ∃ k, j = k + 1 := ⟨j - 1, by omega⟩
 simp [downN, List.getD, h]
theorem downN_le (p : UInt8 → Bool) (l : List UInt8) : ∀ a, downN p l a ≤ a
 | 0 => Nat.le_refl _
 | k + 1 => by
  unfold downN
  split
  ·have := downN_le p l k; omega
  ·exact Nat.le_refl _
theorem leftN_le (l : List UInt8) (a : Nat) : leftN l a ≤ a - 1 := by
 unfold leftN
 split
 ·omega
 ·have := downN_le inB l (a - 1); omega
theorem rightN_le (l : List UInt8) (a : Nat) (h : a ≤ l.length) : rightN l a ≤ l.length := by
 unfold rightN
 split
 ·exact fwdN_le _ _ _ (by omega)
 ·exact h
theorem offN_le (l : List UInt8) (line col : Nat) (way : Int) : offN l line col way ≤ l.length := by
 have h := lineE_le l line
 unfold offN
 split
 ·exact h
 ·exact Nat.le_trans (Nat.min_le_left _ _) h
theorem lnN_le (l : List UInt8) (a : Nat) : lnN l a ≤ brk l := by
 have e := brk_append (l.take a) (l.drop a)
 rw [List.take_append_drop] at e
 unfold lnN; omega
theorem stepN_le (l : List UInt8) (a : Nat) (way : Int) (h : a ≤ l.length) : stepN l a way ≤ l.length := by
 have h1 := leftN_le l a
 have h2 := rightN_le l a h
 have h3 := lineN_le l a
 have h4 := lineE_le l (lnN l a)
 have h5 := backN_le noWordB l a
 have h6 := backN_le wordB l (backN noWordB l a)
 have h7 := fwdN_le wordB l _ (fwdN_le noWordB l a h)
 have h8 : upN l a ≤ l.length := by
  unfold upN
  split
  ·omega
  ·exact offN_le ..
 have h9 : belowN l a ≤ l.length := by
  unfold belowN
  split
  ·exact offN_le ..
  ·exact Nat.le_refl _
 have h3' : lineN l (lnN l a) ≤ a := h3
 unfold stepN wordLN wordRN
 repeat' split
 all_goals omega
end Go.Gim

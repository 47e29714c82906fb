/- What the references gimletref2 and gimletref4 compute of a text. Conditions: a text of at most 1000000 bytes. -/
import Derived.Test.YtmecdhbiinpepaaDoorGimPackL
namespace Go.Proofs.YtmecdhbiinpepaaDoor
open Go.RowKit Go.Gim

abbrev intT : TypeId := 3
theorem Tryd.info3 : (Tryd.prog.info? 3).map (fun i => (i.zero, i.size, i.bytes)) = some (some (.int .i64 0), 1, 8) := by kernel_rfl

/-- Ints that lie in a row of the call's own, above B. -/
def RowI (B : Nat) (l : List Nat) (v : Value) (w : World) : Prop := B ≤ w.heap.size ∧ w.ownsRow B 3 1 v l.length (l.map fun n : Nat => Value.int .i64 n)

set_option maxHeartbeats 1600000 in
set_option maxRecDepth 1000000 in
theorem refLead_any (c : UInt8) (w : World) : Calls Tryd.prog 78 #[.int .u8 c.toNat] w fun e w' => e = .returned (.bool (decide (c.toNat < 128 ∨ 191 < c.toNat))) ∧ w' = w := by
  generalize c.toNat = k
  by_cases h1 : (k : Int) < 128
  · have hr : decide (k < 128 ∨ 191 < k) = true := by simp; omega
    rw [hr]
    clear hr
    go_enter Tryd.func78, Tryd.ntmps78
    go_wp2_with fail
    go_ret
    exact ⟨rfl, rfl⟩
  · have h1' : decide ((k : Int) < 128) = false := by simpa using h1
    by_cases h2 : (191 : Int) < (k : Int)
    · have hr : decide (k < 128 ∨ 191 < k) = true := by simp; omega
      rw [hr]
      clear hr
      go_enter Tryd.func78, Tryd.ntmps78
      go_wp2_with fail
      go_ret
      exact ⟨rfl, rfl⟩
    · have h2' : decide ((191 : Int) < (k : Int)) = false := by simpa using h2
      have hr : decide (k < 128 ∨ 191 < k) = false := by simp; omega
      rw [hr]
      clear hr
      go_enter Tryd.func78, Tryd.ntmps78
      go_wp2_with fail
      go_ret
      exact ⟨rfl, rfl⟩

/-- 'append(l, n)', l such a row. -/
theorem wpList_append_rowI {w0 w : World} {ops : Array Oper} {rest : List Oper} {o : Oper} {a : Act} {Q : Exit → Act → World → Prop} (hgd : o.guard = none) (s x : Operand)
    (ho : o.op = .call { callee := .builtin .append, args := #[s, x], argTypes := #[95, 95] })
    (B : Nat) (l : List Nat) (v : Value) (hs : a.eval s = v) (hr : RowI B l v w0) (n : Nat) (hw : w = w0.alloc (.cells #[.int .i64 n] 3)) (hx : a.eval x = .slice (some ⟨w0.heap.size, 0, none⟩) 1 1) (h63 : l.length ≤ 2000000)
    (h : ∀ v' w', RowI B (l ++ [n]) v' w' → Mod (B ≤ ·) w0 w' → wpList Tryd.prog ops Q rest (a.put o.dst v') w') : wpList Tryd.prog ops Q (o :: rest) a w := by
  have hx0 : Ext w0 w := by rw [hw]; exact (Mod.refl _ w0).alloc _
  have hr2 : RowI B l v w := ⟨Nat.le_trans hr.1 hx0.size, ownsRow_mod hr.2 hx0 (fun _ _ f => f)⟩
  refine wpList_append_reads hgd s x 95 ho B 3 _ 1 8 Tryd.info3 Tryd.underlying95 rfl (by omega) v _ _ hs hr2.2 _ 1 1 [.int .i64 n] hx ?_ ?_ (by unfold maxLen; omega) (by omega) hr2.1 fun v' w' k1 k2 _ => ?_
  · rw [hw]; exact Reads.new w0 3 #[.int .i64 n] 1 1 rfl
  · intro u hu; simp only [List.mem_cons, List.not_mem_nil, or_false] at hu; rw [hu]; rfl
  · refine h v' w' ⟨Nat.le_trans hr2.1 k2.size, ?_⟩ (Mod.trans hx0.any k2 (fun k _ hk => (hr2.2.lt k hk).1))
    rw [List.map_append, List.length_append]
    exact k1

def StartsPost (l : List UInt8) (w : World) (e : Ending) (w' : World) : Prop := ∃ v, e = .returned v ∧ RowI w.heap.size (startsL l) v w' ∧ Ext w w'
theorem RowI.lit (w : World) (n : Nat) : RowI w.heap.size [n] (.slice (some ⟨w.heap.size, 0, none⟩) 1 1) (w.alloc (.cells #[.int .i64 n] 3)) :=
  ⟨by simp, World.ownsRow_lit w #[.int .i64 n] 1 (Nat.le_refl _) (by unfold maxLen; omega) rfl⟩

set_option maxHeartbeats 1600000 in
set_option maxRecDepth 1000000 in
theorem starts_any (s : ByteArray) (w : World) (hs : s.size ≤ 1000000) : Calls Tryd.prog 61 #[.string s] w (StartsPost s.data.toList w) := by
  have hlit := Lib.hid (RowI.lit w 0)
  go_enter Tryd.func61, Tryd.ntmps61
  go_wp2_with fail
  go_loopw [3, 4] (fun s1 s2 wr => ∃ (k : Nat) (v : Value), k ≤ s.size ∧ s2 = .int .i64 k ∧ v = s1 ∧ Hid (RowI w.heap.size (startsL (s.data.toList.take k)) v wr ∧ Mod (w.heap.size ≤ ·) w wr)) (fun _ s2 _ => s.size - (intOf s2).toNat)
  case atStart => exact ⟨0, _, by omega, rfl, rfl, Lib.hid ⟨hlit.out, ((Mod.refl _ w).alloc _)⟩⟩
  case round =>
    obtain ⟨k, v, hk, rfl, rfl, HR⟩ := hrel
    by_cases hlt : k < s.size
    · have hlt' : (k : Int) < (s.size : Int) := by omega
      have hk0 : (0 : Int) ≤ (k : Int) := by omega
      have ht : s.data.toList.take (k + 1) = s.data.toList.take k ++ [s[k]] := by rw [← toList_get s k hlt, List.take_append_getElem]
      have hst := startsL_snoc (s.data.toList.take k) s[k]
      rw [← ht, List.length_take, toList_length, Nat.min_eq_left hk] at hst
      have hll := startsL_len (s.data.toList.take k)
      have hbl := brk_le (s.data.toList.take k)
      have htl := List.length_take_le k s.data.toList
      have hR := HR.out.1
      generalize startsL (s.data.toList.take k) = L at *
      have hLb : L.length ≤ 2000000 := by omega
      have Hst := Lib.hid hst
      clear hst ht
      by_cases hc : s[k].toNat = 10
      · have hc10 : (s[k] == 10) = true := by
          have : s[k] = 10 := UInt8.toNat_inj.1 hc
          rw [this]; rfl
        have b1 : ((s[k].toNat : Int) == 10) = true := by simp; omega
        have Hc := Lib.hid hc10
        clear hc hc10
        go_wp2_with (at_builtin; refine wpList_append_rowI rfl _ _ rfl w.heap.size L v rfl hR (k + 1) (by rfl) rfl hLb ?_)
        intro v2 w2 k1 k2
        have K1 := Lib.hid k1
        clear k1
        go_wp2_with fail
        go_roundw
        case rel => exact ⟨k + 1, v2, by omega, by go_num, rfl, Lib.hid ⟨by rw [Hst.out, Hc.out, if_pos rfl]; exact K1.out, Mod.trans HR.out.2 k2 (fun _ _ h => h)⟩⟩
        case measure => simp [intOf]; omega
      · have hc10 : (s[k] == 10) = false := by
          rw [beq_eq_false_iff_ne]; intro e; exact hc (by rw [e]; rfl)
        have b1 : ((s[k].toNat : Int) == 10) = false := by simp; omega
        have Hc := Lib.hid hc10
        clear hc hc10
        go_wp2_with fail
        go_roundw
        case rel => exact ⟨k + 1, v, by omega, by go_num, rfl, Lib.hid ⟨by rw [Hst.out, Hc.out, if_neg (by simp), List.append_nil]; exact hR, HR.out.2⟩⟩
        case measure => simp [intOf]; omega
    · have hlt' : ¬ (k : Int) < (s.size : Int) := by omega
      have hR := HR.out.1
      rw [List.take_of_length_le (by rw [toList_length]; omega)] at hR
      have HR2 := Lib.hid hR
      have hm := HR.out.2
      clear hR
      go_wp2_with fail
      go_ret
      exact ⟨v, rfl, HR2.out, hm.os, hm.tape, hm.output, hm.size, fun k hk _ => hm.block k hk (Nat.not_le.2 hk)⟩

set_option maxHeartbeats 800000 in
set_option maxRecDepth 1000000 in
theorem refStart_no (s : ByteArray) (line : Int) (w : World) (hs : s.size ≤ 1000000) (hn : hasB s.data.toList line = false) : Calls Tryd.prog 41 #[.string s, .int .i64 line] w fun e w' => e = .returned (.tuple #[.int .i64 0, .int .i64 3]) ∧ Ext w w' := by
  have hl := startsL_len s.data.toList
  have hn2 := has_out_not hn
  have hbl := brk_le s.data.toList
  rw [toList_length] at hbl
  clear hn
  go_enter Tryd.func41, Tryd.ntmps41
  go_wp2_with fail
  refine (starts_any s _ hs).mono ?_
  rintro e w1 ⟨v, rfl, hr, hx⟩
  obtain ⟨ao, cap, rfl, _⟩ := ownsRow_shape hr.2
  rw [hl]
  generalize brk s.data.toList = B at *
  clear hr hl
  by_cases h1 : line < 0
  · clear hn2
    go_wp2_with fail
    go_ret2
    exact ⟨rfl, hx⟩
  · have h1' : decide (line < 0) = false := by simpa using h1
    have h3 : (B : Int) + 1 ≤ line := by omega
    have h4 : ((B + 1 : Nat) : Int) ≤ line := by omega
    clear hn2
    go_wp2_with fail
    go_ret2
    exact ⟨rfl, hx⟩
set_option maxHeartbeats 800000 in
set_option maxRecDepth 1000000 in
theorem refStart_yes (s : ByteArray) (line : Nat) (w : World) (hs : s.size ≤ 1000000) (hn : hasB s.data.toList line = true) : Calls Tryd.prog 41 #[.string s, .int .i64 line] w fun e w' => e = .returned (.tuple #[.int .i64 (lineN s.data.toList line : Nat), .int .i64 0]) ∧ Ext w w' := by
  have hl := startsL_len s.data.toList
  obtain ⟨hn1, hn2⟩ := has_out hn
  have hat := startsL_at s.data.toList line (by omega)
  have hbl := brk_le s.data.toList
  rw [toList_length] at hbl
  generalize lineN s.data.toList line = S at *
  clear hn
  go_enter Tryd.func41, Tryd.ntmps41
  go_wp2_with fail
  refine (starts_any s _ hs).mono ?_
  rintro e w1 ⟨v, rfl, hr, hx⟩
  obtain ⟨ao, cap, rfl, _, hg⟩ := ownsRow_shape hr.2
  obtain ⟨g, rfl⟩ := hg (by omega)
  have hc : w1.cell? ⟨g, line, none⟩ = some (.int .i64 (S : Nat)) := by
    rw [hr.2.cellAt line (by omega)]
    rw [List.getElem?_map, hat]; rfl
  rw [hl]
  generalize brk s.data.toList = B at *
  clear hr hl hat
  have h1 : decide ((line : Int) < 0) = false := by simp
  have h2 : ¬ ((B + 1 : Nat) : Int) ≤ (line : Int) := by omega
  have h3 : ¬ (B : Int) + 1 ≤ (line : Int) := by omega
  have h4 : (line : Int) < ((B + 1 : Nat) : Int) := by omega
  have h5 : (line : Int) < (B : Int) + 1 := by omega
  have h6 : (0 : Int) ≤ (line : Int) := by omega
  have h7 : line < B + 1 := by omega
  go_wp2_with fail
  go_ret2
  exact ⟨rfl, hx⟩


set_option maxHeartbeats 800000 in
set_option maxRecDepth 1000000 in
theorem refEnd_no (s : ByteArray) (line : Int) (w : World) (hs : s.size ≤ 1000000) (hn : hasB s.data.toList line = false) : Calls Tryd.prog 42 #[.string s, .int .i64 line] w fun e w' => e = .returned (.tuple #[.int .i64 0, .int .i64 3]) ∧ Ext w w' := by
  have hl := startsL_len s.data.toList
  have hn2 := has_out_not hn
  have hbl := brk_le s.data.toList
  rw [toList_length] at hbl
  clear hn
  go_enter Tryd.func42, Tryd.ntmps42
  go_wp2_with fail
  refine (starts_any s _ hs).mono ?_
  rintro e w1 ⟨v, rfl, hr, hx⟩
  obtain ⟨ao, cap, rfl, _⟩ := ownsRow_shape hr.2
  rw [hl]
  generalize brk s.data.toList = B at *
  clear hr hl
  by_cases h1 : line < 0
  · clear hn2
    go_wp2_with fail
    go_ret2
    exact ⟨rfl, hx⟩
  · have h1' : decide (line < 0) = false := by simpa using h1
    have h3 : (B : Int) + 1 ≤ line := by omega
    have h4 : ((B + 1 : Nat) : Int) ≤ line := by omega
    clear hn2
    go_wp2_with fail
    go_ret2
    exact ⟨rfl, hx⟩
set_option maxHeartbeats 800000 in
set_option maxRecDepth 1000000 in
theorem refEnd_yes (s : ByteArray) (line : Nat) (w : World) (hs : s.size ≤ 1000000) (hn : hasB s.data.toList line = true) : Calls Tryd.prog 42 #[.string s, .int .i64 line] w fun e w' => e = .returned (.tuple #[.int .i64 (lineE s.data.toList line : Nat), .int .i64 0]) ∧ Ext w w' := by
  have hl := startsL_len s.data.toList
  obtain ⟨hn1, hn2⟩ := has_out hn
  have hbl := brk_le s.data.toList
  rw [toList_length] at hbl
  have hle := lineE_le s.data.toList line
  rw [toList_length] at hle
  have hlast := lineE_last s.data.toList
  rw [toList_length] at hlast
  have hsucc := lineE_succ s.data.toList line
  have hpos : line < brk s.data.toList → 0 < lineN s.data.toList (line + 1) := fun h => (lineN_pos s.data.toList line h).1
  have hat := fun (h : line + 1 ≤ brk s.data.toList) => startsL_at s.data.toList (line + 1) h
  generalize hE : lineE s.data.toList line = E at *
  generalize lineN s.data.toList (line + 1) = S at *
  clear hn
  have hEl : line = brk s.data.toList → E = s.size := fun h => by rw [← hE, h]; exact hlast
  have HEl := Lib.hid hEl
  have Hsu := Lib.hid hsucc
  have Hpos := Lib.hid hpos
  have Hat := Lib.hid hat
  clear hE hlast hsucc hpos hat hEl
  go_enter Tryd.func42, Tryd.ntmps42
  go_wp2_with fail
  refine (starts_any s _ hs).mono ?_
  rintro e w1 ⟨v, rfl, hr, hx⟩
  obtain ⟨ao, cap, rfl, _, hg⟩ := ownsRow_shape hr.2
  obtain ⟨g, rfl⟩ := hg (by omega)
  have hc : line < brk s.data.toList → w1.cell? ⟨g, line + 1, none⟩ = some (.int .i64 (S : Nat)) := fun h => by
    rw [hr.2.cellAt (line + 1) (by omega), List.getElem?_map, Hat.out (by omega)]; rfl
  have Hc := Lib.hid hc
  rw [hl]
  generalize brk s.data.toList = B at *
  clear hr hl hc
  have h1 : decide ((line : Int) < 0) = false := by simp
  have h2 : ¬ ((B + 1 : Nat) : Int) ≤ (line : Int) := by omega
  have h3 : ¬ (B : Int) + 1 ≤ (line : Int) := by omega
  by_cases hlt : line < B
  · have h4 : (line : Int) + 1 < (B : Int) + 1 := by omega
    have h4' : (line : Int) < (B : Int) := by omega
    have h5 : line + 1 < B + 1 := by omega
    have h6 : (0 : Int) ≤ (line : Int) + 1 := by omega
    have hc2 := Hc.out hlt
    have hS := Hpos.out hlt
    have hsb : E ≤ 1000000 := by omega
    have hsb2 : S ≤ 1000001 := by have := Hsu.out; omega
    go_wp2_with fail
    go_ret2
    exact ⟨congrArg (fun z : Int => Ending.returned (.tuple #[.int .i64 z, .int .i64 0])) (show (S : Int) - 1 = (E : Int) from by have := Hsu.out; omega), hx⟩
  · have h4 : ¬ (line : Int) + 1 < (B : Int) + 1 := by omega
    have h4' : ¬ (line : Int) < (B : Int) := by omega
    have h5 : ¬ line < B := hlt
    go_wp2_with fail
    go_ret2
    exact ⟨congrArg (fun z : Nat => Ending.returned (.tuple #[.int .i64 z, .int .i64 0])) (HEl.out (by omega)).symm, hx⟩

end Go.Proofs.YtmecdhbiinpepaaDoor

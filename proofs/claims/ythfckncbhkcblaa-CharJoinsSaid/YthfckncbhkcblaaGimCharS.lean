/- What package char's Split and Places make, and the document's: the same lists. Conditions: texts of at most 100000 bytes. -/
import Derived.Test.YthfckncbhkcblaaGimChar
import Derived.Test.YthfckncbhkcblaaGimAppend
namespace Go.Proofs.Ythfckncbhkcblaa
open Go.RowKit Go.Gim

theorem Try.info9 : (Try.prog.info? 9).map (fun i => (i.zero, i.size, i.bytes)) = some (some (.string ByteArray.empty), 1, 16) := by kernel_rfl
theorem Try.info3 : (Try.prog.info? 3).map (fun i => (i.zero, i.size, i.bytes)) = some (some (.int .i64 0), 1, 8) := by kernel_rfl

def strs (cs : List (List UInt8)) : List Value := cs.map fun c => .string (bs c)
theorem strs_length (cs : List (List UInt8)) : (strs cs).length = cs.length := by simp [strs]
theorem strs_snoc (cs : List (List UInt8)) (c : List UInt8) : strs (cs ++ [c]) = strs cs ++ [.string (bs c)] := by simp [strs]
def ints (ns : List Nat) : List Value := ns.map fun (n : Nat) => .int .i64 n
theorem ints_snoc (cs : List Nat) (c : Nat) : ints (cs ++ [c]) = ints cs ++ [.int .i64 c] := by simp [ints]

/-- A new slice of these texts. -/
def NewStrs (cs : List (List UInt8)) (w : World) (e : Ending) (w' : World) : Prop :=
  ∃ ao cap, e = .returned (.slice ao cs.length cap) ∧ w'.ownsRow w.heap.size 9 1 (.slice ao cs.length cap) cs.length (strs cs) ∧ Ext w w'
/-- A new slice of these numbers. -/
def NewInts (ns : List Nat) (w : World) (e : Ending) (w' : World) : Prop :=
  ∃ ao cap, e = .returned (.slice ao ns.length cap) ∧ w'.ownsRow w.heap.size 3 1 (.slice ao ns.length cap) ns.length (ints ns) ∧ Ext w w'

theorem one_cell (v : Value) (h : v.oneCell' = true) : ∀ u ∈ [v], u.oneCell' = true := by intro u hu; simp at hu; subst hu; exact h

set_option maxHeartbeats 1600000 in
set_option maxRecDepth 1000000 in
theorem split_any (s : ByteArray) (w : World) (hs : s.size ≤ 100000) :
    Calls Try.prog 19 #[.string s] w (NewStrs (charsAt s.data.toList 0) w) := by
  have hl : s.data.toList.length = s.size := rfl
  have Hl := Lib.hid hl
  clear hl
  go_enter Try.func19, Try.ntmps19
  go_wp2_with fail
  go_loopw [3, 4] (fun o i wr => ∃ (a : Nat) (cs : List (List UInt8)) (ao : Option Addr) (cap : Nat), a ≤ s.size ∧ cs.length ≤ a ∧ i = .int .i64 a ∧ o = .slice ao cs.length cap ∧ wr.ownsRow w.heap.size 9 1 (.slice ao cs.length cap) cs.length (strs cs) ∧ Ext w wr ∧ cs ++ charsAt s.data.toList a = charsAt s.data.toList 0) (fun _ i _ => s.size - (intOf i).toNat)
  case atStart => exact ⟨0, [], none, 0, by omega, by simp, rfl, rfl, World.ownsRow_nil _ _ _ _, Mod.refl _ _, rfl⟩
  case round =>
    obtain ⟨a, cs, ao, cap, ha, hca, rfl, rfl, hown, hx, hcs⟩ := hrel
    have Hcs := Lib.hid hcs
    clear hcs
    have hown0 : ∀ k, (Value.slice ao cs.length cap).ownBlock = some k → w.heap.size ≤ k ∧ k < wr.heap.size := hown.lt
    by_cases hlt : a < s.size
    · have hlt' : (a : Int) < (s.size : Int) := by omega
      have e1 := endN_gt s.data.toList a
      have e2 := endN_le s.data.toList a hlt
      have He2 : endN s.data.toList a ≤ s.size := e2
      clear e2
      go_wp2_with fail
      refine (end_any s _ _ (by omega) (by omega) (by omega)).mono ?_
      rintro e w' ⟨rfl, rfl⟩
      rw [Int.toNat_natCast]
      generalize hb : endN s.data.toList a = b at *
      have Hb := Lib.hid hb
      clear hb
      have i1 : (a : Int) ≤ (b : Int) := by omega
      have i2 : (b : Int) ≤ (s.size : Int) := by omega
      have hb1 : cs.length + 1 ≤ maxLen := by unfold maxLen; omega
      have hb2 : (cs.length + 1) * 16 ≤ 140737488355328 := by omega
      have hb3 : ∀ o, w.heap.size ≤ (w'.alloc o).heap.size := fun o => by have := hx.size; simp; omega
      go_wp2_with (at_builtin; refine wpList_append_reads rfl _ _ 34 rfl w.heap.size 9 (.string ByteArray.empty) 1 16 Try.info9 Try.underlying34 rfl (by decide) _ _ _ rfl (hown.alloc _) (some ⟨w'.heap.size, 0, none⟩) 1 1 [.string (s.extract a b)] rfl (Reads.new w' 9 #[.string (s.extract a b)] 1 1 rfl) (one_cell _ rfl) hb1 hb2 (hb3 _) ?_)
      intro v' w4 hown hm4 hbk
      obtain ⟨ax', cx', rfl, _, _⟩ := ownsRow_shape hown
      have hx4 : Ext w w4 := (hx.alloc _).trans hm4 (fun i hi e => by have := (hown0 i e).1; omega)
      clear hb1 hb2 hb3 hm4 hbk hx
      go_wp2_with fail
      go_roundw
      case rel =>
        refine ⟨b, cs ++ [(s.data.toList.drop a).take (b - a)], ax', cx', by omega, by simp; omega, rfl, by simp, ?_, hx4, ?_⟩
        · rw [strs_snoc, ← extract_bs, List.length_append]; exact hown
        · rw [← Hcs.out, charsAt_step _ a hlt, ← Hb.out]; simp
      case measure => simp [intOf]; omega
    · have hlt' : ¬ ((a : Int) < (s.size : Int)) := by omega
      go_wp2_with fail
      go_ret
      have e : cs = charsAt s.data.toList 0 := by
        have := Hcs.out
        rw [charsAt_end _ a (by rw [toList_length]; omega)] at this
        simpa using this
      rw [← e]
      exact ⟨ao, cap, rfl, hown, hx⟩

/-- The character that begins at a ends at i. -/
theorem charsAt_cut (l : List UInt8) (a i : Nat) (h1 : a < i) (h2 : i ≤ l.length) (h3 : ∀ j (hj : j < l.length), a < j → j < i → inB l[j] = true) (h4 : ∀ hi : i < l.length, inB l[i] = false) :
    charsAt l a = (l.drop a).take (i - a) :: charsAt l i := by
  rw [charsAt_step l a (by omega), endN_eq l a i h1 h2 h3 h4]
theorem placesAt_cut (l : List UInt8) (a i : Nat) (h1 : a < i) (h2 : i ≤ l.length) (h3 : ∀ j (hj : j < l.length), a < j → j < i → inB l[j] = true) (h4 : ∀ hi : i < l.length, inB l[i] = false) :
    placesAt l a = i :: placesAt l i := by
  rw [placesAt_step l a (by omega), endN_eq l a i h1 h2 h3 h4]

/-- What is known at a place i of the document's walk: the last character that was begun begins at a. -/
structure Walked (l : List UInt8) (a i : Nat) : Prop where
  le : a ≤ l.length
  lt : i ≤ l.length → a < i
  fin : l.length < i → a = l.length
  inn : ∀ j (hj : j < l.length), a < j → j < i → inB l[j] = true
theorem Walked.start (l : List UInt8) : Walked l 0 1 := ⟨Nat.zero_le _, fun _ => by omega, fun h => by omega, fun j hj h1 h2 => by omega⟩
theorem Walked.cut {l : List UInt8} {a i : Nat} (_ : Walked l a i) (hi : i ≤ l.length) : Walked l i (i + 1) :=
  ⟨hi, fun _ => by omega, fun h => by omega, fun j hj h1 h2 => by omega⟩
theorem Walked.on {l : List UInt8} {a i : Nat} (h : Walked l a i) (hi : i < l.length) (hb : inB l[i] = true) : Walked l a (i + 1) :=
  ⟨h.le, fun _ => by have := h.lt (by omega); omega, fun hh => by omega, fun j hj h1 h2 => by
    by_cases e : j = i
    · subst e; exact hb
    · exact h.inn j hj h1 (by omega)⟩

set_option maxHeartbeats 1600000 in
set_option maxRecDepth 1000000 in
theorem refSplit_any (s : ByteArray) (w : World) (hs : s.size ≤ 100000) :
    Calls Try.prog 17 #[.string s] w (NewStrs (charsAt s.data.toList 0) w) := by
  go_enter Try.func17, Try.ntmps17
  go_wp2_with fail
  go_loopw [3, 4, 5] (fun o f i wr => ∃ (a k : Nat) (cs : List (List UInt8)) (ao : Option Addr) (cap : Nat), Walked s.data.toList a k ∧ k ≤ s.size + 1 ∧ cs.length ≤ a ∧ i = .int .i64 k ∧ f = .int .i64 a ∧ o = .slice ao cs.length cap ∧ wr.ownsRow w.heap.size 9 1 (.slice ao cs.length cap) cs.length (strs cs) ∧ Ext w wr ∧ cs ++ charsAt s.data.toList a = charsAt s.data.toList 0) (fun _ _ i _ => s.size + 1 - (intOf i).toNat)
  case atStart => exact ⟨0, 1, [], none, 0, Walked.start _, by omega, by simp, rfl, rfl, rfl, World.ownsRow_nil _ _ _ _, Mod.refl _ _, rfl⟩
  case round =>
    obtain ⟨a, k, cs, ao, cap, hW, hk, hca, rfl, rfl, rfl, hown, hx, hcs⟩ := hrel
    have Hcs := Lib.hid hcs
    clear hcs
    have hle : a ≤ s.size := hW.le
    have hown0 : ∀ k, (Value.slice ao cs.length cap).ownBlock = some k → w.heap.size ≤ k ∧ k < wr.heap.size := hown.lt
    have hb1 : cs.length + 1 ≤ maxLen := by unfold maxLen; omega
    have hb2 : (cs.length + 1) * 16 ≤ 140737488355328 := by omega
    have hb3 : ∀ o, w.heap.size ≤ (wr.alloc o).heap.size := fun o => by have := hx.size; simp; omega
    by_cases hlt : k < s.size
    · have hlt' : ((k : Int) ≤ (s.size : Int)) := by omega
      have hlt2 : (k : Int) < (s.size : Int) := by omega
      have hne : ((k : Int) == (s.size : Int)) = false := by simp; omega
      by_cases hin : inB s[k]
      · have hW2 := hW.on (i := k) hlt hin
        have Hin : Hid ((!inB s[k]) = false) := by rw [hin]; rfl
        clear hin
        go_wp2_with fail
        refine (lead_any _ _).mono ?_
        rintro e w' ⟨rfl, rfl⟩
        rw [Hin.out]
        go_wp2_with fail
        go_roundw
        case rel => exact ⟨a, k + 1, cs, ao, cap, hW2, by omega, hca, by go_num, rfl, rfl, hown, hx, Hcs.out⟩
        case measure => simp [intOf]; omega
      · have hak : a < k := hW.lt (Nat.le_of_lt hlt)
        have hcut := charsAt_cut s.data.toList a k hak (Nat.le_of_lt hlt) hW.inn (fun hi => (by simpa using hin : inB s[k] = false))
        have Hcut := Lib.hid hcut
        have hW2 := hW.cut (Nat.le_of_lt hlt)
        have Hin : Hid ((!inB s[k]) = true) := by
          have : inB s[k] = false := by simpa using hin
          rw [this]; rfl
        have i1 : (a : Int) ≤ (k : Int) := by omega
        clear hin hcut
        go_wp2_with fail
        refine (lead_any _ _).mono ?_
        rintro e w' ⟨rfl, rfl⟩
        rw [Hin.out]
        go_wp2_with (at_builtin; refine wpList_append_reads rfl _ _ 34 rfl w.heap.size 9 (.string ByteArray.empty) 1 16 Try.info9 Try.underlying34 rfl (by decide) _ _ _ rfl (hown.alloc _) (some ⟨w'.heap.size, 0, none⟩) 1 1 [.string (s.extract a k)] rfl (Reads.new w' 9 #[.string (s.extract a k)] 1 1 rfl) (one_cell _ rfl) hb1 hb2 (hb3 _) ?_)
        intro v' w4 hown hm4 hbk
        obtain ⟨ax', cx', rfl, _, _⟩ := ownsRow_shape hown
        have hx4 : Ext w w4 := (hx.alloc _).trans hm4 (fun i hi e => by have := (hown0 i e).1; omega)
        clear hb1 hb2 hb3 hm4 hbk hx
        go_wp2_with fail
        go_roundw
        case rel =>
          refine ⟨k, k + 1, cs ++ [(s.data.toList.drop a).take (k - a)], ax', cx', hW2, by omega, by simp; omega, by go_num, rfl, by simp, ?_, hx4, ?_⟩
          · rw [strs_snoc, ← extract_bs, List.length_append]; exact hown
          · rw [← Hcs.out, Hcut.out]; simp
        case measure => simp [intOf]; omega
    · by_cases hke : k = s.size
      · subst hke
        have hak : a < s.size := hW.lt (Nat.le_refl _)
        have hcut := charsAt_cut s.data.toList a s.size hak (Nat.le_refl _) hW.inn (fun hi => absurd hi (by rw [toList_length]; omega))
        have Hcut := Lib.hid hcut
        have hW2 := hW.cut (Nat.le_refl _)
        have hne : ((s.size : Int) == (s.size : Int)) = true := by simp
        have hlt' : ((s.size : Int) ≤ (s.size : Int)) := by omega
        have i1 : (a : Int) ≤ (s.size : Int) := by omega
        clear hcut
        go_wp2_with (at_builtin; refine wpList_append_reads rfl _ _ 34 rfl w.heap.size 9 (.string ByteArray.empty) 1 16 Try.info9 Try.underlying34 rfl (by decide) _ _ _ rfl (hown.alloc _) (some ⟨wr.heap.size, 0, none⟩) 1 1 [.string (s.extract a s.size)] rfl (Reads.new wr 9 #[.string (s.extract a s.size)] 1 1 rfl) (one_cell _ rfl) hb1 hb2 (hb3 _) ?_)
        intro v' w4 hown hm4 hbk
        obtain ⟨ax', cx', rfl, _, _⟩ := ownsRow_shape hown
        have hx4 : Ext w w4 := (hx.alloc _).trans hm4 (fun i hi e => by have := (hown0 i e).1; omega)
        clear hb1 hb2 hb3 hm4 hbk hx
        go_wp2_with fail
        go_roundw
        case rel =>
          refine ⟨s.size, s.size + 1, cs ++ [(s.data.toList.drop a).take (s.size - a)], ax', cx', hW2, by omega, by simp; omega, by go_num, rfl, by simp, ?_, hx4, ?_⟩
          · rw [strs_snoc, ← extract_bs, List.length_append]; exact hown
          · rw [← Hcs.out, Hcut.out]; simp
        case measure => simp [intOf]
      · have hlt' : ¬ ((k : Int) ≤ (s.size : Int)) := by omega
        have hae : a = s.size := hW.fin (by rw [toList_length]; omega)
        go_wp2_with fail
        go_ret
        have e : cs = charsAt s.data.toList 0 := by
          have := Hcs.out
          rw [charsAt_end _ a (by rw [toList_length]; omega)] at this
          simpa using this
        rw [← e]
        exact ⟨ao, cap, rfl, hown, hx⟩

set_option maxHeartbeats 1600000 in
set_option maxRecDepth 1000000 in
theorem places_any (s : ByteArray) (w : World) (hs : s.size ≤ 100000) :
    Calls Try.prog 21 #[.string s] w (NewInts (0 :: placesAt s.data.toList 0) w) := by
  go_enter Try.func21, Try.ntmps21
  go_wp2_with fail
  go_loopw [3, 4] (fun o i wr => ∃ (a : Nat) (cs : List Nat) (ao : Option Addr) (cap : Nat), a ≤ s.size ∧ cs.length ≤ a + 1 ∧ i = .int .i64 a ∧ o = .slice ao cs.length cap ∧ wr.ownsRow w.heap.size 3 1 (.slice ao cs.length cap) cs.length (ints cs) ∧ Ext w wr ∧ cs ++ placesAt s.data.toList a = 0 :: placesAt s.data.toList 0) (fun _ i _ => s.size - (intOf i).toNat)
  case atStart => exact ⟨0, [0], some ⟨w.heap.size, 0, none⟩, 1, by omega, by simp, rfl, rfl, World.ownsRow_lit _ #[.int .i64 0] 1 (Nat.le_refl _) (by unfold maxLen; omega) rfl, (Mod.refl _ _).alloc _, rfl⟩
  case round =>
    obtain ⟨a, cs, ao, cap, ha, hca, rfl, rfl, hown, hx, hcs⟩ := hrel
    have Hcs := Lib.hid hcs
    clear hcs
    have hown0 : ∀ k, (Value.slice ao cs.length cap).ownBlock = some k → w.heap.size ≤ k ∧ k < wr.heap.size := hown.lt
    by_cases hlt : a < s.size
    · have hlt' : (a : Int) < (s.size : Int) := by omega
      have e1 := endN_gt s.data.toList a
      have He2 : endN s.data.toList a ≤ s.size := endN_le s.data.toList a hlt
      go_wp2_with fail
      refine (end_any s _ _ (by omega) (by omega) (by omega)).mono ?_
      rintro e w' ⟨rfl, rfl⟩
      rw [Int.toNat_natCast]
      generalize hb : endN s.data.toList a = b at *
      have Hb := Lib.hid hb
      clear hb
      have hb1 : cs.length + 1 ≤ maxLen := by unfold maxLen; omega
      have hb2 : (cs.length + 1) * 8 ≤ 140737488355328 := by omega
      have hb3 : ∀ o, w.heap.size ≤ (w'.alloc o).heap.size := fun o => by have := hx.size; simp; omega
      go_wp2_with (at_builtin; refine wpList_append_reads rfl _ _ 38 rfl w.heap.size 3 (.int .i64 0) 1 8 Try.info3 Try.underlying38 rfl (by decide) _ _ _ rfl (hown.alloc _) (some ⟨w'.heap.size, 0, none⟩) 1 1 [.int .i64 b] rfl (Reads.new w' 3 #[.int .i64 b] 1 1 rfl) (one_cell _ rfl) hb1 hb2 (hb3 _) ?_)
      intro v' w4 hown hm4 hbk
      obtain ⟨ax', cx', rfl, _, _⟩ := ownsRow_shape hown
      have hx4 : Ext w w4 := (hx.alloc _).trans hm4 (fun i hi e => by have := (hown0 i e).1; omega)
      clear hb1 hb2 hb3 hm4 hbk hx
      go_wp2_with fail
      go_roundw
      case rel =>
        refine ⟨b, cs ++ [b], ax', cx', by omega, by simp; omega, rfl, by simp, ?_, hx4, ?_⟩
        · rw [ints_snoc, List.length_append]; exact hown
        · rw [← Hcs.out, placesAt_step _ a hlt, ← Hb.out]; simp
      case measure => simp [intOf]; omega
    · have hlt' : ¬ ((a : Int) < (s.size : Int)) := by omega
      go_wp2_with fail
      go_ret
      have e : cs = 0 :: placesAt s.data.toList 0 := by
        have := Hcs.out
        rw [placesAt_end _ a (by rw [toList_length]; omega)] at this
        simpa using this
      rw [← e]
      exact ⟨ao, cap, rfl, hown, hx⟩

set_option maxHeartbeats 1600000 in
set_option maxRecDepth 1000000 in
theorem refPlaces_any (s : ByteArray) (w : World) (hs : s.size ≤ 100000) :
    Calls Try.prog 22 #[.string s] w (NewInts (0 :: placesAt s.data.toList 0) w) := by
  go_enter Try.func22, Try.ntmps22
  go_wp2_with fail
  go_loopw [3, 4] (fun o i wr => ∃ (a k : Nat) (cs : List Nat) (ao : Option Addr) (cap : Nat), Walked s.data.toList a k ∧ k ≤ s.size + 1 ∧ cs.length ≤ a + 1 ∧ i = .int .i64 k ∧ o = .slice ao cs.length cap ∧ wr.ownsRow w.heap.size 3 1 (.slice ao cs.length cap) cs.length (ints cs) ∧ Ext w wr ∧ cs ++ placesAt s.data.toList a = 0 :: placesAt s.data.toList 0) (fun _ i _ => s.size + 1 - (intOf i).toNat)
  case atStart => exact ⟨0, 1, [0], some ⟨w.heap.size, 0, none⟩, 1, Walked.start _, by omega, by simp, rfl, rfl, World.ownsRow_lit _ #[.int .i64 0] 1 (Nat.le_refl _) (by unfold maxLen; omega) rfl, (Mod.refl _ _).alloc _, rfl⟩
  case round =>
    obtain ⟨a, k, cs, ao, cap, hW, hk, hca, rfl, rfl, hown, hx, hcs⟩ := hrel
    have Hcs := Lib.hid hcs
    clear hcs
    have hle : a ≤ s.size := hW.le
    have hown0 : ∀ k, (Value.slice ao cs.length cap).ownBlock = some k → w.heap.size ≤ k ∧ k < wr.heap.size := hown.lt
    have hb1 : cs.length + 1 ≤ maxLen := by unfold maxLen; omega
    have hb2 : (cs.length + 1) * 8 ≤ 140737488355328 := by omega
    have hb3 : ∀ o, w.heap.size ≤ (wr.alloc o).heap.size := fun o => by have := hx.size; simp; omega
    by_cases hlt : k < s.size
    · have hlt' : ((k : Int) ≤ (s.size : Int)) := by omega
      have hlt2 : (k : Int) < (s.size : Int) := by omega
      have hne : ((k : Int) == (s.size : Int)) = false := by simp; omega
      by_cases hin : inB s[k]
      · have hW2 := hW.on (i := k) hlt hin
        have Hin : Hid ((!inB s[k]) = false) := by rw [hin]; rfl
        clear hin
        go_wp2_with fail
        refine (lead_any _ _).mono ?_
        rintro e w' ⟨rfl, rfl⟩
        rw [Hin.out]
        go_wp2_with fail
        go_roundw
        case rel => exact ⟨a, k + 1, cs, ao, cap, hW2, by omega, hca, by go_num, rfl, hown, hx, Hcs.out⟩
        case measure => simp [intOf]; omega
      · have hak : a < k := hW.lt (Nat.le_of_lt hlt)
        have hcut := placesAt_cut s.data.toList a k hak (Nat.le_of_lt hlt) hW.inn (fun hi => (by simpa using hin : inB s[k] = false))
        have Hcut := Lib.hid hcut
        have hW2 := hW.cut (Nat.le_of_lt hlt)
        have Hin : Hid ((!inB s[k]) = true) := by
          have : inB s[k] = false := by simpa using hin
          rw [this]; rfl
        clear hin hcut
        go_wp2_with fail
        refine (lead_any _ _).mono ?_
        rintro e w' ⟨rfl, rfl⟩
        rw [Hin.out]
        go_wp2_with (at_builtin; refine wpList_append_reads rfl _ _ 38 rfl w.heap.size 3 (.int .i64 0) 1 8 Try.info3 Try.underlying38 rfl (by decide) _ _ _ rfl (hown.alloc _) (some ⟨w'.heap.size, 0, none⟩) 1 1 [.int .i64 k] rfl (Reads.new w' 3 #[.int .i64 k] 1 1 rfl) (one_cell _ rfl) hb1 hb2 (hb3 _) ?_)
        intro v' w4 hown hm4 hbk
        obtain ⟨ax', cx', rfl, _, _⟩ := ownsRow_shape hown
        have hx4 : Ext w w4 := (hx.alloc _).trans hm4 (fun i hi e => by have := (hown0 i e).1; omega)
        clear hb1 hb2 hb3 hm4 hbk hx
        go_wp2_with fail
        go_roundw
        case rel =>
          refine ⟨k, k + 1, cs ++ [k], ax', cx', hW2, by omega, by simp; omega, by go_num, by simp, ?_, hx4, ?_⟩
          · rw [ints_snoc, List.length_append]; exact hown
          · rw [← Hcs.out, Hcut.out]; simp
        case measure => simp [intOf]; omega
    · by_cases hke : k = s.size
      · subst hke
        have hak : a < s.size := hW.lt (Nat.le_refl _)
        have hcut := placesAt_cut s.data.toList a s.size hak (Nat.le_refl _) hW.inn (fun hi => absurd hi (by rw [toList_length]; omega))
        have Hcut := Lib.hid hcut
        have hW2 := hW.cut (Nat.le_refl _)
        have hne : ((s.size : Int) == (s.size : Int)) = true := by simp
        have hlt' : ((s.size : Int) ≤ (s.size : Int)) := by omega
        clear hcut
        go_wp2_with (at_builtin; refine wpList_append_reads rfl _ _ 38 rfl w.heap.size 3 (.int .i64 0) 1 8 Try.info3 Try.underlying38 rfl (by decide) _ _ _ rfl (hown.alloc _) (some ⟨wr.heap.size, 0, none⟩) 1 1 [.int .i64 s.size] rfl (Reads.new wr 3 #[.int .i64 s.size] 1 1 rfl) (one_cell _ rfl) hb1 hb2 (hb3 _) ?_)
        intro v' w4 hown hm4 hbk
        obtain ⟨ax', cx', rfl, _, _⟩ := ownsRow_shape hown
        have hx4 : Ext w w4 := (hx.alloc _).trans hm4 (fun i hi e => by have := (hown0 i e).1; omega)
        clear hb1 hb2 hb3 hm4 hbk hx
        go_wp2_with fail
        go_roundw
        case rel =>
          refine ⟨s.size, s.size + 1, cs ++ [s.size], ax', cx', hW2, by omega, by simp; omega, by go_num, by simp, ?_, hx4, ?_⟩
          · rw [ints_snoc, List.length_append]; exact hown
          · rw [← Hcs.out, Hcut.out]; simp
        case measure => simp [intOf]
      · have hlt' : ¬ ((k : Int) ≤ (s.size : Int)) := by omega
        have hae : a = s.size := hW.fin (by rw [toList_length]; omega)
        go_wp2_with fail
        go_ret
        have e : cs = 0 :: placesAt s.data.toList 0 := by
          have := Hcs.out
          rw [placesAt_end _ a (by rw [toList_length]; omega)] at this
          simpa using this
        rw [← e]
        exact ⟨ao, cap, rfl, hown, hx⟩

end Go.Proofs.Ythfckncbhkcblaa

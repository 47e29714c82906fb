/- What package char's Split and Places make, and the document's: the same lists. Conditions: texts of at most 100000 bytes. -/
import Derived.Test.YtmecdhbiinpepaaGimChar
import Derived.Test.YtmecdhbiinpepaaGimPackA
import Derived.Test.YtmecdhbiinpepaaRows
namespace Go.Proofs.Ytmecdhbiinpepaa
open Go.RowKit Go.Gim

theorem Try.info9 : (Try.prog.info? 9).map (fun i => (i.zero, i.size, i.bytes)) = some (some (.string ByteArray.empty), 1, 16) := by kernel_rfl
theorem Try.info3 : (Try.prog.info? 3).map (fun i => (i.zero, i.size, i.bytes)) = some (some (.int .i64 0), 1, 8) := by kernel_rfl

def strs (cs : List (List UInt8)) : List Value := cs.map fun c => .string (bs c)
theorem strs_length (cs : List (List UInt8)) : (strs cs).length = cs.length := by simp [strs]
theorem strs_snoc (cs : List (List UInt8)) (c : List UInt8) : strs (cs ++ [c]) = strs cs ++ [.string (bs c)] := by simp [strs]
def ints (ns : List Nat) : List Value := ns.map fun (n : Nat) => .int .i64 n
theorem ints_snoc (cs : List Nat) (c : Nat) : ints (cs ++ [c]) = ints cs ++ [.int .i64 c] := by simp [ints]

/-- A new slice of these texts. -/
def NewStrs (cs : List (List UInt8)) (w : World) (e : Ending) (w' : World) : Prop :=
  ∃ ao cap, e = .returned (.slice ao cs.length cap) ∧ w'.ownsRow w.heap.size 9 1 (.slice ao cs.length cap) cs.length (strs cs) ∧ Ext w w'
/-- A new slice of these numbers. -/
def NewInts (ns : List Nat) (w : World) (e : Ending) (w' : World) : Prop :=
  ∃ ao cap, e = .returned (.slice ao ns.length cap) ∧ w'.ownsRow w.heap.size 3 1 (.slice ao ns.length cap) ns.length (ints ns) ∧ Ext w w'

theorem one_cell (v : Value) (h : v.oneCell' = true) : ∀ u ∈ [v], u.oneCell' = true := by intro u hu; simp at hu; subst hu; exact h

set_option maxHeartbeats 1600000 in
set_option maxRecDepth 1000000 in
theorem split_any (s : ByteArray) (w : World) (hs : s.size ≤ 100000) :
    Calls Try.prog 29 #[.string s] w (NewStrs (charsAt s.data.toList 0) w) := by
  have hl : s.data.toList.length = s.size := rfl
  have Hl := Lib.hid hl
  clear hl
  go_enter Try.func29, Try.ntmps29
  go_wp2_with fail
  go_loopw [3, 4] (fun o i wr => ∃ (a : Nat) (cs : List (List UInt8)) (ao : Option Addr) (cap : Nat), a ≤ s.size ∧ cs.length ≤ a ∧ i = .int .i64 a ∧ o = .slice ao cs.length cap ∧ wr.ownsRow w.heap.size 9 1 (.slice ao cs.length cap) cs.length (strs cs) ∧ Ext w wr ∧ cs ++ charsAt s.data.toList a = charsAt s.data.toList 0) (fun _ i _ => s.size - (intOf i).toNat)
  case atStart => exact ⟨0, [], none, 0, by omega, by simp, rfl, rfl, World.ownsRow_nil _ _ _ _, Mod.refl _ _, rfl⟩
  case round =>
    obtain ⟨a, cs, ao, cap, ha, hca, rfl, rfl, hown, hx, hcs⟩ := hrel
    have Hcs := Lib.hid hcs
    clear hcs
    have hown0 : ∀ k, (Value.slice ao cs.length cap).ownBlock = some k → w.heap.size ≤ k ∧ k < wr.heap.size := hown.lt
    by_cases hlt : a < s.size
    · have hlt' : (a : Int) < (s.size : Int) := by omega
      have e1 := endN_gt s.data.toList a
      have e2 := endN_le s.data.toList a hlt
      have He2 : endN s.data.toList a ≤ s.size := e2
      clear e2
      go_wp2_with fail
      refine (end_any s _ _ (by omega) (by omega) (by omega)).mono ?_
      rintro e w' ⟨rfl, rfl⟩
      rw [Int.toNat_natCast]
      generalize hb : endN s.data.toList a = b at *
      have Hb := Lib.hid hb
      clear hb
      have i1 : (a : Int) ≤ (b : Int) := by omega
      have i2 : (b : Int) ≤ (s.size : Int) := by omega
      have hb1 : cs.length + 1 ≤ maxLen := by unfold maxLen; omega
      have hb2 : (cs.length + 1) * 16 ≤ 140737488355328 := by omega
      have hb3 : ∀ o, w.heap.size ≤ (w'.alloc o).heap.size := fun o => by have := hx.size; simp; omega
      go_wp2_with (at_builtin; refine wpList_append_reads rfl _ _ 61 rfl w.heap.size 9 (.string ByteArray.empty) 1 16 Try.info9 Try.underlying61 rfl (by decide) _ _ _ rfl (hown.alloc _) (some ⟨w'.heap.size, 0, none⟩) 1 1 [.string (s.extract a b)] rfl (Reads.new w' 9 #[.string (s.extract a b)] 1 1 rfl) (one_cell _ rfl) hb1 hb2 (hb3 _) ?_)
      intro v' w4 hown hm4 hbk
      obtain ⟨ax', cx', rfl, _, _⟩ := ownsRow_shape hown
      have hx4 : Ext w w4 := (hx.alloc _).trans hm4 (fun i hi e => by have := (hown0 i e).1; omega)
      clear hb1 hb2 hb3 hm4 hbk hx
      go_wp2_with fail
      go_roundw
      case rel =>
        refine ⟨b, cs ++ [(s.data.toList.drop a).take (b - a)], ax', cx', by omega, by simp; omega, rfl, by simp, ?_, hx4, ?_⟩
        · rw [strs_snoc, ← extract_bs, List.length_append]; exact hown
        · rw [← Hcs.out, charsAt_step _ a hlt, ← Hb.out]; simp
      case measure => simp [intOf]; omega
    · have hlt' : ¬ ((a : Int) < (s.size : Int)) := by omega
      go_wp2_with fail
      go_ret
      have e : cs = charsAt s.data.toList 0 := by
        have := Hcs.out
        rw [charsAt_end _ a (by rw [toList_length]; omega)] at this
        simpa using this
      rw [← e]
      exact ⟨ao, cap, rfl, hown, hx⟩

/-- The character that begins at a ends at i. -/
theorem charsAt_cut (l : List UInt8) (a i : Nat) (h1 : a < i) (h2 : i ≤ l.length) (h3 : ∀ j (hj : j < l.length), a < j → j < i → inB l[j] = true) (h4 : ∀ hi : i < l.length, inB l[i] = false) :
    charsAt l a = (l.drop a).take (i - a) :: charsAt l i := by
  rw [charsAt_step l a (by omega), endN_eq l a i h1 h2 h3 h4]
theorem placesAt_cut (l : List UInt8) (a i : Nat) (h1 : a < i) (h2 : i ≤ l.length) (h3 : ∀ j (hj : j < l.length), a < j → j < i → inB l[j] = true) (h4 : ∀ hi : i < l.length, inB l[i] = false) :
    placesAt l a = i :: placesAt l i := by
  rw [placesAt_step l a (by omega), endN_eq l a i h1 h2 h3 h4]

/-- What is known at a place i of the document's walk: the last character that was begun begins at a. -/
structure Walked (l : List UInt8) (a i : Nat) : Prop where
  le : a ≤ l.length
  lt : i ≤ l.length → a < i
  fin : l.length < i → a = l.length
  inn : ∀ j (hj : j < l.length), a < j → j < i → inB l[j] = true
theorem Walked.start (l : List UInt8) : Walked l 0 1 := ⟨Nat.zero_le _, fun _ => by omega, fun h => by omega, fun j hj h1 h2 => by omega⟩
theorem Walked.cut {l : List UInt8} {a i : Nat} (_ : Walked l a i) (hi : i ≤ l.length) : Walked l i (i + 1) :=
  ⟨hi, fun _ => by omega, fun h => by omega, fun j hj h1 h2 => by omega⟩
theorem Walked.on {l : List UInt8} {a i : Nat} (h : Walked l a i) (hi : i < l.length) (hb : inB l[i] = true) : Walked l a (i + 1) :=
  ⟨h.le, fun _ => by have := h.lt (by omega); omega, fun hh => by omega, fun j hj h1 h2 => by
    by_cases e : j = i
    · subst e; exact hb
    · exact h.inn j hj h1 (by omega)⟩

set_option maxHeartbeats 1600000 in
set_option maxRecDepth 1000000 in
theorem places_any (s : ByteArray) (w : World) (hs : s.size ≤ 100000) :
    Calls Try.prog 15 #[.string s] w (NewInts (0 :: placesAt s.data.toList 0) w) := by
  go_enter Try.func15, Try.ntmps15
  go_wp2_with fail
  go_loopw [3, 4] (fun o i wr => ∃ (a : Nat) (cs : List Nat) (ao : Option Addr) (cap : Nat), a ≤ s.size ∧ cs.length ≤ a + 1 ∧ i = .int .i64 a ∧ o = .slice ao cs.length cap ∧ wr.ownsRow w.heap.size 3 1 (.slice ao cs.length cap) cs.length (ints cs) ∧ Ext w wr ∧ cs ++ placesAt s.data.toList a = 0 :: placesAt s.data.toList 0) (fun _ i _ => s.size - (intOf i).toNat)
  case atStart => exact ⟨0, [0], some ⟨w.heap.size, 0, none⟩, 1, by omega, by simp, rfl, rfl, World.ownsRow_lit _ #[.int .i64 0] 1 (Nat.le_refl _) (by unfold maxLen; omega) rfl, (Mod.refl _ _).alloc _, rfl⟩
  case round =>
    obtain ⟨a, cs, ao, cap, ha, hca, rfl, rfl, hown, hx, hcs⟩ := hrel
    have Hcs := Lib.hid hcs
    clear hcs
    have hown0 : ∀ k, (Value.slice ao cs.length cap).ownBlock = some k → w.heap.size ≤ k ∧ k < wr.heap.size := hown.lt
    by_cases hlt : a < s.size
    · have hlt' : (a : Int) < (s.size : Int) := by omega
      have e1 := endN_gt s.data.toList a
      have He2 : endN s.data.toList a ≤ s.size := endN_le s.data.toList a hlt
      go_wp2_with fail
      refine (end_any s _ _ (by omega) (by omega) (by omega)).mono ?_
      rintro e w' ⟨rfl, rfl⟩
      rw [Int.toNat_natCast]
      generalize hb : endN s.data.toList a = b at *
      have Hb := Lib.hid hb
      clear hb
      have hb1 : cs.length + 1 ≤ maxLen := by unfold maxLen; omega
      have hb2 : (cs.length + 1) * 8 ≤ 140737488355328 := by omega
      have hb3 : ∀ o, w.heap.size ≤ (w'.alloc o).heap.size := fun o => by have := hx.size; simp; omega
      go_wp2_with (at_builtin; refine wpList_append_reads rfl _ _ 30 rfl w.heap.size 3 (.int .i64 0) 1 8 Try.info3 Try.underlying30 rfl (by decide) _ _ _ rfl (hown.alloc _) (some ⟨w'.heap.size, 0, none⟩) 1 1 [.int .i64 b] rfl (Reads.new w' 3 #[.int .i64 b] 1 1 rfl) (one_cell _ rfl) hb1 hb2 (hb3 _) ?_)
      intro v' w4 hown hm4 hbk
      obtain ⟨ax', cx', rfl, _, _⟩ := ownsRow_shape hown
      have hx4 : Ext w w4 := (hx.alloc _).trans hm4 (fun i hi e => by have := (hown0 i e).1; omega)
      clear hb1 hb2 hb3 hm4 hbk hx
      go_wp2_with fail
      go_roundw
      case rel =>
        refine ⟨b, cs ++ [b], ax', cx', by omega, by simp; omega, rfl, by simp, ?_, hx4, ?_⟩
        · rw [ints_snoc, List.length_append]; exact hown
        · rw [← Hcs.out, placesAt_step _ a hlt, ← Hb.out]; simp
      case measure => simp [intOf]; omega
    · have hlt' : ¬ ((a : Int) < (s.size : Int)) := by omega
      go_wp2_with fail
      go_ret
      have e : cs = 0 :: placesAt s.data.toList 0 := by
        have := Hcs.out
        rw [placesAt_end _ a (by rw [toList_length]; omega)] at this
        simpa using this
      rw [← e]
      exact ⟨ao, cap, rfl, hown, hx⟩

end Go.Proofs.Ytmecdhbiinpepaa

/- What Fold of package char and of the document makes: the text with a to z for A to Z. Conditions: texts of at most 100000 bytes. -/
namespace Go.Proofs.Ytmecdhbiinpepaa
open Go.RowKit Go.Gim

def isBig (c : UInt8) : Bool := decide (65 ≤ c.toNat ∧ c.toNat ≤ 90)
def foldB (c : UInt8) : UInt8 := if isBig c then c + 32 else c
def fold (l : List UInt8) : List UInt8 := l.map foldB
theorem add32 (c : UInt8) (h : isBig c = true) : ((c + 32).toNat : Int) = (c.toNat : Int) + 32 := by
  simp only [isBig, decide_eq_true_eq] at h
  rw [UInt8.toNat_add]; simp; omega
/-- The first k bytes folded. -/
def foldTo (l : List UInt8) (k : Nat) : List UInt8 := (l.take k).map foldB ++ l.drop k
theorem foldTo_length (l : List UInt8) (k : Nat) : (foldTo l k).length = l.length := by simp [foldTo]; omega
theorem foldTo_at (l : List UInt8) (k : Nat) (h : k < l.length) : (foldTo l k)[k]'(by rw [foldTo_length]; exact h) = l[k] := by
  simp [foldTo, Nat.min_eq_left (Nat.le_of_lt h)]
theorem foldTo_succ (l : List UInt8) (k : Nat) (h : k < l.length) : foldTo l (k + 1) = (foldTo l k).set k (foldB l[k]) := by
  simp only [foldTo]
  rw [List.set_append_right (h := by simp; omega)]
  have e : (l.drop k).set 0 (foldB l[k]) = foldB l[k] :: l.drop (k + 1) := by rw [List.drop_eq_getElem_cons h]; rfl
  rw [List.take_succ_eq_append_getElem h, List.map_append]
  simp [Nat.min_eq_left (Nat.le_of_lt h), e]
theorem foldTo_all (l : List UInt8) (k : Nat) (h : l.length ≤ k) : foldTo l k = fold l := by
  simp [foldTo, fold, List.take_of_length_le h, List.drop_of_length_le h]
theorem foldTo_zero (l : List UInt8) : foldTo l 0 = l := by simp [foldTo]

set_option maxHeartbeats 1600000 in
set_option maxRecDepth 1000000 in
theorem fold_any (s : ByteArray) (w : World) (hs : s.size ≤ 100000) :
    Calls Try.prog 32 #[.string s] w fun e w' => e = .returned (.string (bs (fold s.data.toList))) ∧ Ext w w' := by
  have hconv := Lib.run_convert_string_bytes (P := Try.prog) w 9 64 5 s Try.underlying9 Try.underlying64 Try.underlying5
  have hB := BytesAt.new w 5 s
  have hE := bytesWorld_ext w 5 s
  generalize Lib.bytesWorld w 5 s = wb at *
  generalize grownCap w s.size 0 5 = cap at *
  go_enter Try.func32, Try.ntmps32
  go_wp2_with fail
  clear hconv
  go_loopw [10] (fun i wr => ∃ (k : Nat), k ≤ s.size ∧ i = .int .i64 k ∧ BytesAt wr w.heap.size (foldTo s.data.toList k) ∧ Ext w wr) (fun i _ => s.size - (intOf i).toNat)
  case atStart => exact ⟨0, by omega, rfl, by rw [foldTo_zero]; exact hB, hE⟩
  case round =>
    obtain ⟨k, hk, rfl, hBr, hx⟩ := hrel
    by_cases hlt : k < s.size
    · have hlt' : (k : Int) < (s.size : Int) := by omega
      have hc := hBr.cell k (by rw [foldTo_length]; exact hlt)
      have hf := hBr.free k (by rw [foldTo_length]; exact hlt)
      rw [foldTo_at _ k hlt, toList_get s k hlt] at hc
      have hset := hBr.set k (foldB s[k])
      rw [← toList_get s k hlt, ← foldTo_succ _ k hlt, toList_get s k hlt] at hset
      by_cases hbig : isBig s[k]
      · have h1 : (65 : Int) ≤ (s[k].toNat : Int) := by simp [isBig] at hbig; omega
        have h2 : (s[k].toNat : Int) ≤ 90 := by simp [isBig] at hbig; omega
        simp only [foldB, if_pos hbig, add32 _ hbig] at hset
        have Hset := Lib.hid hset
        clear hset hbig
        go_wp2_with fail
        go_roundw
        case rel => exact ⟨k + 1, by omega, by go_num, Hset.out, hx.setCell (p := ⟨w.heap.size, k, none⟩) (fun h => absurd h (Nat.lt_irrefl _)) _⟩
        case measure => simp [intOf]; omega
      · have hsame : foldB s[k] = s[k] := by simp [foldB, hbig]
        rw [hsame] at hset
        have hset2 : BytesAt wr w.heap.size (foldTo s.data.toList (k + 1)) := by
          rw [foldTo_succ _ k hlt, toList_get s k hlt, hsame]
          have e : (foldTo s.data.toList k).set k s[k] = foldTo s.data.toList k := by
            have := foldTo_at s.data.toList k hlt
            rw [toList_get s k hlt] at this
            rw [← this, List.set_getElem_self]
          rw [e]; exact hBr
        have Hset := Lib.hid hset2
        clear hset hset2 hsame
        by_cases h1 : (65 : Int) ≤ (s[k].toNat : Int)
        · have h2 : ¬ ((s[k].toNat : Int) ≤ 90) := by simp [isBig] at hbig; omega
          clear hbig
          go_wp2_with fail
          go_roundw
          case rel => exact ⟨k + 1, by omega, by go_num, Hset.out, hx⟩
          case measure => simp [intOf]; omega
        · clear hbig
          go_wp2_with fail
          go_roundw
          case rel => exact ⟨k + 1, by omega, by go_num, Hset.out, hx⟩
          case measure => simp [intOf]; omega
    · have hlt' : ¬ ((k : Int) < (s.size : Int)) := by omega
      have hback := hBr.back (P := Try.prog) 64 9 5 s.size cap (by rw [foldTo_length]; rfl) Try.underlying64 Try.underlying5 Try.underlying9
      rw [foldTo_all _ k (by rw [toList_length]; omega)] at hback
      go_wp2_with fail
      go_ret
      exact ⟨rfl, hx⟩

end Go.Proofs.Ytmecdhbiinpepaa

/- What First, Proper and Word of package char and of the document answer; lists of texts and of numbers held against each other. Conditions: texts of at most 100000 bytes. -/
namespace Go.Proofs.Ytmecdhbiinpepaa
open Go.RowKit Go.Gim

/-- A text's first character. -/
def firstL (l : List UInt8) : List UInt8 := if l = [] then [] else l.take (endN l 0)

set_option maxHeartbeats 1600000 in
set_option maxRecDepth 1000000 in
theorem cfirst_any (s : ByteArray) (w : World) (hs : s.size ≤ 100000) :
    Calls Try.prog 33 #[.string s] w fun e w' => e = .returned (.string (bs (firstL s.data.toList))) ∧ w' = w := by
  by_cases h0 : s.data.toList = []
  · have hs0 : s = ⟨#[]⟩ := by rw [← bs_of s, h0]; rfl
    subst hs0
    have hf : firstL (⟨#[]⟩ : ByteArray).data.toList = [] := rfl
    rw [hf]
    go_enter Try.func33, Try.ntmps33
    go_wp2_with fail
    go_ret
    exact ⟨rfl, rfl⟩
  · have hb : s.toList.isEmpty = false := by rw [ByteArray.toList_eq]; simpa using h0
    have hlen : 0 < s.size := by
      rw [← toList_length]; exact List.length_pos_iff.2 h0
    have he := endN_le s.data.toList 0 (by rw [toList_length]; exact hlen)
    rw [toList_length] at he
    have hf : .string (bs (firstL s.data.toList)) = Value.string (s.extract 0 (endN s.data.toList 0)) := by
      rw [extract_bs]; simp [firstL, h0]
    rw [hf]
    clear hf h0
    go_enter Try.func33, Try.ntmps33
    go_wp2_with fail
    refine (end_any s 0 _ (by decide) (by omega) (by omega)).mono ?_
    rintro e w' ⟨rfl, rfl⟩
    rw [show (0 : Int).toNat = 0 from rfl]
    generalize hB : endN s.data.toList 0 = b at *
    have HB := Lib.hid hB
    clear hB
    have i2 : (b : Int) ≤ (s.size : Int) := by omega
    go_wp2_with fail
    go_ret
    exact ⟨ret_string (by rw [HB.out]), rfl⟩

def wordB (c : UInt8) : Bool := decide (97 ≤ c.toNat ∧ c.toNat ≤ 122) || decide (65 ≤ c.toNat ∧ c.toNat ≤ 90) || decide (48 ≤ c.toNat ∧ c.toNat ≤ 57) || decide (c.toNat = 95)

set_option maxHeartbeats 1600000 in
set_option maxRecDepth 1000000 in
theorem word_one (c : UInt8) (w : World) :
    Calls Try.prog 31 #[.string ⟨#[c]⟩] w fun e w' => e = .returned (.bool (wordB c)) ∧ w' = w := by
  have hc : (⟨#[c]⟩ : ByteArray)[0]'(Nat.zero_lt_one) = c := rfl
  go_enter Try.func31, Try.ntmps31
  go_wp2_with fail
  all_goals go_ret
  all_goals refine ⟨ret_bool ?_, rfl⟩
  all_goals
    rw [Bool.eq_iff_iff]
    simp only [hc] at *
    simp [wordB]
    omega

set_option maxHeartbeats 1600000 in
set_option maxRecDepth 1000000 in
theorem word_none (s : ByteArray) (w : World) (h : s.size ≠ 1) :
    Calls Try.prog 31 #[.string s] w fun e w' => e = .returned (.bool false) ∧ w' = w := by
  have hne : (((s.size : Nat) : Int) != 1) = true := by simp; omega
  clear h
  go_enter Try.func31, Try.ntmps31
  go_wp2_with fail
  go_ret
  exact ⟨rfl, rfl⟩

def wordL (l : List UInt8) : Bool := match l with
  | [c] => wordB c
  | _ => false
theorem size_one (s : ByteArray) (h : s.size = 1) : ∃ c, s = ⟨#[c]⟩ := by
  rcases s with ⟨⟨l⟩⟩
  match l, h with
  | [c], _ => exact ⟨c, rfl⟩
theorem wordL_ne (s : ByteArray) (h : s.size ≠ 1) : wordL s.data.toList = false := by
  rcases s with ⟨⟨l⟩⟩
  match l, h with
  | [], _ => rfl
  | [c], h => exact absurd rfl h
  | _ :: _ :: _, _ => rfl

theorem word_any (s : ByteArray) (w : World) :
    Calls Try.prog 31 #[.string s] w fun e w' => e = .returned (.bool (wordL s.data.toList)) ∧ w' = w := by
  by_cases h : s.size = 1
  · obtain ⟨c, rfl⟩ := size_one s h
    exact word_one c w
  · rw [wordL_ne s h]; exact word_none s w h

/-- Is it one proper character? -/
def properL (l : List UInt8) : Bool := match l with
  | [] => false
  | c :: _ => !inB c && decide (endN l 0 = l.length)
theorem properL_nil : properL [] = false := rfl
theorem properL_pos (s : ByteArray) (h : 0 < s.size) : properL s.data.toList = (!inB (s[0]'h) && decide (endN s.data.toList 0 = s.size)) := by
  rcases s with ⟨⟨l⟩⟩
  match l, h with
  | c :: r, _ => rfl
/-- One character, as many as the document counts. -/
theorem chars_one (l : List UInt8) (h : 0 < l.length) : ((charsAt l 0).length = 1) ↔ endN l 0 = l.length := by
  rw [charsAt_step l 0 h]
  have h2 := endN_le l 0 h
  constructor
  · intro h1
    rcases Nat.lt_or_ge (endN l 0) l.length with h3 | h3
    · rw [charsAt_step l _ h3] at h1; simp at h1
    · omega
  · intro h1
    rw [h1, charsAt_end l _ (Nat.le_refl _)]; rfl

set_option maxHeartbeats 1600000 in
set_option maxRecDepth 1000000 in
theorem proper_any (s : ByteArray) (w : World) (hs : s.size ≤ 100000) :
    Calls Try.prog 30 #[.string s] w fun e w' => e = .returned (.bool (properL s.data.toList)) ∧ w' = w := by
  by_cases h0 : s.size = 0
  · have hs0 : s = ⟨#[]⟩ := by
      rcases s with ⟨⟨l⟩⟩
      match l, h0 with
      | [], _ => rfl
    subst hs0
    show Calls _ _ _ _ fun e w' => e = .returned (.bool false) ∧ w' = w
    clear h0 hs
    go_enter Try.func30, Try.ntmps30
    go_wp2_with fail
    go_ret
    exact ⟨rfl, rfl⟩
  · have hp : 0 < s.size := by omega
    have hp' : (0 : Int) < (s.size : Int) := by omega
    have hb : s.toList.isEmpty = false := by rw [ByteArray.toList_eq]; simpa using (List.length_pos_iff.1 (show 0 < s.data.toList.length from hp))
    have hb2 : (!s.toList.isEmpty) = true := by rw [hb]; rfl
    rw [properL_pos s hp]
    clear h0
    cases hi : inB s[0]
    · generalize hB : endN s.data.toList 0 = b at *
      have HB := Lib.hid hB
      have HI := Lib.hid hi
      clear hB hi
      by_cases hbs : b = s.size
      · have h1 : (((b : Nat) : Int) == (s.size : Int)) = true := by simp [hbs]
        have hd : (decide (b = s.size)) = true := by simp [hbs]
        rw [hd]
        clear hd hbs
        go_enter Try.func30, Try.ntmps30
        go_wp2_with fail
        refine (inside_no _ _ HI.out).mono ?_
        rintro e w' ⟨rfl, rfl⟩
        go_wp2_with fail
        refine (end_zero s b _ HB.out (by omega)).mono ?_
        rintro e w' ⟨rfl, rfl⟩
        go_wp2_with fail
        go_ret
        exact ⟨rfl, rfl⟩
      · have h1 : (((b : Nat) : Int) == (s.size : Int)) = false := by simp; omega
        have hd : (decide (b = s.size)) = false := by simp [hbs]
        rw [hd]
        clear hd hbs
        go_enter Try.func30, Try.ntmps30
        go_wp2_with fail
        refine (inside_no _ _ HI.out).mono ?_
        rintro e w' ⟨rfl, rfl⟩
        go_wp2_with fail
        refine (end_zero s b _ HB.out (by omega)).mono ?_
        rintro e w' ⟨rfl, rfl⟩
        go_wp2_with fail
        go_ret
        exact ⟨rfl, rfl⟩
    · have HI := Lib.hid hi
      clear hi
      go_enter Try.func30, Try.ntmps30
      go_wp2_with fail
      refine (inside_yes _ _ HI.out).mono ?_
      rintro e w' ⟨rfl, rfl⟩
      go_wp2_with fail
      go_ret
      exact ⟨rfl, rfl⟩

end Go.Proofs.Ytmecdhbiinpepaa

/- Two lists of texts, of numbers, held against each other by the statements' own functions. Conditions: lists of at most 1000000. -/
namespace Go.Proofs.Ytmecdhbiinpepaa
open Go.RowKit Go.Gim

theorem getD_of {α : Type} {l : List α} {j : Nat} {d : α} (h : j < l.length) : l[j]? = some (l.getD j d) := by simp [List.getD, h]
theorem ne_at {α : Type} [DecidableEq α] (d : α) : ∀ (xs ys : List α), xs.length = ys.length → xs ≠ ys → ∃ j, j < xs.length ∧ xs.getD j d ≠ ys.getD j d
  | [], [], _, h => absurd rfl h
  | x :: xs, y :: ys, hl, h => by
    by_cases hx : x = y
    · subst hx
      obtain ⟨j, hj, hne⟩ := ne_at d xs ys (by simpa using hl) (fun e => h (by rw [e]))
      exact ⟨j + 1, by simpa using hj, by simpa [List.getD] using hne⟩
    · exact ⟨0, by simp, by simpa [List.getD] using hx⟩
  | [], _ :: _, hl, _ => by simp at hl
  | _ :: _, [], hl, _ => by simp at hl

end Go.Proofs.Ytmecdhbiinpepaa

/- What the statements on char call to see that the program is one: it answers true; lists of characters held against each other. Conditions: none. -/
namespace Go.Proofs.Ytmecdhbiinpepaa
open Go.RowKit Go.Gim

theorem bs_inj {a b : List UInt8} (h : bs a = bs b) : a = b := by
  have := congrArg (fun x : ByteArray => x.data.toList) h
  simpa [bs] using this
theorem strs_map (cs : List (List UInt8)) : strs cs = (cs.map bs).map Value.string := by simp [strs]
theorem map_bs_inj : ∀ {a b : List (List UInt8)}, a.map bs = b.map bs → a = b
  | [], [], _ => rfl
  | [], _ :: _, h => by simp at h
  | _ :: _, [], h => by simp at h
  | x :: a, y :: b, h => by
    simp only [List.map_cons, List.cons.injEq] at h
    rw [bs_inj h.1, map_bs_inj h.2]
theorem ints_map (ns : List Nat) : ints ns = (ns.map (fun (n : Nat) => (n : Int))).map (Value.int .i64) := by simp [ints]
theorem map_nat_inj : ∀ {a b : List Nat}, a.map (fun (n : Nat) => (n : Int)) = b.map (fun (n : Nat) => (n : Int)) → a = b
  | [], [], _ => rfl
  | [], _ :: _, h => by simp at h
  | _ :: _, [], h => by simp at h
  | x :: a, y :: b, h => by
    simp only [List.map_cons, List.cons.injEq] at h
    rw [map_nat_inj h.2]; congr 1; omega

set_option maxHeartbeats 1600000 in
set_option maxRecDepth 1000000 in
theorem awake11_any (w : World) : Calls Try.prog 12 #[] w fun e w' => e = .returned (.bool true) ∧ Ext w w' := by
  go_enter Try.func12, Try.ntmps12
  go_wp2_with fail
  refine (split_any _ _ (by decide)).mono ?_
  rintro e w1 ⟨ao, cap, rfl, _, hx1⟩
  rw [show (charsAt (⟨#[97, 195, 169, 98]⟩ : ByteArray).data.toList 0).length = 3 from by decide]
  go_wp2_with fail
  refine (places_any _ _ (by decide)).mono ?_
  rintro e w2 ⟨ao2, cap2, rfl, _, hx2⟩
  rw [show (0 :: placesAt (⟨#[]⟩ : ByteArray).data.toList 0).length = 1 from by decide]
  go_wp2_with fail
  refine (proper_any _ _ (by decide)).mono ?_
  rintro e w3 ⟨rfl, rfl⟩
  rw [show properL (⟨#[195, 169]⟩ : ByteArray).data.toList = true from by decide]
  go_wp2_with fail
  refine (word_any _ _).mono ?_
  rintro e w3 ⟨rfl, rfl⟩
  rw [show wordL (⟨#[95]⟩ : ByteArray).data.toList = true from by decide]
  go_wp2_with fail
  refine (fold_any _ _ (by decide)).mono ?_
  rintro e w4 ⟨rfl, hx4⟩
  rw [show bs (fold (⟨#[97, 66]⟩ : ByteArray).data.toList) = ⟨#[97, 98]⟩ from by decide]
  go_wp2_with fail
  refine (cfirst_any _ _ (by decide)).mono ?_
  rintro e w5 ⟨rfl, rfl⟩
  rw [show bs (firstL (⟨#[120, 121]⟩ : ByteArray).data.toList) = ⟨#[120]⟩ from by decide]
  go_wp2_with fail
  go_ret
  exact ⟨rfl, (hx1.ext_trans hx2).ext_trans hx4⟩

end Go.Proofs.Ytmecdhbiinpepaa

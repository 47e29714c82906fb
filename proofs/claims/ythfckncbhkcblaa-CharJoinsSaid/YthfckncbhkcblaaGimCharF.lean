/- What Fold of package char and of the document makes: the text with a to z for A to Z. Conditions: texts of at most 100000 bytes. -/
import Derived.Test.YthfckncbhkcblaaGimChar
import Derived.Test.YthfckncbhkcblaaGimBytes
namespace Go.Proofs.Ythfckncbhkcblaa
open Go.RowKit Go.Gim

def isBig (c : UInt8) : Bool := decide (65 ≤ c.toNat ∧ c.toNat ≤ 90)
def foldB (c : UInt8) : UInt8 := if isBig c then c + 32 else c
def fold (l : List UInt8) : List UInt8 := l.map foldB
theorem add32 (c : UInt8) (h : isBig c = true) : ((c + 32).toNat : Int) = (c.toNat : Int) + 32 := by
  simp only [isBig, decide_eq_true_eq] at h
  rw [UInt8.toNat_add]; simp; omega
/-- The first k bytes folded. -/
def foldTo (l : List UInt8) (k : Nat) : List UInt8 := (l.take k).map foldB ++ l.drop k
theorem foldTo_length (l : List UInt8) (k : Nat) : (foldTo l k).length = l.length := by simp [foldTo]; omega
theorem foldTo_at (l : List UInt8) (k : Nat) (h : k < l.length) : (foldTo l k)[k]'(by rw [foldTo_length]; exact h) = l[k] := by
  simp [foldTo, Nat.min_eq_left (Nat.le_of_lt h)]
theorem foldTo_succ (l : List UInt8) (k : Nat) (h : k < l.length) : foldTo l (k + 1) = (foldTo l k).set k (foldB l[k]) := by
  simp only [foldTo]
  rw [List.set_append_right (h := by simp; omega)]
  have e : (l.drop k).set 0 (foldB l[k]) = foldB l[k] :: l.drop (k + 1) := by rw [List.drop_eq_getElem_cons h]; rfl
  rw [List.take_succ_eq_append_getElem h, List.map_append]
  simp [Nat.min_eq_left (Nat.le_of_lt h), e]
theorem foldTo_all (l : List UInt8) (k : Nat) (h : l.length ≤ k) : foldTo l k = fold l := by
  simp [foldTo, fold, List.take_of_length_le h, List.drop_of_length_le h]
theorem foldTo_zero (l : List UInt8) : foldTo l 0 = l := by simp [foldTo]

set_option maxHeartbeats 1600000 in
set_option maxRecDepth 1000000 in
theorem fold_any (s : ByteArray) (w : World) (hs : s.size ≤ 100000) :
    Calls Try.prog 26 #[.string s] w fun e w' => e = .returned (.string (bs (fold s.data.toList))) ∧ Ext w w' := by
  have hconv := Lib.run_convert_string_bytes (P := Try.prog) w 9 50 5 s Try.underlying9 Try.underlying50 Try.underlying5
  have hB := BytesAt.new w 5 s
  have hE := bytesWorld_ext w 5 s
  generalize Lib.bytesWorld w 5 s = wb at *
  generalize grownCap w s.size 0 5 = cap at *
  go_enter Try.func26, Try.ntmps26
  go_wp2_with fail
  clear hconv
  go_loopw [10] (fun i wr => ∃ (k : Nat), k ≤ s.size ∧ i = .int .i64 k ∧ BytesAt wr w.heap.size (foldTo s.data.toList k) ∧ Ext w wr) (fun i _ => s.size - (intOf i).toNat)
  case atStart => exact ⟨0, by omega, rfl, by rw [foldTo_zero]; exact hB, hE⟩
  case round =>
    obtain ⟨k, hk, rfl, hBr, hx⟩ := hrel
    by_cases hlt : k < s.size
    · have hlt' : (k : Int) < (s.size : Int) := by omega
      have hc := hBr.cell k (by rw [foldTo_length]; exact hlt)
      have hf := hBr.free k (by rw [foldTo_length]; exact hlt)
      rw [foldTo_at _ k hlt, toList_get s k hlt] at hc
      have hset := hBr.set k (foldB s[k])
      rw [← toList_get s k hlt, ← foldTo_succ _ k hlt, toList_get s k hlt] at hset
      by_cases hbig : isBig s[k]
      · have h1 : (65 : Int) ≤ (s[k].toNat : Int) := by simp [isBig] at hbig; omega
        have h2 : (s[k].toNat : Int) ≤ 90 := by simp [isBig] at hbig; omega
        simp only [foldB, if_pos hbig, add32 _ hbig] at hset
        have Hset := Lib.hid hset
        clear hset hbig
        go_wp2_with fail
        go_roundw
        case rel => exact ⟨k + 1, by omega, by go_num, Hset.out, hx.setCell (p := ⟨w.heap.size, k, none⟩) (fun h => absurd h (Nat.lt_irrefl _)) _⟩
        case measure => simp [intOf]; omega
      · have hsame : foldB s[k] = s[k] := by simp [foldB, hbig]
        rw [hsame] at hset
        have hset2 : BytesAt wr w.heap.size (foldTo s.data.toList (k + 1)) := by
          rw [foldTo_succ _ k hlt, toList_get s k hlt, hsame]
          have e : (foldTo s.data.toList k).set k s[k] = foldTo s.data.toList k := by
            have := foldTo_at s.data.toList k hlt
            rw [toList_get s k hlt] at this
            rw [← this, List.set_getElem_self]
          rw [e]; exact hBr
        have Hset := Lib.hid hset2
        clear hset hset2 hsame
        by_cases h1 : (65 : Int) ≤ (s[k].toNat : Int)
        · have h2 : ¬ ((s[k].toNat : Int) ≤ 90) := by simp [isBig] at hbig; omega
          clear hbig
          go_wp2_with fail
          go_roundw
          case rel => exact ⟨k + 1, by omega, by go_num, Hset.out, hx⟩
          case measure => simp [intOf]; omega
        · clear hbig
          go_wp2_with fail
          go_roundw
          case rel => exact ⟨k + 1, by omega, by go_num, Hset.out, hx⟩
          case measure => simp [intOf]; omega
    · have hlt' : ¬ ((k : Int) < (s.size : Int)) := by omega
      have hback := hBr.back (P := Try.prog) 50 9 5 s.size cap (by rw [foldTo_length]; rfl) Try.underlying50 Try.underlying5 Try.underlying9
      rw [foldTo_all _ k (by rw [toList_length]; omega)] at hback
      go_wp2_with fail
      go_ret
      exact ⟨rfl, hx⟩

set_option maxHeartbeats 1600000 in
set_option maxRecDepth 1000000 in
theorem refFold_any (s : ByteArray) (w : World) (hs : s.size ≤ 100000) :
    Calls Try.prog 27 #[.string s] w fun e w' => e = .returned (.string (bs (fold s.data.toList))) ∧ Ext w w' := by
  have hconv := Lib.run_convert_string_bytes (P := Try.prog) w 9 50 5 s Try.underlying9 Try.underlying50 Try.underlying5
  have hB := BytesAt.new w 5 s
  have hE := bytesWorld_ext w 5 s
  generalize Lib.bytesWorld w 5 s = wb at *
  generalize grownCap w s.size 0 5 = cap at *
  go_enter Try.func27, Try.ntmps27
  go_wp2_with fail
  clear hconv
  go_loopw [4] (fun i wr => ∃ (k : Nat), k ≤ s.size ∧ i = .int .i64 k ∧ BytesAt wr w.heap.size (foldTo s.data.toList k) ∧ Ext w wr) (fun i _ => s.size - (intOf i).toNat)
  case atStart => exact ⟨0, by omega, rfl, by rw [foldTo_zero]; exact hB, hE⟩
  case round =>
    obtain ⟨k, hk, rfl, hBr, hx⟩ := hrel
    by_cases hlt : k < s.size
    · have hlt' : (k : Int) < (s.size : Int) := by omega
      have hc := hBr.cell k (by rw [foldTo_length]; exact hlt)
      have hf := hBr.free k (by rw [foldTo_length]; exact hlt)
      rw [foldTo_at _ k hlt, toList_get s k hlt] at hc
      have hset := hBr.set k (foldB s[k])
      rw [← toList_get s k hlt, ← foldTo_succ _ k hlt, toList_get s k hlt] at hset
      by_cases hbig : isBig s[k]
      · have h1 : (65 : Int) ≤ (s[k].toNat : Int) := by simp [isBig] at hbig; omega
        have h2 : (s[k].toNat : Int) ≤ 90 := by simp [isBig] at hbig; omega
        simp only [foldB, if_pos hbig, add32 _ hbig] at hset
        have Hset := Lib.hid hset
        clear hset hbig
        go_wp2_with fail
        go_roundw
        case rel => exact ⟨k + 1, by omega, by go_num, Hset.out, hx.setCell (p := ⟨w.heap.size, k, none⟩) (fun h => absurd h (Nat.lt_irrefl _)) _⟩
        case measure => simp [intOf]; omega
      · have hsame : foldB s[k] = s[k] := by simp [foldB, hbig]
        rw [hsame] at hset
        have hset2 : BytesAt wr w.heap.size (foldTo s.data.toList (k + 1)) := by
          rw [foldTo_succ _ k hlt, toList_get s k hlt, hsame]
          have e : (foldTo s.data.toList k).set k s[k] = foldTo s.data.toList k := by
            have := foldTo_at s.data.toList k hlt
            rw [toList_get s k hlt] at this
            rw [← this, List.set_getElem_self]
          rw [e]; exact hBr
        have Hset := Lib.hid hset2
        clear hset hset2 hsame
        by_cases h1 : (65 : Int) ≤ (s[k].toNat : Int)
        · have h2 : ¬ ((s[k].toNat : Int) ≤ 90) := by simp [isBig] at hbig; omega
          clear hbig
          go_wp2_with fail
          go_roundw
          case rel => exact ⟨k + 1, by omega, by go_num, Hset.out, hx⟩
          case measure => simp [intOf]; omega
        · clear hbig
          go_wp2_with fail
          go_roundw
          case rel => exact ⟨k + 1, by omega, by go_num, Hset.out, hx⟩
          case measure => simp [intOf]; omega
    · have hlt' : ¬ ((k : Int) < (s.size : Int)) := by omega
      have hback := hBr.back (P := Try.prog) 50 9 5 s.size cap (by rw [foldTo_length]; rfl) Try.underlying50 Try.underlying5 Try.underlying9
      rw [foldTo_all _ k (by rw [toList_length]; omega)] at hback
      go_wp2_with fail
      go_ret
      exact ⟨rfl, hx⟩

end Go.Proofs.Ythfckncbhkcblaa

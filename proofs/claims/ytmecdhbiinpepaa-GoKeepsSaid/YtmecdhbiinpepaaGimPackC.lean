/- The small functions of gimletlaw4: of, awake. Conditions: none. -/
import Derived.Test.YtmecdhbiinpepaaGimRef5
namespace Go.Proofs.Ytmecdhbiinpepaa
open Go.RowKit Go.Gim

theorem linesSize : (Try.prog.info? 35).map (·.size) = some 1 := by kernel_rfl
/-- Lines of a text: a rope of it, all new. -/
def OfPost (s : List UInt8) (w : World) (e : Ending) (w' : World) : Prop := ∃ R : Rp, e = .returned (.tuple #[.agg #[.pointer (some ⟨R.rb, 0, none⟩)], .bool true]) ∧ RopeAt w' R ∧ R.text = s ∧ Ext w w' ∧ R.New w ∧ ∀ k, R.D.sv.ownBlock = some k → w.heap.size ≤ k

end Go.Proofs.Ytmecdhbiinpepaa

/- Package lines and its reference answer the same, of any text: each call in one step. Conditions: a text of at most 65536 bytes. -/
namespace Go.Proofs.Ytmecdhbiinpepaa
open Go.RowKit Go.Gim

/-- Two calls that answer one value, wherever the rope lies. -/
def Same (R : Rp) (f : FuncId) (args : Array Value) (g : FuncId) (brgs : Array Value) (v : Value) : Prop :=
  (∀ w, RopeAt w R → Calls Try.prog f args w fun e w' => e = .returned v ∧ Ext w w') ∧ (∀ w, Calls Try.prog g brgs w fun e w' => e = .returned v ∧ Ext w w')

theorem start_same (R : Rp) (s : ByteArray) (line : Int) (hs : s.size ≤ 65536) (ht : R.text = s.data.toList) :
    ∃ a e : Int, Same R 52 #[.agg #[.pointer (some ⟨R.rb, 0, none⟩)], .int .i64 line] 43 #[.string s, .int .i64 line] (.tuple #[.int .i64 a, .int .i64 e]) := by
  cases hn : hasB s.data.toList line with
  | true =>
    obtain ⟨line, rfl⟩ := Int.eq_ofNat_of_zero_le (has_out hn).1
    refine ⟨_, _, fun w h => start_yes R line w h (by rw [ht]; exact hn), fun w => ?_⟩
    rw [ht]; exact refStart_yes s line w (by omega) hn
  | false => exact ⟨_, _, fun w h => start_no R line w h (by rw [ht]; exact hn), fun w => refStart_no s line w (by omega) hn⟩
theorem end_same (R : Rp) (s : ByteArray) (line : Int) (hs : s.size ≤ 65536) (ht : R.text = s.data.toList) :
    ∃ a e : Int, Same R 67 #[.agg #[.pointer (some ⟨R.rb, 0, none⟩)], .int .i64 line] 44 #[.string s, .int .i64 line] (.tuple #[.int .i64 a, .int .i64 e]) := by
  cases hn : hasB s.data.toList line with
  | true =>
    obtain ⟨line, rfl⟩ := Int.eq_ofNat_of_zero_le (has_out hn).1
    refine ⟨_, _, fun w h => end_yes R line w h (by rw [ht]; exact hn), fun w => ?_⟩
    rw [ht]; exact refEnd_yes s line w (by omega) hn
  | false => exact ⟨_, _, fun w h => end_no R line w h (by rw [ht]; exact hn), fun w => refEnd_no s line w (by omega) hn⟩
theorem size_text {R : Rp} {s : ByteArray} (ht : R.text = s.data.toList) : R.t.size = s.size := by
  rw [T.size, show R.t.text = s.data.toList from ht]; rfl
theorem at_same (R : Rp) (s : ByteArray) (f : Int) (hs : s.size ≤ 65536) (ht : R.text = s.data.toList) :
    ∃ a e : Int, Same R 51 #[.agg #[.pointer (some ⟨R.rb, 0, none⟩)], .int .i64 f] 73 #[.string s, .int .i64 f] (.tuple #[.int .i64 a, .int .i64 e]) := by
  have hz := size_text ht
  cases hn : risesB f f s.size with
  | true =>
    refine ⟨_, _, fun w h => at_yes R f w h (by rw [hz]; exact hn), fun w => ?_⟩
    rw [ht]; exact refAt_yes s f w hs hn
  | false => exact ⟨_, _, fun w h => at_no R f w h (by rw [hz]; exact hn), fun w => refAt_no s f w hn⟩
theorem many_same (R : Rp) (s : ByteArray) (hs : s.size ≤ 65536) (ht : R.text = s.data.toList) :
    ∃ a : Int, Same R 26 #[.agg #[.pointer (some ⟨R.rb, 0, none⟩)]] 46 #[.string s] (.int .i64 a) := by
  refine ⟨_, fun w h => many_any R w h, fun w => ?_⟩
  rw [ht]; exact refMany_any s w (by omega)
theorem place_same (R : Rp) (s : ByteArray) (f way : Int) (hs : s.size ≤ 65536) (ht : R.text = s.data.toList) :
    ∃ a b e : Int, Same R 25 #[.agg #[.pointer (some ⟨R.rb, 0, none⟩)], .int .i64 f, .int .i64 way] 40 #[.string s, .int .i64 f, .int .i64 way] (.tuple #[.int .i64 a, .int .i64 b, .int .i64 e]) := by
  have hz := size_text ht
  cases hw : wayB way with
  | false => exact ⟨_, _, _, fun w h => place_way _ f way w hw, fun w => refPlace_way s f way w hw⟩
  | true =>
    cases hn : risesB f f s.size with
    | true =>
      refine ⟨_, _, _, fun w h => place_yes R f way w h hw (by rw [hz]; exact hn), fun w => ?_⟩
      rw [ht]; exact refPlace_yes s f way w hs hw hn
    | false => exact ⟨_, _, _, fun w h => place_no R f way w h hw (by rw [hz]; exact hn), fun w => refPlace_no s f way w hw hn⟩
theorem offset_same (R : Rp) (s : ByteArray) (line col way : Int) (hs : s.size ≤ 65536) (ht : R.text = s.data.toList) (hc : IsInt col) :
    ∃ a e : Int, Same R 95 #[.agg #[.pointer (some ⟨R.rb, 0, none⟩)], .int .i64 line, .int .i64 col, .int .i64 way] 45 #[.string s, .int .i64 line, .int .i64 col, .int .i64 way] (.tuple #[.int .i64 a, .int .i64 e]) := by
  cases hw : wayB way with
  | false => exact ⟨_, _, fun w h => offset_way _ line col way w hw, fun w => refOffset_way s line col way w hw⟩
  | true =>
    cases hn : hasB s.data.toList line with
    | false => exact ⟨_, _, fun w h => offset_no R line col way w h hw (by rw [ht]; exact hn), fun w => refOffset_no s line col way w hs hw hn⟩
    | true =>
      obtain ⟨line, rfl⟩ := Int.eq_ofNat_of_zero_le (has_out hn).1
      by_cases h0 : col < 0
      · exact ⟨_, _, fun w h => offset_neg R line col way w h hw (by rw [ht]; exact hn) h0, fun w => refOffset_neg s line col way w hs hw hn h0⟩
      · obtain ⟨c, rfl⟩ := Int.eq_ofNat_of_zero_le (show 0 ≤ col by omega)
        refine ⟨_, _, fun w h => offset_yes R line c way w h hw (by rw [ht]; exact hn), fun w => ?_⟩
        rw [ht]; exact refOffset_yes s line c way w hs hw hn hc

end Go.Proofs.Ytmecdhbiinpepaa

/- An offset that is where a character begins is found again by its line and column: the walk. Conditions: none. -/
namespace Go.Gim

theorem upto_ge (way : Int) (l : List UInt8) (f n : Nat) (hf : f ≤ l.length) (h : byW way (l.take f) ≤ n) : f ≤ upto way l n := by
  have e := upto_append_ge way (l.take f) (l.drop f) n h
  rw [List.take_append_drop, List.length_take] at e
  omega
theorem upto_zero (way : Int) (l : List UInt8) (h : ∀ c r, l = c :: r → 0 < byW way [c]) : upto way l 0 = 0 := by
  cases l with
  | nil => rfl
  | cons c r => simp only [upto]; rw [if_pos (h c r rfl)]
theorem upto_eq (way : Int) (l : List UInt8) (f : Nat) (hf : f ≤ l.length) (h : ∀ c r, l.drop f = c :: r → 0 < byW way [c]) : upto way l (byW way (l.take f)) = f := by
  have e := upto_append_ge way (l.take f) (l.drop f) _ (Nat.le_refl _)
  rw [List.take_append_drop, List.length_take, Nat.sub_self, upto_zero way _ h] at e
  omega
theorem byW_seg (way : Int) (l : List UInt8) (a f : Nat) (h : a ≤ f) : byW way (l.take f) = byW way (l.take a) + byW way ((l.take f).drop a) := by
  have e := (List.take_append_drop a (l.take f)).symm
  rw [List.take_take, Nat.min_eq_left h] at e
  exact (congrArg (byW way) e).trans (byW_append way _ _)
theorem seg_len (l : List UInt8) (a f : Nat) (hf : f ≤ l.length) : ((l.take f).drop a).length = f - a := by
  rw [List.length_drop, List.length_take, Nat.min_eq_left hf]
theorem run_unt (l : List UInt8) : run l ≤ unt l := by simp only [unt]; omega
theorem big_run (l : List UInt8) : big l ≤ run l := by
  unfold big run
  refine List.countP_mono_left ?_
  intro c _ h
  have h := of_decide_eq_true h
  have : (191 : UInt8) < c := UInt8.lt_of_lt_of_le (by decide) h
  simp [this]
theorem byW_one (way : Int) (c : UInt8) (h0 : 0 ≤ way) (h2 : way ≤ 2) (h : ¬ (128 ≤ c ∧ c < 192)) : 0 < byW way [c] := by
  have hr : run [c] = 1 := by
    have : (c < 128 || 191 < c) = true := by
      simp only [Bool.or_eq_true, decide_eq_true_eq, UInt8.lt_iff_toNat_lt, UInt8.le_iff_toNat_le] at h ⊢
      have e1 : (128 : UInt8).toNat = 128 := rfl
      have e2 : (192 : UInt8).toNat = 192 := rfl
      have e3 : (191 : UInt8).toNat = 191 := rfl
      omega
    simp only [run, List.countP_cons, List.countP_nil, this]; rfl
  have hu := run_unt [c]
  have hb : byt [c] = 1 := rfl
  unfold byW
  repeat' split
  all_goals omega
/-- An offset's column and line lead back to it, where a character begins. -/
theorem offN_back (way : Int) (l : List UInt8) (f : Nat) (hf : f ≤ l.length) (h : ∀ c r, l.drop f = c :: r → 0 < byW way [c]) :
    offN l (brk (l.take f)) (byW way (l.take f) - byW way (l.take (lineN l (brk (l.take f))))) way = f := by
  have h1 := lineN_le l f
  have h2 : f ≤ lineE l (brk (l.take f)) := upto_ge 3 l f _ hf (Nat.le_of_eq (byW3 _))
  unfold offN
  generalize lineN l (brk (l.take f)) = a at *
  generalize brk (l.take f) = j at *
  have e := byW_seg way l a f h1
  have g := byW_le way ((l.take f).drop a)
  rw [seg_len l a f hf] at g
  have u := upto_eq way l f hf h
  have hp := byW_seg way l a f h1
  rw [show byW way (l.take a) + (byW way (l.take f) - byW way (l.take a)) = byW way (l.take f) from by omega, u]
  split
  · omega
  · exact Nat.min_eq_right h2
/-- Columns by the three ways. -/
theorem cols_three (l : List UInt8) (a f : Nat) (h : a ≤ f) (hf : f ≤ l.length) :
    byW 0 (l.take f) = byW 0 (l.take a) + (f - a) ∧ ∃ r u, byW 1 (l.take f) = byW 1 (l.take a) + r ∧ byW 2 (l.take f) = byW 2 (l.take a) + u ∧ r ≤ f - a ∧ r ≤ u ∧ u ≤ 2 * (f - a) := by
  have g := seg_len l a f hf
  refine ⟨?_, run ((l.take f).drop a), unt ((l.take f).drop a), byW_seg 1 l a f h, byW_seg 2 l a f h, ?_, run_unt _, ?_⟩
  · rw [byW_seg 0 l a f h, ← g]; rfl
  · have := run_le ((l.take f).drop a); omega
  · have := unt_le ((l.take f).drop a); omega
end Go.Gim

namespace Go.Proofs.Ytmecdhbiinpepaa
open Go.RowKit Go.Gim

theorem has_at (l : List UInt8) (f : Nat) : hasB l (brk (l.take f) : Nat) = true := by
  have e := brk_append (l.take f) (l.drop f)
  rw [List.take_append_drop] at e
  exact has_of ⟨by omega, by omega⟩
theorem text_len {R : Rp} {s : ByteArray} (ht : R.text = s.data.toList) : R.text.length = s.size := by
  rw [ht, toList_length]

theorem place_back (R : Rp) (s : ByteArray) (f way : Nat) (hw : way < 3) (ht : R.text = s.data.toList) (hf : f ≤ s.size) (hc : ∀ h : f < s.size, ¬ (128 ≤ s[f] ∧ s[f] < 192)) :
    ∃ j c : Nat,
      Hid (∀ v, RopeAt v R → Calls Try.prog 25 #[.agg #[.pointer (some ⟨R.rb, 0, none⟩)], .int .i64 f, .int .i64 way] v fun e w' => e = .returned (.tuple #[.int .i64 j, .int .i64 c, .int .i64 0]) ∧ Ext v w') ∧
      Hid (∀ v, RopeAt v R → Calls Try.prog 95 #[.agg #[.pointer (some ⟨R.rb, 0, none⟩)], .int .i64 j, .int .i64 c, .int .i64 way] v fun e w' => e = .returned (.tuple #[.int .i64 f, .int .i64 0]) ∧ Ext v w') := by
  have hl := text_len ht
  have hz := size_text ht
  have ha := lineN_le R.text f
  have hq := byW_seg way R.text _ f ha
  have hris : risesB (f : Nat) (f : Nat) R.t.size = true := rises_of ⟨by omega, by omega, by omega⟩
  have hway : wayB (way : Nat) = true := by unfold wayB; exact decide_eq_true ⟨by omega, by omega⟩
  have hb := offN_back way R.text f (by omega) (by
    intro c r hd
    refine byW_one way c (by omega) (by omega) ?_
    have hlt : f < R.text.length := by
      rcases Nat.lt_or_ge f R.text.length with h | h
      · exact h
      · rw [List.drop_eq_nil_of_le h] at hd; cases hd
    have hc' := hc (by omega)
    have e : R.text[f] = c := by
      rw [List.drop_eq_getElem_cons hlt] at hd
      exact (List.cons.inj hd).1
    have e2 : R.text[f] = s[f]'(by omega) := by
      rw [← toList_get s f (by omega)]
      exact List.getElem_of_eq ht hlt
    rw [← e, e2]; exact hc')
  refine ⟨brk (R.text.take f), byW way (R.text.take f) - byW way (R.text.take (lineN R.text (brk (R.text.take f)))), Lib.hid fun v hv => ?_, Lib.hid fun v hv => ?_⟩
  · have h := place_yes R f way v hv hway hris
    unfold PlacePost at h
    rw [Int.toNat_natCast, ← Int.ofNat_sub (by omega)] at h
    exact h
  · have h := offset_yes R (brk (R.text.take f)) (byW way (R.text.take f) - byW way (R.text.take (lineN R.text (brk (R.text.take f))))) way v hv hway (has_at _ _)
    unfold OffsetPost at h
    rw [hb] at h
    exact h

end Go.Proofs.Ytmecdhbiinpepaa

/- Where a caret goes in a list of bytes: plain definitions and facts. Conditions: none. -/
namespace Go.Gim

/-- Is a byte one of a word? -/
def wordB (c : UInt8) : Bool := decide (97 ≤ c.toNat ∧ c.toNat ≤ 122 ∨ 65 ≤ c.toNat ∧ c.toNat ≤ 90 ∨ 48 ≤ c.toNat ∧ c.toNat ≤ 57 ∨ c.toNat = 95 ∨ 128 ≤ c.toNat)
def noWordB (c : UInt8) : Bool := !wordB c
/-- How many bytes at the beginning are so. -/
def skip (p : UInt8 → Bool) (l : List UInt8) : Nat := (l.takeWhile p).length
/-- Where bytes that are so end, from a place on. -/
def fwdN (p : UInt8 → Bool) (l : List UInt8) (a : Nat) : Nat := a + skip p (l.drop a)
/-- Where bytes that are so begin, from a place back: the byte ahead of the place is looked at. -/
def backN (p : UInt8 → Bool) (l : List UInt8) : Nat → Nat
  | 0 => 0
  | k + 1 => if p (l.getD k 0) then backN p l k else k + 1
/-- Likewise, the byte at the place is looked at. -/
def downN (p : UInt8 → Bool) (l : List UInt8) : Nat → Nat
  | 0 => 0
  | k + 1 => if p (l.getD (k + 1) 0) then downN p l k else k + 1
def leftN (l : List UInt8) (a : Nat) : Nat := if a = 0 then 0 else downN inB l (a - 1)
def rightN (l : List UInt8) (a : Nat) : Nat := if a < l.length then fwdN inB l (a + 1) else a
def wordLN (l : List UInt8) (a : Nat) : Nat := backN wordB l (backN noWordB l a)
def wordRN (l : List UInt8) (a : Nat) : Nat := fwdN wordB l (fwdN noWordB l a)
/-- The line and the column of a place. -/
def lnN (l : List UInt8) (a : Nat) : Nat := brk (l.take a)
def colN (l : List UInt8) (a : Nat) : Nat := byW 1 (l.take a) - byW 1 (l.take (lineN l (lnN l a)))
def upN (l : List UInt8) (a : Nat) : Nat := if lnN l a = 0 then 0 else offN l (lnN l a - 1) (colN l a) 1
def belowN (l : List UInt8) (a : Nat) : Nat := if lnN l a + 1 ≤ brk l then offN l (lnN l a + 1) (colN l a) 1 else l.length
/-- Where a way leads from a place. -/
def stepN (l : List UInt8) (a : Nat) (way : Int) : Nat :=
  if way = 1 then leftN l a else if way = 2 then rightN l a else if way = 3 then lineN l (lnN l a) else if way = 4 then lineE l (lnN l a)
  else if way = 5 then upN l a else if way = 6 then belowN l a else if way = 7 then 0 else if way = 8 then l.length else if way = 9 then wordLN l a else wordRN l a

theorem skip_le (p : UInt8 → Bool) (l : List UInt8) : skip p l ≤ l.length := (List.takeWhile_prefix _).length_le
theorem fwdN_in (p : UInt8 → Bool) (l : List UInt8) (a : Nat) (h : a < l.length) (hp : p l[a] = true) : fwdN p l a = fwdN p l (a + 1) := by
  unfold fwdN skip
  rw [List.drop_eq_getElem_cons h, List.takeWhile_cons, if_pos hp, List.length_cons]; omega
theorem fwdN_stop (p : UInt8 → Bool) (l : List UInt8) (a : Nat) (h : a < l.length) (hp : p l[a] = false) : fwdN p l a = a := by
  unfold fwdN skip
  rw [List.drop_eq_getElem_cons h, List.takeWhile_cons, if_neg (by simp [hp])]; simp
theorem fwdN_over (p : UInt8 → Bool) (l : List UInt8) (a : Nat) (h : l.length ≤ a) : fwdN p l a = a := by
  unfold fwdN skip
  rw [List.drop_of_length_le h]; simp
theorem fwdN_ge (p : UInt8 → Bool) (l : List UInt8) (a : Nat) : a ≤ fwdN p l a := by unfold fwdN; omega
theorem fwdN_le (p : UInt8 → Bool) (l : List UInt8) (a : Nat) (h : a ≤ l.length) : fwdN p l a ≤ l.length := by
  have := skip_le p (l.drop a)
  rw [List.length_drop] at this
  unfold fwdN; omega
theorem backN_pos (p : UInt8 → Bool) (l : List UInt8) (k : Nat) (h : k < l.length) : backN p l (k + 1) = if p l[k] then backN p l k else k + 1 := by
  simp [backN, List.getD, h]
theorem backN_le (p : UInt8 → Bool) (l : List UInt8) : ∀ a, backN p l a ≤ a
  | 0 => Nat.le_refl _
  | k + 1 => by
    unfold backN
    split
    · have := backN_le p l k; omega
    · exact Nat.le_refl _
theorem downN_pos (p : UInt8 → Bool) (l : List UInt8) (j : Nat) (h0 : 0 < j) (h : j < l.length) : downN p l j = if p l[j] then downN p l (j - 1) else j := by
  obtain ⟨k, rfl⟩ : ∃ k, j = k + 1 := ⟨j - 1, by omega⟩
  simp [downN, List.getD, h]
theorem downN_le (p : UInt8 → Bool) (l : List UInt8) : ∀ a, downN p l a ≤ a
  | 0 => Nat.le_refl _
  | k + 1 => by
    unfold downN
    split
    · have := downN_le p l k; omega
    · exact Nat.le_refl _
theorem leftN_le (l : List UInt8) (a : Nat) : leftN l a ≤ a - 1 := by
  unfold leftN
  split
  · omega
  · have := downN_le inB l (a - 1); omega
theorem rightN_le (l : List UInt8) (a : Nat) (h : a ≤ l.length) : rightN l a ≤ l.length := by
  unfold rightN
  split
  · exact fwdN_le _ _ _ (by omega)
  · exact h
theorem offN_le (l : List UInt8) (line col : Nat) (way : Int) : offN l line col way ≤ l.length := by
  have h := lineE_le l line
  unfold offN
  split
  · exact h
  · exact Nat.le_trans (Nat.min_le_left _ _) h
theorem lnN_le (l : List UInt8) (a : Nat) : lnN l a ≤ brk l := by
  have e := brk_append (l.take a) (l.drop a)
  rw [List.take_append_drop] at e
  unfold lnN; omega
theorem stepN_le (l : List UInt8) (a : Nat) (way : Int) (h : a ≤ l.length) : stepN l a way ≤ l.length := by
  have h1 := leftN_le l a
  have h2 := rightN_le l a h
  have h3 := lineN_le l a
  have h4 := lineE_le l (lnN l a)
  have h5 := backN_le noWordB l a
  have h6 := backN_le wordB l (backN noWordB l a)
  have h7 := fwdN_le wordB l _ (fwdN_le noWordB l a h)
  have h8 : upN l a ≤ l.length := by
    unfold upN
    split
    · omega
    · exact offN_le ..
  have h9 : belowN l a ≤ l.length := by
    unfold belowN
    split
    · exact offN_le ..
    · exact Nat.le_refl _
  have h3' : lineN l (lnN l a) ≤ a := h3
  unfold stepN wordLN wordRN
  repeat' split
  all_goals omega
end Go.Gim

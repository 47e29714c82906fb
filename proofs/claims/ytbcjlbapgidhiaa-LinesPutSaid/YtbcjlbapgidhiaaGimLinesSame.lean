/- Package lines and its reference answer the same, of any text: each call in one step. Conditions: a text of at most 65536 bytes. -/
import Derived.Test.YtbcjlbapgidhiaaGimLaw4
namespace Go.Proofs.Ytbcjlbapgidhiaa
open Go.RowKit Go.Gim

/-- Two calls that answer one value, wherever the rope lies. -/
def Same (R : Rp) (f : FuncId) (args : Array Value) (g : FuncId) (brgs : Array Value) (v : Value) : Prop :=
  (∀ w, RopeAt w R → Calls Try.prog f args w fun e w' => e = .returned v ∧ Ext w w') ∧ (∀ w, Calls Try.prog g brgs w fun e w' => e = .returned v ∧ Ext w w')

theorem start_same (R : Rp) (s : ByteArray) (line : Int) (hs : s.size ≤ 65536) (ht : R.text = s.data.toList) :
    ∃ a e : Int, Same R 43 #[.agg #[.pointer (some ⟨R.rb, 0, none⟩)], .int .i64 line] 44 #[.string s, .int .i64 line] (.tuple #[.int .i64 a, .int .i64 e]) := by
  cases hn : hasB s.data.toList line with
  | true =>
    obtain ⟨line, rfl⟩ := Int.eq_ofNat_of_zero_le (has_out hn).1
    refine ⟨_, _, fun w h => start_yes R line w h (by rw [ht]; exact hn), fun w => ?_⟩
    rw [ht]; exact refStart_yes s line w (by omega) hn
  | false => exact ⟨_, _, fun w h => start_no R line w h (by rw [ht]; exact hn), fun w => refStart_no s line w (by omega) hn⟩
theorem end_same (R : Rp) (s : ByteArray) (line : Int) (hs : s.size ≤ 65536) (ht : R.text = s.data.toList) :
    ∃ a e : Int, Same R 45 #[.agg #[.pointer (some ⟨R.rb, 0, none⟩)], .int .i64 line] 46 #[.string s, .int .i64 line] (.tuple #[.int .i64 a, .int .i64 e]) := by
  cases hn : hasB s.data.toList line with
  | true =>
    obtain ⟨line, rfl⟩ := Int.eq_ofNat_of_zero_le (has_out hn).1
    refine ⟨_, _, fun w h => end_yes R line w h (by rw [ht]; exact hn), fun w => ?_⟩
    rw [ht]; exact refEnd_yes s line w (by omega) hn
  | false => exact ⟨_, _, fun w h => end_no R line w h (by rw [ht]; exact hn), fun w => refEnd_no s line w (by omega) hn⟩
theorem indent_same (R : Rp) (s : ByteArray) (line : Int) (hs : s.size ≤ 65536) (ht : R.text = s.data.toList) :
    ∃ (a : ByteArray) (e : Int), Same R 47 #[.agg #[.pointer (some ⟨R.rb, 0, none⟩)], .int .i64 line] 48 #[.string s, .int .i64 line] (.tuple #[.string a, .int .i64 e]) := by
  cases hn : hasB s.data.toList line with
  | true =>
    obtain ⟨line, rfl⟩ := Int.eq_ofNat_of_zero_le (has_out hn).1
    refine ⟨_, _, fun w h => indent_yes R line w h (by rw [ht]; exact hn), fun w => ?_⟩
    rw [ht]; exact refIndent_yes s line w hs hn
  | false => exact ⟨_, _, fun w h => indent_no R line w h (by rw [ht]; exact hn), fun w => refIndent_no s line w hs hn⟩
theorem size_text {R : Rp} {s : ByteArray} (ht : R.text = s.data.toList) : R.t.size = s.size := by
  rw [T.size, show R.t.text = s.data.toList from ht]; rfl
theorem at_same (R : Rp) (s : ByteArray) (f : Int) (hs : s.size ≤ 65536) (ht : R.text = s.data.toList) :
    ∃ a e : Int, Same R 49 #[.agg #[.pointer (some ⟨R.rb, 0, none⟩)], .int .i64 f] 50 #[.string s, .int .i64 f] (.tuple #[.int .i64 a, .int .i64 e]) := by
  have hz := size_text ht
  cases hn : risesB f f s.size with
  | true =>
    refine ⟨_, _, fun w h => at_yes R f w h (by rw [hz]; exact hn), fun w => ?_⟩
    rw [ht]; exact refAt_yes s f w hs hn
  | false => exact ⟨_, _, fun w h => at_no R f w h (by rw [hz]; exact hn), fun w => refAt_no s f w hn⟩
theorem many_same (R : Rp) (s : ByteArray) (hs : s.size ≤ 65536) (ht : R.text = s.data.toList) :
    ∃ a : Int, Same R 51 #[.agg #[.pointer (some ⟨R.rb, 0, none⟩)]] 52 #[.string s] (.int .i64 a) := by
  refine ⟨_, fun w h => many_any R w h, fun w => ?_⟩
  rw [ht]; exact refMany_any s w (by omega)
theorem place_same (R : Rp) (s : ByteArray) (f way : Int) (hs : s.size ≤ 65536) (ht : R.text = s.data.toList) :
    ∃ a b e : Int, Same R 54 #[.agg #[.pointer (some ⟨R.rb, 0, none⟩)], .int .i64 f, .int .i64 way] 55 #[.string s, .int .i64 f, .int .i64 way] (.tuple #[.int .i64 a, .int .i64 b, .int .i64 e]) := by
  have hz := size_text ht
  cases hw : wayB way with
  | false => exact ⟨_, _, _, fun w h => place_way _ f way w hw, fun w => refPlace_way s f way w hw⟩
  | true =>
    cases hn : risesB f f s.size with
    | true =>
      refine ⟨_, _, _, fun w h => place_yes R f way w h hw (by rw [hz]; exact hn), fun w => ?_⟩
      rw [ht]; exact refPlace_yes s f way w hs hw hn
    | false => exact ⟨_, _, _, fun w h => place_no R f way w h hw (by rw [hz]; exact hn), fun w => refPlace_no s f way w hw hn⟩
theorem offset_same (R : Rp) (s : ByteArray) (line col way : Int) (hs : s.size ≤ 65536) (ht : R.text = s.data.toList) (hc : IsInt col) :
    ∃ a e : Int, Same R 56 #[.agg #[.pointer (some ⟨R.rb, 0, none⟩)], .int .i64 line, .int .i64 col, .int .i64 way] 57 #[.string s, .int .i64 line, .int .i64 col, .int .i64 way] (.tuple #[.int .i64 a, .int .i64 e]) := by
  cases hw : wayB way with
  | false => exact ⟨_, _, fun w h => offset_way _ line col way w hw, fun w => refOffset_way s line col way w hw⟩
  | true =>
    cases hn : hasB s.data.toList line with
    | false => exact ⟨_, _, fun w h => offset_no R line col way w h hw (by rw [ht]; exact hn), fun w => refOffset_no s line col way w hs hw hn⟩
    | true =>
      obtain ⟨line, rfl⟩ := Int.eq_ofNat_of_zero_le (has_out hn).1
      by_cases h0 : col < 0
      · exact ⟨_, _, fun w h => offset_neg R line col way w h hw (by rw [ht]; exact hn) h0, fun w => refOffset_neg s line col way w hs hw hn h0⟩
      · obtain ⟨c, rfl⟩ := Int.eq_ofNat_of_zero_le (show 0 ≤ col by omega)
        refine ⟨_, _, fun w h => offset_yes R line c way w h hw (by rw [ht]; exact hn), fun w => ?_⟩
        rw [ht]; exact refOffset_yes s line c way w hs hw hn hc

end Go.Proofs.Ytbcjlbapgidhiaa

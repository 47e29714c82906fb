/- The small functions of gimletlaw4: of, awake. Conditions: none. -/
import Derived.Test.YtmecdhbiinpepaaDoorGimRef5
namespace Go.Proofs.YtmecdhbiinpepaaDoor
open Go.RowKit Go.Gim

theorem linesSize : (Tryd.prog.info? 29).map (·.size) = some 1 := by kernel_rfl
/-- Lines of a text: a rope of it, all new. -/
def OfPost (s : List UInt8) (w : World) (e : Ending) (w' : World) : Prop := ∃ R : Rp, e = .returned (.tuple #[.agg #[.pointer (some ⟨R.rb, 0, none⟩)], .bool true]) ∧ RopeAt w' R ∧ R.text = s ∧ Ext w w' ∧ R.New w ∧ ∀ k, R.D.sv.ownBlock = some k → w.heap.size ≤ k

end Go.Proofs.YtmecdhbiinpepaaDoor

/- Package lines and its reference answer the same, of any text: each call in one step. Conditions: a text of at most 65536 bytes. -/
namespace Go.Proofs.YtmecdhbiinpepaaDoor
open Go.RowKit Go.Gim

/-- Two calls that answer one value, wherever the rope lies. -/
def Same (R : Rp) (f : FuncId) (args : Array Value) (g : FuncId) (brgs : Array Value) (v : Value) : Prop :=
  (∀ w, RopeAt w R → Calls Tryd.prog f args w fun e w' => e = .returned v ∧ Ext w w') ∧ (∀ w, Calls Tryd.prog g brgs w fun e w' => e = .returned v ∧ Ext w w')

theorem start_same (R : Rp) (s : ByteArray) (line : Int) (hs : s.size ≤ 65536) (ht : R.text = s.data.toList) :
    ∃ a e : Int, Same R 19 #[.agg #[.pointer (some ⟨R.rb, 0, none⟩)], .int .i64 line] 41 #[.string s, .int .i64 line] (.tuple #[.int .i64 a, .int .i64 e]) := by
  cases hn : hasB s.data.toList line with
  | true =>
    obtain ⟨line, rfl⟩ := Int.eq_ofNat_of_zero_le (has_out hn).1
    refine ⟨_, _, fun w h => start_yes R line w h (by rw [ht]; exact hn), fun w => ?_⟩
    rw [ht]; exact refStart_yes s line w (by omega) hn
  | false => exact ⟨_, _, fun w h => start_no R line w h (by rw [ht]; exact hn), fun w => refStart_no s line w (by omega) hn⟩
theorem end_same (R : Rp) (s : ByteArray) (line : Int) (hs : s.size ≤ 65536) (ht : R.text = s.data.toList) :
    ∃ a e : Int, Same R 20 #[.agg #[.pointer (some ⟨R.rb, 0, none⟩)], .int .i64 line] 42 #[.string s, .int .i64 line] (.tuple #[.int .i64 a, .int .i64 e]) := by
  cases hn : hasB s.data.toList line with
  | true =>
    obtain ⟨line, rfl⟩ := Int.eq_ofNat_of_zero_le (has_out hn).1
    refine ⟨_, _, fun w h => end_yes R line w h (by rw [ht]; exact hn), fun w => ?_⟩
    rw [ht]; exact refEnd_yes s line w (by omega) hn
  | false => exact ⟨_, _, fun w h => end_no R line w h (by rw [ht]; exact hn), fun w => refEnd_no s line w (by omega) hn⟩
theorem size_text {R : Rp} {s : ByteArray} (ht : R.text = s.data.toList) : R.t.size = s.size := by
  rw [T.size, show R.t.text = s.data.toList from ht]; rfl
theorem at_same (R : Rp) (s : ByteArray) (f : Int) (hs : s.size ≤ 65536) (ht : R.text = s.data.toList) :
    ∃ a e : Int, Same R 18 #[.agg #[.pointer (some ⟨R.rb, 0, none⟩)], .int .i64 f] 40 #[.string s, .int .i64 f] (.tuple #[.int .i64 a, .int .i64 e]) := by
  have hz := size_text ht
  cases hn : risesB f f s.size with
  | true =>
    refine ⟨_, _, fun w h => at_yes R f w h (by rw [hz]; exact hn), fun w => ?_⟩
    rw [ht]; exact refAt_yes s f w hs hn
  | false => exact ⟨_, _, fun w h => at_no R f w h (by rw [hz]; exact hn), fun w => refAt_no s f w hn⟩
end Go.Proofs.YtmecdhbiinpepaaDoor

/- A region that draws its order: what only reads comes first, in one walk of the text's order; what stands at its end in a forced order is walked as ever. Conditions: none. -/
import Derived.Test.YtffplppglicibaaGimBase
import Derived.StillTailTactics
namespace Go.Gim
open Go.RowKit

theorem Oper.still_of_quiet {P : Program} {o : Oper} {a : Act} {w : World} {K K' : Act → Prop} (hK : ∀ a, K a → K' a) (h : o.quiet P a (fun w' => ∃ _ : Unit, w' = w) K) : o.still P a w K' := by
  obtain ⟨v, h1, h2⟩ := h
  have h3 := h1 w ⟨(), rfl⟩
  unfold Oper.quietAt at h3
  unfold Oper.still
  generalize (execOp a.eval o).run P w = r at *
  cases r with
  | ok n w' =>
    cases n <;> simp only [Oper.quietUpon] at h3 <;> simp only [Oper.stillUpon]
    case value u => exact ⟨h3.1, by rw [h3.2]; exact hK _ h2⟩
    case skip => exact ⟨h3.1, by rw [← h3.2]; exact hK _ h2⟩
    case enter f args => exact ⟨h3.1, v, h3.2.mono fun e w'' ⟨he, _, hw⟩ => ⟨he, hw⟩, hK _ h2⟩
  | halt x w' => simp only [Oper.quietUpon] at h3

theorem wpStill_of_quiet {P : Program} {ops : Array Oper} {w : World} {Q : Act → Prop} : ∀ (l : List Oper) (a : Act), wpQuiet P ops (fun w' => ∃ _ : Unit, w' = w) Q l a → wpStill P ops w Q l a
  | [], a, h => h
  | o :: rest, a, h => by
    unfold wpQuiet at h
    unfold wpStill
    split
    · rename_i hw; rw [if_pos hw] at h; exact Oper.still_of_quiet (fun a' h' => wpStill_of_quiet rest a' h') h
    · rename_i hw; rw [if_neg hw] at h; exact wpStill_of_quiet rest _ h

/-- The first n operations only read (their callees leave the world as it is); those behind them come in the text's order. -/
theorem wp_region_quiet_tail {P : Program} {id : Nat} {Q : Exit → Act → World → Prop} {a : Act} {w : World} {l : List Oper} (n : Nat) (hm : P.follows .mixedOrders = true) (hB : Region.lexTailB .any l.toArray n = true)
    (h : wpQuiet P l.toArray (fun w' => ∃ _ : Unit, w' = w.drew) (fun a' => wpList P l.toArray Q (l.drop n) a' w.drew) (l.take n) a) : (Code.region id l.toArray true).wp P Q a w :=
  wp_region_still_tail n hm hB (wpStill_of_quiet _ _ h)

theorem Calls.still_of {P : Program} {f : FuncId} {args : Array Value} {w : World} {v : Value}
    (h : Calls P f args w fun e w' => e = .returned v ∧ w' = w) : Calls P f args w fun e w'' => e = .returned v ∧ ∃ _ : Unit, w'' = w :=
  h.mono fun _ _ ⟨he, hm⟩ => ⟨he, (), hm⟩

end Go.Gim

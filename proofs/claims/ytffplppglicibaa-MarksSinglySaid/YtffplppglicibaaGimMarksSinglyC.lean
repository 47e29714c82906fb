/- Ranges without parents go by edits that are apart where they go by each of these alone, from the last one to the first: any arguments. Conditions: none. -/
import Derived.Test.YtffplppglicibaaGimMarksSingly
import Derived.Test.YtffplppglicibaaGimLaw
namespace Go.Proofs.Ytffplppglicibaa
open Go.RowKit Go.Gim

set_option maxHeartbeats 800000 in
set_option maxRecDepth 1000000 in
theorem marksSingly_calls (w : World) (a0 : Option Addr) (c0 : Nat) (ns : List (Int × Int)) (h0 : Reads w 2 a0 ns.length (prCells ns)) (m0 : ns.length ≤ maxLen) (f0 : ∀ x ∈ ns, i64w x.1 ∧ i64w x.2)
    (a1 : Option Addr) (c1 : Nat) (ps : List Bool) (h1 : Reads w 1 a1 ps.length (ps.map Value.bool)) (m1 : ps.length ≤ maxLen)
    (a2 : Option Addr) (c2 : Nat) (gs : List Int) (h2 : Reads w 1 a2 gs.length (gs.map (Value.int .i64))) (m2 : gs.length ≤ maxLen) (f2 : ∀ n ∈ gs, (Lit.int .i64 n).wf = true)
    (a3 : Option Addr) (c3 : Nat) (ts : List ByteArray) (h3 : Reads w 1 a3 ts.length (ts.map Value.string)) (m3 : ts.length ≤ maxLen) (f3 : ∀ s ∈ ts, s.size ≤ maxLen) :
    Calls Try.prog 4 #[.slice a0 ns.length c0, .slice a1 ps.length c1, .slice a2 gs.length c2, .slice a3 ts.length c3] w fun e w' => e = .returned (.bool true) ∧ Ext w w' := by
  unfold maxLen at m0 m1 m2 m3
  clear f0 f2 f3
  by_cases n0 : ns.length ≤ 20
  · have i1 : ¬ (20 : Int) < (ns.length : Int) := by omega
    by_cases n2 : gs.length ≤ 10
    · have i2 : ¬ (10 : Int) < (gs.length : Int) := by omega
      cases hlo : longB 200 ts with
      | false => exact marksSingly_any w a0 c0 ns h0 n0 a1 c1 ps h1 m1 a2 c2 gs h2 n2 a3 c3 ts h3 m3 hlo
      | true =>
        have HL := long_any 200 a3 c3 ts w h3 m3 (by omega) (by omega)
        rw [hlo] at HL
        clear h0 h1 h2 h3 hlo
        go_enter Try.func4, Try.ntmps4
        go_wp2_with fail
        refine HL.mono ?_
        rintro e w0 ⟨rfl, rfl⟩
        go_wp2_with fail
        refine (awake7_any _).mono ?_
        rintro e w1 ⟨rfl, hx⟩
        go_wp2_with fail
        go_ret
        exact ⟨rfl, hx⟩
    · have i2 : (10 : Int) < (gs.length : Int) := by omega
      clear h0 h1 h2 h3
      go_enter Try.func4, Try.ntmps4
      go_wp2_with fail
      refine (awake7_any _).mono ?_
      rintro e w1 ⟨rfl, hx⟩
      go_wp2_with fail
      go_ret
      exact ⟨rfl, hx⟩
  · have i1 : (20 : Int) < (ns.length : Int) := by omega
    clear h0 h1 h2 h3
    go_enter Try.func4, Try.ntmps4
    go_wp2_with fail
    refine (awake7_any _).mono ?_
    rintro e w1 ⟨rfl, hx⟩
    go_wp2_with fail
    go_ret
    exact ⟨rfl, hx⟩
end Go.Proofs.Ytffplppglicibaa

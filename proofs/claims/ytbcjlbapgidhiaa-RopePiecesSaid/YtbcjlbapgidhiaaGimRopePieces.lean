/- Behind each deed its pieces are its text, of their sizes, and a treap by their Prios: the walk. Conditions: none. -/
import Derived.Test.YtbcjlbapgidhiaaGimDoes2
namespace Go.Proofs.Ytbcjlbapgidhiaa
open Go.RowKit Go.Gim

set_option maxHeartbeats 3200000 in
set_option maxRecDepth 1000000 in
theorem ropePieces_any (w : World) (a0 : Option Addr) (c0 : Nat) (ns : List Int) (m0 : Reads w 1 a0 ns.length (ns.map (Value.int .u32))) (z0 : ∀ n ∈ ns, n ≤ 4294967295) (s0 : ByteArray) (a2 : Option Addr) (c2 : Nat) (L : List Dd) (m2 : Reads w 4 a2 L.length (ddCells L))
    (h1 : ns.length ≤ 40) (h2 : s0.size ≤ 300) (h3 : muchB 16 500 L = false) :
    Calls Try.prog 13 #[.slice a0 ns.length c0, .string s0, .slice a2 L.length c2] w fun e w' => e = .returned (.bool true) ∧ Ext w w' := by
  have i1 : ¬ (40 : Int) < (ns.length : Int) := by omega
  have i2 : ¬ (300 : Int) < (s0.size : Int) := by omega
  have hmu := much_any 16 500 a2 c2 L w m2 (by omega) (by omega) (by omega) (by omega)
  rw [h3] at hmu
  obtain ⟨hl, hsum⟩ := muchB_no h3 (by omega)
  have M0 := Lib.hid m0
  have M2 := Lib.hid m2
  have Z0 := Lib.hid z0
  clear h3 m0 m2 z0
  go_enter Try.func13, Try.ntmps13
  go_wp2_with fail
  refine hmu.mono ?_
  rintro e w1 ⟨rfl, rfl⟩
  go_wp2_with fail
  refine (dice_new _ a0 c0 ns (by omega) Z0.out M0.out).mono ?_
  rintro e u1 ⟨D, rfl, hD⟩
  go_wp2_with fail
  refine (rope_one D s0 _ hD.dice (by omega)).mono ?_
  rintro e u2 ⟨R0, rfl, hF⟩
  have HH0 := Lib.hid (Held.start hD.ext hD.d hF rfl)
  clear hF hmu
  go_wp2_with fail
  go_loopw [8, 10, 11] (fun r s i wr => ∃ (k : Nat) (R : Rp) (z : ByteArray), k ≤ L.length ∧ i = .int .i64 k ∧ r = .pointer (some ⟨R.rb, 0, none⟩) ∧ s = .string z ∧ Hid (Held w1 D R z wr ∧ z.size ≤ s0.size + 2 * sumS (L.take k))) (fun _ _ i _ => L.length - (intOf i).toNat)
  case atStart => exact ⟨0, R0, s0, by omega, rfl, rfl, rfl, Lib.hid ⟨HH0.out, by omega⟩⟩
  case round =>
    obtain ⟨k, R, z, hk, rfl, rfl, rfl, HK⟩ := hrel
    by_cases hlt : k < L.length
    · have hlt' : (k : Int) < (L.length : Int) := by omega
      have hk0 : (0 : Int) ≤ (k : Int) := by omega
      obtain ⟨b, off, rfl⟩ := M2.out.some (by omega)
      obtain ⟨q0, q1, q2, q3⟩ := reads_deed (M2.out.mod HK.out.1.ext (fun _ _ f => f)) (List.getElem?_eq_getElem hlt)
      have hst := sumS_step (List.getElem?_eq_getElem hlt)
      have hle := sumS_take_le L (k + 1)
      have hz := HK.out.2
      have hdo := does_any w1 wr D R z L[k] HK.out.1 (by omega)
      generalize L[k] = x at *
      have Hst := Lib.hid hst
      have hz4 : z.size + 2 * x.s.size ≤ 60000 := by omega
      have hz5 : z.size + 2 * x.s.size ≤ s0.size + 2 * sumS (L.take (k + 1)) := by omega
      clear hst hle hz
      go_wp2_with fail
      refine hdo.mono ?_
      rintro e u3 ⟨R3, z3, rfl, hH3, hz3⟩
      clear hdo q0 q1 q2 q3
      go_wp2_with fail
      refine (whole_any R3 u3 hH3.rope).mono ?_
      rintro e u4 ⟨rfl, y4⟩
      have HK4 := Lib.hid (hH3.on y4)
      clear hH3
      go_wp2_with fail
      go_roundw
      case rel => exact ⟨k + 1, R3, z3, by omega, by go_num, rfl, rfl, Lib.hid ⟨HK4.out, by omega⟩⟩
      case measure => simp [intOf]; omega
    · have hlt' : ¬ (k : Int) < (L.length : Int) := by omega
      go_wp2_with fail
      refine (whole_any R wr HK.out.1.rope).mono ?_
      rintro e u8 ⟨rfl, y8⟩
      go_wp2_with fail
      refine (awake3_any _).mono ?_
      rintro e u9 ⟨rfl, y9⟩
      go_wp2_with fail
      go_ret
      exact ⟨rfl, (HK.out.1.ext.ext_trans y8).ext_trans y9⟩

set_option maxHeartbeats 1600000 in
set_option maxRecDepth 1000000 in
theorem ropePieces_calls (w : World) (a0 : Option Addr) (c0 : Nat) (ns : List Int) (w0 : Reads w 1 a0 ns.length (ns.map (Value.int .u32))) (m0 : ns.length ≤ maxLen) (f0 : ∀ n ∈ ns, (Lit.int .u32 n).wf = true) (s0 : ByteArray) (ws : s0.size ≤ 9223372036854775807) (a2 : Option Addr) (c2 : Nat) (L : List Dd) (w2 : Reads w 4 a2 L.length (ddCells L)) (m2 : L.length ≤ maxLen) (f2 : ∀ x ∈ L, x.s.size ≤ maxLen) :
    Calls Try.prog 13 #[.slice a0 ns.length c0, .string s0, .slice a2 L.length c2] w fun e w' => e = .returned (.bool true) ∧ Ext w w' := by
  have z0 : ∀ n ∈ ns, n ≤ 4294967295 := fun n hn => u32_top (f0 n hn)
  by_cases h1 : ns.length ≤ 40
  · have i1 : decide ((40 : Int) < (ns.length : Int)) = false := by simp; omega
    have j1 : ¬ (40 : Int) < (ns.length : Int) := by omega
    by_cases h2 : s0.size ≤ 300
    · have i2 : decide ((300 : Int) < (s0.size : Int)) = false := by simp; omega
      have j2 : ¬ (300 : Int) < (s0.size : Int) := by omega
      cases h3 : muchB 16 500 L with
      | false => exact ropePieces_any w a0 c0 ns w0 z0 s0 a2 c2 L w2 h1 h2 h3
      | true =>
        have hmu := much_any 16 500 a2 c2 L w w2 (by omega) (by omega) (by omega) (by omega)
        rw [h3] at hmu
        clear z0 f0 w0 m0 w2 m2 f2 h3
        go_enter Try.func13, Try.ntmps13
        go_wp2_with fail
        refine hmu.mono ?_
        rintro e u1 ⟨rfl, rfl⟩
        go_wp2_with fail
        refine (awake3_any _).mono ?_
        rintro e w1 ⟨rfl, hx⟩
        go_wp2_with fail
        go_ret
        exact ⟨rfl, hx⟩
    · have j2 : (300 : Int) < (s0.size : Int) := by omega
      clear z0 f0 w0 m0 w2 m2 f2
      go_enter Try.func13, Try.ntmps13
      go_wp2_with fail
      refine (awake3_any _).mono ?_
      rintro e w1 ⟨rfl, hx⟩
      go_wp2_with fail
      go_ret
      exact ⟨rfl, hx⟩
  · have j1 : (40 : Int) < (ns.length : Int) := by omega
    clear z0 f0 w0 m0 w2 m2 f2
    go_enter Try.func13, Try.ntmps13
    go_wp2_with fail
    refine (awake3_any _).mono ?_
    rintro e w1 ⟨rfl, hx⟩
    go_wp2_with fail
    go_ret
    exact ⟨rfl, hx⟩

end Go.Proofs.Ytbcjlbapgidhiaa

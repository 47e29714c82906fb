/- A text of n bytes has at least n / Chunk pieces, and fewer than 2 n / Chunk and two: the walk. Conditions: none. -/
import Derived.Test.YtbcjlbapgidhiaaGimDoes2
namespace Go.Gim
theorem few_two : ∀ (l : List ByteArray), Sized l → Adj l → 65 * (l.length / 2) + l.length % 2 ≤ (join l).length
  | [], _, _ => by simp
  | [x], hs, _ => by
    have h := (sized_cons.1 hs).1
    have e : x.data.toList.length = x.size := rfl
    rw [join_cons, List.length_append, e]; simp; omega
  | x :: y :: r, hs, ha => by
    obtain ⟨_, hs2⟩ := sized_cons.1 hs
    obtain ⟨_, hs3⟩ := sized_cons.1 hs2
    have h1 : 64 < x.size + y.size := ha.1
    have ha3 : Adj r := by
      cases r with
      | nil => trivial
      | cons z q => exact ha.2.2
    have ih := few_two r hs3 ha3
    have e : x.data.toList.length = x.size := rfl
    have e2 : y.data.toList.length = y.size := rfl
    rw [join_cons, join_cons, List.length_append, List.length_append, e, e2]
    simp only [List.length_cons]
    omega
theorem few_most : ∀ (l : List ByteArray), Sized l → (join l).length ≤ 64 * l.length
  | [], _ => by simp [join]
  | x :: r, hs => by
    obtain ⟨h1, h2⟩ := sized_cons.1 hs
    have ih := few_most r h2
    have e : x.data.toList.length = x.size := rfl
    rw [join_cons, List.length_append, e, List.length_cons]
    omega
end Go.Gim
namespace Go.Proofs.Ytbcjlbapgidhiaa
open Go.RowKit Go.Gim

theorem few_count {t : T} (h : Pcs t.owns) : t.size ≤ t.count * 64 ∧ t.count < 2 * t.size / 64 + 2 := by
  have h1 := few_most _ h.1
  have h2 := few_two _ h.1 h.2
  rw [← T.size_join, owns_len] at h1 h2
  omega

set_option maxHeartbeats 3200000 in
set_option maxRecDepth 1000000 in
theorem ropeFew_any (w : World) (a0 : Option Addr) (c0 : Nat) (ns : List Int) (m0 : Reads w 1 a0 ns.length (ns.map (Value.int .u32))) (z0 : ∀ n ∈ ns, n ≤ 4294967295) (a2 : Option Addr) (c2 : Nat) (L : List Dd) (m2 : Reads w 4 a2 L.length (ddCells L))
    (h1 : ns.length ≤ 40) (h3 : muchB 16 500 L = false) :
    Calls Try.prog 14 #[.slice a0 ns.length c0, .slice a2 L.length c2] w fun e w' => e = .returned (.bool true) ∧ Ext w w' := by
  have i1 : ¬ (40 : Int) < (ns.length : Int) := by omega
  have hmu := much_any 16 500 a2 c2 L w m2 (by omega) (by omega) (by omega) (by omega)
  rw [h3] at hmu
  obtain ⟨hl, hsum⟩ := muchB_no h3 (by omega)
  have M0 := Lib.hid m0
  have M2 := Lib.hid m2
  have Z0 := Lib.hid z0
  clear h3 m0 m2 z0
  go_enter Try.func14, Try.ntmps14
  go_wp2_with fail
  refine hmu.mono ?_
  rintro e w1 ⟨rfl, rfl⟩
  go_wp2_with fail
  refine (dice_new _ a0 c0 ns (by omega) Z0.out M0.out).mono ?_
  rintro e u1 ⟨D, rfl, hD⟩
  go_wp2_with fail
  refine (rope_none D _ hD.dice).mono ?_
  rintro e u2 ⟨R0, rfl, hF⟩
  have HH0 := Lib.hid (Held.start (s := ⟨#[]⟩) hD.ext hD.d hF rfl)
  clear hF hmu
  go_wp2_with fail
  go_loopw [6, 8, 9] (fun r s i wr => ∃ (k : Nat) (R : Rp) (z : ByteArray), k ≤ L.length ∧ i = .int .i64 k ∧ r = .pointer (some ⟨R.rb, 0, none⟩) ∧ s = .string z ∧ Hid (Held w1 D R z wr ∧ z.size ≤ 2 * sumS (L.take k))) (fun _ _ i _ => L.length - (intOf i).toNat)
  case atStart => exact ⟨0, R0, _, by omega, rfl, rfl, rfl, Lib.hid ⟨HH0.out, Nat.zero_le _⟩⟩
  case round =>
    obtain ⟨k, R, z, hk, rfl, rfl, rfl, HK⟩ := hrel
    by_cases hlt : k < L.length
    · have hlt' : (k : Int) < (L.length : Int) := by omega
      have hk0 : (0 : Int) ≤ (k : Int) := by omega
      obtain ⟨b, off, rfl⟩ := M2.out.some (by omega)
      obtain ⟨q0, q1, q2, q3⟩ := reads_deed (M2.out.mod HK.out.1.ext (fun _ _ f => f)) (List.getElem?_eq_getElem hlt)
      have hst := sumS_step (List.getElem?_eq_getElem hlt)
      have hle := sumS_take_le L (k + 1)
      have hz := HK.out.2
      have hdo := does_any w1 wr D R z L[k] HK.out.1 (by omega)
      generalize L[k] = x at *
      have Hst := Lib.hid hst
      have hz4 : z.size + 2 * x.s.size ≤ 60000 := by omega
      have hz5 : z.size + 2 * x.s.size ≤ 0 + 2 * sumS (L.take (k + 1)) := by omega
      clear hst hle hz
      go_wp2_with fail
      refine hdo.mono ?_
      rintro e u3 ⟨R3, z3, rfl, hH3, hz3⟩
      clear hdo q0 q1 q2 q3
      obtain ⟨g1, g2⟩ := few_count hH3.rope.pcs
      have g3 := hH3.size
      have hq := fun v (hv : RopeAt v R3) => len_any R3 v hv
      generalize hn : R3.t.count = n at *
      generalize hm : R3.t.size = m at *
      have hn2 : n ≤ 200000 := by omega
      have hf1 : ¬ ((n : Int) * 64 < (m : Int)) := by omega
      have hf2 : ¬ ((2 * (m : Int)).tdiv 64 + 2 ≤ (n : Int)) := by rw [Int.tdiv_eq_ediv_of_nonneg (by omega)]; omega
      have Hq := Lib.hid hq
      have HK3 := Lib.hid hH3
      clear hq hH3
      go_wp2_with fail
      refine (piecesOf_any R3 u3 HK3.out.rope).mono ?_
      rintro e u4 ⟨v, rfl, hr4, y4⟩
      obtain ⟨ao, cap, rfl, _⟩ := ownsRow_shape hr4.2
      rw [pcs_len, hn]
      clear hr4
      go_wp2_with fail
      refine (Hq.out _ (HK3.out.rope.ext y4)).mono ?_
      rintro e u5 ⟨rfl, rfl⟩
      go_wp2_with fail
      refine (Hq.out _ (HK3.out.rope.ext y4)).mono ?_
      rintro e u6 ⟨rfl, rfl⟩
      go_wp2_with fail
      go_roundw
      case rel => exact ⟨k + 1, R3, z3, by omega, by go_num, rfl, rfl, Lib.hid ⟨HK3.out.on y4, by omega⟩⟩
      case measure => simp [intOf]; omega
    · have hlt' : ¬ (k : Int) < (L.length : Int) := by omega
      go_wp2_with fail
      refine (awake3_any _).mono ?_
      rintro e u9 ⟨rfl, y9⟩
      go_wp2_with fail
      go_ret
      exact ⟨rfl, HK.out.1.ext.ext_trans y9⟩

set_option maxHeartbeats 1600000 in
set_option maxRecDepth 1000000 in
theorem ropeFew_calls (w : World) (a0 : Option Addr) (c0 : Nat) (ns : List Int) (w0 : Reads w 1 a0 ns.length (ns.map (Value.int .u32))) (m0 : ns.length ≤ maxLen) (f0 : ∀ n ∈ ns, (Lit.int .u32 n).wf = true) (a2 : Option Addr) (c2 : Nat) (L : List Dd) (w2 : Reads w 4 a2 L.length (ddCells L)) (m2 : L.length ≤ maxLen) (f2 : ∀ x ∈ L, x.s.size ≤ maxLen) :
    Calls Try.prog 14 #[.slice a0 ns.length c0, .slice a2 L.length c2] w fun e w' => e = .returned (.bool true) ∧ Ext w w' := by
  have z0 : ∀ n ∈ ns, n ≤ 4294967295 := fun n hn => u32_top (f0 n hn)
  by_cases h1 : ns.length ≤ 40
  · have i1 : decide ((40 : Int) < (ns.length : Int)) = false := by simp; omega
    have j1 : ¬ (40 : Int) < (ns.length : Int) := by omega
    cases h3 : muchB 16 500 L with
    | false => exact ropeFew_any w a0 c0 ns w0 z0 a2 c2 L w2 h1 h3
    | true =>
      have hmu := much_any 16 500 a2 c2 L w w2 (by omega) (by omega) (by omega) (by omega)
      rw [h3] at hmu
      clear z0 f0 w0 m0 w2 m2 f2 h3
      go_enter Try.func14, Try.ntmps14
      go_wp2_with fail
      refine hmu.mono ?_
      rintro e u1 ⟨rfl, rfl⟩
      go_wp2_with fail
      refine (awake3_any _).mono ?_
      rintro e w1 ⟨rfl, hx⟩
      go_wp2_with fail
      go_ret
      exact ⟨rfl, hx⟩
  · have j1 : (40 : Int) < (ns.length : Int) := by omega
    clear z0 f0 w0 m0 w2 m2 f2
    go_enter Try.func14, Try.ntmps14
    go_wp2_with fail
    refine (awake3_any _).mono ?_
    rintro e w1 ⟨rfl, hx⟩
    go_wp2_with fail
    go_ret
    exact ⟨rfl, hx⟩

end Go.Proofs.Ytbcjlbapgidhiaa

/- Behind any deeds, what is put in and taken away again, and what is cut off and joined again, leaves the text as it was, and its pieces a treap: the walk. Conditions: none. -/
import Derived.Test.YtbcjlbapgidhiaaGimDoes2
namespace Go.Proofs.Ytbcjlbapgidhiaa
open Go.RowKit Go.Gim

theorem splice_back (z c : ByteArray) (p : Nat) (hp : p ≤ z.size) : splice (z.extract 0 p ++ c ++ z.extract p z.size).data.toList p (p + c.size : Nat) [] = z.data.toList := by
  rw [← splice_in]
  have e1 : splice z.data.toList p p c.data.toList = z.data.toList.take p ++ (c.data.toList ++ z.data.toList.drop p) := by
    simp [splice]
  rw [e1]
  have hl : (z.data.toList.take p).length = p := by rw [List.length_take, toList_length]; omega
  have hc : c.data.toList.length = c.size := rfl
  simp only [splice, Int.toNat_natCast, List.nil_append]
  rw [List.take_append_of_le_length (by omega), List.take_of_length_le (by omega), List.drop_append, List.drop_of_length_le (l := z.data.toList.take p) (by omega), List.nil_append, hl, Nat.add_sub_cancel_left, List.drop_append, List.drop_of_length_le (by omega), hc, Nat.sub_self, List.drop_zero, List.nil_append, List.take_append_drop]

set_option maxHeartbeats 3200000 in
set_option maxRecDepth 1000000 in
theorem ropeBack_any (w : World) (a0 : Option Addr) (c0 : Nat) (ns : List Int) (m0 : Reads w 1 a0 ns.length (ns.map (Value.int .u32))) (z0 : ∀ n ∈ ns, n ≤ 4294967295) (a2 : Option Addr) (c2 : Nat) (L : List Dd) (m2 : Reads w 4 a2 L.length (ddCells L)) (f : Int) (c : ByteArray)
    (h1 : ns.length ≤ 20) (h3 : muchB 8 300 L = false) (h4 : c.size ≤ 200) :
    Calls Try.prog 16 #[.slice a0 ns.length c0, .slice a2 L.length c2, .int .i64 f, .string c] w fun e w' => e = .returned (.bool true) ∧ Ext w w' := by
  have i4 : ¬ (200 : Int) < (c.size : Int) := by omega
  have i1 : ¬ (20 : Int) < (ns.length : Int) := by omega
  have hmu := much_any 8 300 a2 c2 L w m2 (by omega) (by omega) (by omega) (by omega)
  rw [h3] at hmu
  obtain ⟨hl, hsum⟩ := muchB_no h3 (by omega)
  have M0 := Lib.hid m0
  have M2 := Lib.hid m2
  have Z0 := Lib.hid z0
  clear h3 m0 m2 z0
  go_enter Try.func16, Try.ntmps16
  go_wp2_with fail
  refine hmu.mono ?_
  rintro e w1 ⟨rfl, rfl⟩
  go_wp2_with fail
  refine (dice_new _ a0 c0 ns (by omega) Z0.out M0.out).mono ?_
  rintro e u1 ⟨D, rfl, hD⟩
  go_wp2_with fail
  refine (rope_none D _ hD.dice).mono ?_
  rintro e u2 ⟨R0, rfl, hF⟩
  have HH0 := Lib.hid (Held.start (s := ⟨#[]⟩) hD.ext hD.d hF rfl)
  clear hF hmu
  go_wp2_with fail
  go_loopw [10, 12, 13] (fun r s i wr => ∃ (k : Nat) (R : Rp) (z : ByteArray), k ≤ L.length ∧ i = .int .i64 k ∧ r = .pointer (some ⟨R.rb, 0, none⟩) ∧ s = .string z ∧ Hid (Held w1 D R z wr ∧ z.size ≤ 2 * sumS (L.take k))) (fun _ _ i _ => L.length - (intOf i).toNat)
  case atStart => exact ⟨0, R0, _, by omega, rfl, rfl, rfl, Lib.hid ⟨HH0.out, Nat.zero_le _⟩⟩
  case round =>
    obtain ⟨k, R, z, hk, rfl, rfl, rfl, HK⟩ := hrel
    by_cases hlt : k < L.length
    · have hlt' : (k : Int) < (L.length : Int) := by omega
      have hk0 : (0 : Int) ≤ (k : Int) := by omega
      obtain ⟨b, off, rfl⟩ := M2.out.some (by omega)
      obtain ⟨q0, q1, q2, q3⟩ := reads_deed (M2.out.mod HK.out.1.ext (fun _ _ f => f)) (List.getElem?_eq_getElem hlt)
      have hst := sumS_step (List.getElem?_eq_getElem hlt)
      have hle := sumS_take_le L (k + 1)
      have hz := HK.out.2
      have hdo := does_any w1 wr D R z L[k] HK.out.1 (by omega)
      generalize L[k] = x at *
      have Hst := Lib.hid hst
      have hz4 : z.size + 2 * x.s.size ≤ 60000 := by omega
      have hz5 : z.size + 2 * x.s.size ≤ 0 + 2 * sumS (L.take (k + 1)) := by omega
      clear hst hle hz
      go_wp2_with fail
      refine hdo.mono ?_
      rintro e u3 ⟨R3, z3, rfl, hH3, hz3⟩
      clear hdo q0 q1 q2 q3
      have HK3 := Lib.hid hH3
      clear hH3
      go_wp2_with fail
      go_roundw
      case rel => exact ⟨k + 1, R3, z3, by omega, by go_num, rfl, rfl, Lib.hid ⟨HK3.out, by omega⟩⟩
      case measure => simp [intOf]; omega
    · have hlt' : ¬ (k : Int) < (L.length : Int) := by omega
      have hz := HK.out.2
      have hle := sumS_take_le L k
      have hz2 : z.size ≤ 600 := by omega
      have hH := HK.out.1
      have HK1 := Lib.hid hH
      have hct := fun v (hv : RopeAt v R) => text_rope R v hv
      rw [hH.bs] at hct
      obtain ⟨p, hp, L1⟩ := low_nat f (z.size + 1) ((z.size : Int) + 1) (by omega) (by omega) (by omega)
      have b1 : (z.toList == z.toList) = true := str_eq rfl
      clear hz hle HK hH
      go_wp2_with fail
      refine (hct _ HK1.out.rope).mono ?_
      rintro e u3 ⟨rfl, y3⟩
      have hH3 := HK1.out.on y3
      have hz3 := hH3.size
      go_wp2_with fail
      refine (L1 _).mono ?_
      rintro e u4 ⟨rfl, rfl⟩
      go_wp2_with fail
      refine (insert_yes R p c _ hH3.rope (rises_of ⟨by omega, by omega, by omega⟩) (by omega)).mono ?_
      rintro e u5 ⟨rfl, R5, hd5⟩
      have hH5 := hH3.done hd5 (by rw [hH3.text]; exact splice_in z c p)
      have hz5 := hH5.size
      rw [size_in z c p (by omega)] at hz5
      have hdel := delete_yes R5 p (p + c.size : Nat) u5 hH5.rope (rises_of ⟨by omega, by omega, by omega⟩)
      rw [hd5.grew.1] at hdel
      have hrb5 := hd5.grew.1
      rw [show ((p + c.size : Nat) : Int) = (p : Int) + (c.size : Int) from by omega] at hdel
      clear hd5
      go_wp2_with fail
      refine hdel.mono ?_
      rintro e u6 ⟨rfl, R6, hd6⟩
      have hH6 := hH5.done (s' := z) hd6 (by rw [hH5.text, ← splice_back z c p (by omega)]; congr 1 <;> omega)
      have hrb6 := hd6.grew.1.trans hrb5
      have hz6 := hH6.size
      have hct6 := fun v (hv : Ext u6 v) => text_rope R6 v (hH6.on hv).rope
      rw [hH6.bs, hrb6] at hct6
      have hw6 := fun v (hv : Ext u6 v) => whole_any R6 v (hH6.on hv).rope
      rw [hrb6] at hw6
      clear hdel hd6
      go_wp2_with fail
      refine (hct6 _ (Mod.refl _ _)).mono ?_
      rintro e u7 ⟨rfl, y7⟩
      go_wp2_with fail
      refine (hw6 _ y7).mono ?_
      rintro e u8 ⟨rfl, y8⟩
      have hH8 := hH6.on (y7.ext_trans y8)
      have hcut := cut_any R6 p _ hH8.rope (rises_of ⟨by omega, by omega, by omega⟩)
      rw [Int.toNat_natCast, hrb6] at hcut
      clear hct6 hw6
      go_wp2_with fail
      refine hcut.mono ?_
      rintro e u9 ⟨R9, O, rfl, hC⟩
      obtain ⟨hR9, hO9, hap, hrb9⟩ := hH8.cut (a := z.extract 0 p) (b := z.extract p z.size) hC (by rw [hH8.text]; exact take_ex z p) (by rw [hH8.text]; exact drop_ex z p)
      have hrb9 := hrb9.trans hrb6
      have hs1 := hR9.size
      have hs2 := hO9.size
      rw [ByteArray.size_extract] at hs1 hs2
      have hj := join_any R9 O u9 hR9.rope hO9.rope hap (by omega)
      rw [hrb9] at hj
      clear hcut hC
      go_wp2_with fail
      refine hj.mono ?_
      rintro e ua ⟨rfl, Ra, hJ⟩
      obtain ⟨hRa, hrba, _⟩ := hR9.joined (s := z) hO9 hJ (by rw [← take_ex, ← drop_ex, List.take_append_drop])
      have hrba := hrba.trans hrb9
      have hcta := fun v (hv : Ext ua v) => text_rope Ra v (hRa.on hv).rope
      rw [hRa.bs, hrba] at hcta
      have hwa := fun v (hv : Ext ua v) => whole_any Ra v (hRa.on hv).rope
      rw [hrba] at hwa
      clear hj hJ
      go_wp2_with fail
      refine (hcta _ (Mod.refl _ _)).mono ?_
      rintro e ub ⟨rfl, yb⟩
      go_wp2_with fail
      refine (hwa _ yb).mono ?_
      rintro e uc ⟨rfl, yc⟩
      go_wp2_with fail
      refine (awake3_any _).mono ?_
      rintro e ud ⟨rfl, yd⟩
      go_wp2_with fail
      go_ret
      exact ⟨rfl, ((hRa.ext.ext_trans yb).ext_trans yc).ext_trans yd⟩

set_option maxHeartbeats 1600000 in
set_option maxRecDepth 1000000 in
theorem ropeBack_calls (w : World) (a0 : Option Addr) (c0 : Nat) (ns : List Int) (w0 : Reads w 1 a0 ns.length (ns.map (Value.int .u32))) (m0 : ns.length ≤ maxLen) (f0 : ∀ n ∈ ns, (Lit.int .u32 n).wf = true) (a2 : Option Addr) (c2 : Nat) (L : List Dd) (w2 : Reads w 4 a2 L.length (ddCells L)) (m2 : L.length ≤ maxLen) (f2 : ∀ x ∈ L, x.s.size ≤ maxLen) (f : Int) (wf : (Lit.int .i64 f).wf = true) (c : ByteArray) (wc : c.size ≤ 9223372036854775807) :
    Calls Try.prog 16 #[.slice a0 ns.length c0, .slice a2 L.length c2, .int .i64 f, .string c] w fun e w' => e = .returned (.bool true) ∧ Ext w w' := by
  have z0 : ∀ n ∈ ns, n ≤ 4294967295 := fun n hn => u32_top (f0 n hn)
  by_cases h1 : ns.length ≤ 20
  · have i1 : decide ((20 : Int) < (ns.length : Int)) = false := by simp; omega
    have j1 : ¬ (20 : Int) < (ns.length : Int) := by omega
    cases h3 : muchB 8 300 L with
    | false =>
      by_cases h4 : c.size ≤ 200
      · exact ropeBack_any w a0 c0 ns w0 z0 a2 c2 L w2 f c h1 h3 h4
      · have j4 : (200 : Int) < (c.size : Int) := by omega
        have hmu := much_any 8 300 a2 c2 L w w2 (by omega) (by omega) (by omega) (by omega)
        rw [h3] at hmu
        clear z0 f0 w0 m0 w2 m2 f2 h3
        go_enter Try.func16, Try.ntmps16
        go_wp2_with fail
        refine hmu.mono ?_
        rintro e u1 ⟨rfl, rfl⟩
        go_wp2_with fail
        refine (awake3_any _).mono ?_
        rintro e w1 ⟨rfl, hx⟩
        go_wp2_with fail
        go_ret
        exact ⟨rfl, hx⟩
    | true =>
      have hmu := much_any 8 300 a2 c2 L w w2 (by omega) (by omega) (by omega) (by omega)
      rw [h3] at hmu
      clear z0 f0 w0 m0 w2 m2 f2 h3
      go_enter Try.func16, Try.ntmps16
      go_wp2_with fail
      refine hmu.mono ?_
      rintro e u1 ⟨rfl, rfl⟩
      go_wp2_with fail
      refine (awake3_any _).mono ?_
      rintro e w1 ⟨rfl, hx⟩
      go_wp2_with fail
      go_ret
      exact ⟨rfl, hx⟩
  · have j1 : (20 : Int) < (ns.length : Int) := by omega
    clear z0 f0 w0 m0 w2 m2 f2
    go_enter Try.func16, Try.ntmps16
    go_wp2_with fail
    refine (awake3_any _).mono ?_
    rintro e w1 ⟨rfl, hx⟩
    go_wp2_with fail
    go_ret
    exact ⟨rfl, hx⟩

end Go.Proofs.Ytbcjlbapgidhiaa

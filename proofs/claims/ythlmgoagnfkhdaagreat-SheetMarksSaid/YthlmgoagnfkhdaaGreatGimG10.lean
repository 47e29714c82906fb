/- What package tally's By and Upto compute. Conditions: texts of at most 1000000 bytes. -/
import Derived.Test.YthlmgoagnfkhdaaGreatGimG09
import Derived.Test.YthlmgoagnfkhdaaGreatGimG01
set_option maxHeartbeats 6400000
set_option maxRecDepth 1000000
set_option linter.unusedVariables false
set_option linter.unusedSimpArgs false
namespace Go.Proofs.YthlmgoagnfkhdaaGreat
open Go.RowKit Go.Gim
theorem by_0 (a b c d : Int) (w : World) : Calls Tryz.prog 184 #[.agg #[.int .i64 a, .int .i64 b, .int .i64 c, .int .i64 d], .int .i64 0] w fun e w' => e = .returned (.int .i64 a) ∧ Ext w w' := by
 go_enter Tryz.func184, Tryz.ntmps184
 go_wp2_with fail
 go_ret
 exact ⟨rfl, (Mod.refl _ w).alloc _⟩
theorem by_1 (a b c d : Int) (w : World) : Calls Tryz.prog 184 #[.agg #[.int .i64 a, .int .i64 b, .int .i64 c, .int .i64 d], .int .i64 1] w fun e w' => e = .returned (.int .i64 c) ∧ Ext w w' := by
 go_enter Tryz.func184, Tryz.ntmps184
 go_wp2_with fail
 go_ret
 exact ⟨rfl, (Mod.refl _ w).alloc _⟩
theorem by_2 (a b c d : Int) (w : World) : Calls Tryz.prog 184 #[.agg #[.int .i64 a, .int .i64 b, .int .i64 c, .int .i64 d], .int .i64 2] w fun e w' => e = .returned (.int .i64 d) ∧ Ext w w' := by
 go_enter Tryz.func184, Tryz.ntmps184
 go_wp2_with fail
 go_ret
 exact ⟨rfl, (Mod.refl _ w).alloc _⟩
theorem by_3 (a b c d : Int) (w : World) : Calls Tryz.prog 184 #[.agg #[.int .i64 a, .int .i64 b, .int .i64 c, .int .i64 d], .int .i64 3] w fun e w' => e = .returned (.int .i64 b) ∧ Ext w w' := by
 go_enter Tryz.func184, Tryz.ntmps184
 go_wp2_with fail
 go_ret
 exact ⟨rfl, (Mod.refl _ w).alloc _⟩
theorem by_no (a b c d way : Int) (w : World) (h0 : (way == 0) = false) (h1 : (way == 1) = false) (h2 : (way == 2) = false) (h3 : (way == 3) = false) : Calls Tryz.prog 184 #[.agg #[.int .i64 a, .int .i64 b, .int .i64 c, .int .i64 d], .int .i64 way] w fun e w' => e = .returned (.int .i64 0) ∧ Ext w w' := by
 go_enter Tryz.func184, Tryz.ntmps184
 go_wp2_with fail
 go_ret
 exact ⟨rfl, (Mod.refl _ w).alloc _⟩
theorem by_any (l : List UInt8) (way : Int) (w : World) : Calls Tryz.prog 184 #[.agg (#[Value.int IntKind.i64 ((byt (l) : Nat) : Int), Value.int IntKind.i64 ((brk (l) : Nat) : Int), Value.int IntKind.i64 ((run (l) : Nat) : Int), Value.int IntKind.i64 ((unt (l) : Nat) : Int)] : Array Value), .int .i64 way] w fun e w' => e = .returned (.int .i64 (byW way l : Nat)) ∧ Ext w w' := by
 unfold byW
 by_cases h0 : way = 0
 ·subst h0; exact by_0 _ _ _ _ w
 by_cases h1 : way = 1
 ·subst h1; exact by_1 _ _ _ _ w
 by_cases h2 : way = 2
 ·subst h2; exact by_2 _ _ _ _ w
 by_cases h3 : way = 3
 ·subst h3; exact by_3 _ _ _ _ w
 rw [if_neg h0, if_neg h1, if_neg h2, if_neg h3]
 exact by_no _ _ _ _ way w (by simpa using h0) (by simpa using h1) (by simpa using h2) (by simpa using h3)
def IsInt (n : Int) : Prop := -9223372036854775808 ≤ n ∧ n ≤ 9223372036854775807
theorem IsInt.sub {n : Int} (h : IsInt n) {b : Nat} (h0 : 0 ≤ n) (hb : b ≤ 1000000000) : wrap64 (n - (b : Int)) = n - (b : Int) := by
 unfold IsInt at h
 exact IntWalk.wrap64_in _ ⟨by omega, by omega⟩
theorem IsInt.sub' {n : Int} (h : IsInt n) {b : Nat} (h0 : 0 ≤ n) (hb : b ≤ 1000000000) : IsInt (n - (b : Int)) := by
 unfold IsInt at h ⊢; omega
theorem IsInt.small {n : Int} (h0 : -1000000000 ≤ n) (h1 : n ≤ 1000000000) : IsInt n := by unfold IsInt; omega
theorem tallyUpto_any (s : ByteArray) (way : Int) (n : Nat) (w : World) (h0 : 0 ≤ way) (h3 : way ≤ 3) (hs : s.size ≤ 1000000) (hni : IsInt n) : Calls Tryz.prog 185 #[.string s, .int .i64 way, .int .i64 n] w fun e w' => e = .returned (.int .i64 (upto way s.data.toList n : Nat)) ∧ Ext w w' := by
 have hn0 : (0 : Int) ≤ (n : Int) := Int.natCast_nonneg _
 generalize hL : s.data.toList = L
 have HL := Lib.hid hL
 clear hL
 generalize hU : upto way L n = U
 have HU := Lib.hid hU
 clear hU
 go_enter Tryz.func185, Tryz.ntmps185
 go_wp2_with fail
 go_loopw [7, 8] (fun p q wr => ∃ k m : Nat, k ≤ s.size ∧ q = .int .i64 k ∧ p = .int .i64 m ∧ Hid (U = k + upto way (L.drop k) m ∧ Ext w wr ∧ IsInt m)) (fun _ q _ => s.size - (intOf q).toNat)
 case atStart => exact ⟨0, n, by omega, rfl, rfl, Lib.hid ⟨by rw [← HU.out]; simp, Mod.refl _ _, hni⟩⟩
 case round =>
  obtain ⟨k, m, hk, rfl, rfl, HR⟩ := hrel
  by_cases hlt : k < s.size
  ·have hlt' : (k : Int) < (s.size : Int) := by omega
   have hdr : L.drop k = s[k] :: L.drop (k + 1) := by
    rw [← HL.out, List.drop_eq_getElem_cons (by simpa using hlt)]; rfl
   have Hdr := Lib.hid hdr
   clear hdr
   have hb2 : byW way [s[k]] ≤ 2 := by have := byW_le way [s[k]]; simpa using this
   go_wp2_with fail
   refine (byteTally_any s[k] _).mono ?_
   rintro e w1 ⟨rfl, hx1⟩
   go_wp2_with fail
   refine (by_any [s[k]] way _).mono ?_
   rintro e w2 ⟨rfl, hx2⟩
   generalize hB : byW way [s[k]] = B at *
   have HB := Lib.hid hB
   clear hB
   by_cases hm : (m : Int) < (B : Int)
   ·go_wp2_with fail
    go_ret
    refine ⟨ret_int ?_, (HR.out.2.1.ext_trans hx1).ext_trans hx2⟩
    rw [HR.out.1, Hdr.out, upto, HB.out, if_pos (by omega)]; simp
   ·go_wp2_with fail
    go_roundw
    case rel =>
     have hi := HR.out.2.2
     have e : ((m - B : Nat) : Int) = (m : Int) - (B : Int) := by omega
     refine ⟨k + 1, m - B, by omega, by go_num, ?_, Lib.hid ⟨?_, (HR.out.2.1.ext_trans hx1).ext_trans hx2, ?_⟩⟩
     ·rw [hi.sub (by omega) (by omega), e]
     ·rw [HR.out.1, Hdr.out, upto, HB.out, if_neg (by omega)]; omega
     ·rw [e]; exact hi.sub' (by omega) (by omega)
    case measure => simp [intOf]; omega
  ·have hlt' : ¬ (k : Int) < (s.size : Int) := by omega
   go_wp2_with fail
   go_ret
   refine ⟨ret_int ?_, HR.out.2.1⟩
   rw [HR.out.1, List.drop_of_length_le (by rw [← HL.out, toList_length]; omega)]
   simp only [upto]; omega
end Go.Proofs.YthlmgoagnfkhdaaGreat

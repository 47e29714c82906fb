/- A rope of parts is their bytes, one behind the other; any stretch of it is what that has: the walk. Conditions: none. -/
import Derived.Test.YtbcjlbapgidhiaaGimRopes
import Derived.Test.YtbcjlbapgidhiaaGimLong
namespace Go.Proofs.Ytbcjlbapgidhiaa
open Go.RowKit Go.Gim

set_option maxHeartbeats 3200000 in
set_option maxRecDepth 1000000 in
theorem ropeParts_any (w : World) (a0 : Option Addr) (c0 : Nat) (ns : List Int) (m0 : Reads w 1 a0 ns.length (ns.map (Value.int .u32))) (z0 : ∀ n ∈ ns, n ≤ 4294967295) (a1 : Option Addr) (c1 : Nat) (ps : List ByteArray) (m1 : Reads w 1 a1 ps.length (ps.map Value.string)) (f g : Int)
    (h1 : ns.length ≤ 20) (h2 : ps.length ≤ 12) (h3 : longB 400 ps = false) :
    Calls Try.prog 3 #[.slice a0 ns.length c0, .slice a1 ps.length c1, .int .i64 f, .int .i64 g] w fun e w' => e = .returned (.bool true) ∧ Ext w w' := by
  have i1 : ¬ (20 : Int) < (ns.length : Int) := by omega
  have i2 : ¬ (12 : Int) < (ps.length : Int) := by omega
  have hlo := long_any 400 a1 c1 ps w m1 (by omega) (by omega) (by omega)
  rw [h3] at hlo
  have hjl := longB_no ps 400 h3 (by omega)
  have M0 := Lib.hid m0
  have M1 := Lib.hid m1
  have Z0 := Lib.hid z0
  clear h3 m0 m1 z0
  go_enter Try.func3, Try.ntmps3
  go_wp2_with fail
  refine hlo.mono ?_
  rintro e w1 ⟨rfl, rfl⟩
  go_wp2_with fail
  go_loop [9, 10] (fun s1 s2 => ∃ (k : Nat) (s : ByteArray), k ≤ ps.length ∧ s2 = .int .i64 k ∧ s1 = .string s ∧ Hid (s.data.toList = join (ps.take k))) (fun _ s2 => ps.length - (intOf s2).toNat)
  case atStart => exact ⟨0, _, by omega, rfl, rfl, Lib.hid rfl⟩
  case round =>
    obtain ⟨k, s, hk, rfl, rfl, HS⟩ := hrel
    have hss : s.size ≤ 1000 := by
      have h4 := congrArg List.length HS.out
      have h5 := join_take_le ps k
      rw [toList_length] at h4
      omega
    by_cases hlt : k < ps.length
    · have hlt' : (k : Int) < (ps.length : Int) := by omega
      have hk0 : (0 : Int) ≤ (k : Int) := by omega
      obtain ⟨b, off, rfl⟩ := M1.out.some (by omega)
      have hc := M1.out.at (j := k) (v := .string ps[k]) (by simp [hlt])
      have hj := join_take_succ ps k hlt
      have hle := join_take_le ps (k + 1)
      rw [hj, List.length_append, toList_length] at hle
      have Hj := Lib.hid hj
      clear hj
      generalize ps[k] = x at *
      have hxs : x.size ≤ 1000 := by omega
      clear hle
      go_wp2_with fail
      go_round
      case rel => exact ⟨k + 1, _, by omega, by go_num, rfl, Lib.hid (by rw [Hj.out, ← HS.out]; simp)⟩
      case measure => simp [intOf]; omega
    · have hlt' : ¬ (k : Int) < (ps.length : Int) := by omega
      obtain rfl : k = ps.length := by omega
      have hs : s.data.toList = join ps := by have := HS.out; rwa [List.take_length] at this
      have hsl : s.size = (join ps).length := by rw [← hs, toList_length]
      have Hs := Lib.hid hs
      clear hs
      go_wp2_with fail
      refine (dice_new _ a0 c0 ns (by omega) Z0.out M0.out).mono ?_
      rintro e u1 ⟨D1, rfl, hD1⟩
      go_wp2_with fail
      refine (rope_new D1 a1 c1 ps _ hD1.dice (M1.out.mod hD1.ext (fun _ _ f => f)) (by omega)).mono ?_
      rintro e u2 hP
      obtain ⟨R, rfl, hF⟩ := hP.1 (by omega)
      obtain ⟨hx2, hn2⟩ := hF.based (Mod.refl _ w1) hD1
      have hR2 := hF.rope
      have htx : R.text = s.data.toList := hF.text.trans Hs.out.symm
      have hsz : R.t.size = s.size := by rw [T.size, show R.t.text = s.data.toList from htx]; rfl
      have hct := text_rope R u2 hR2
      rw [bs_eq htx] at hct
      have Htx := Lib.hid htx
      have hsz' : R.t.size ≤ s.size ∧ s.size ≤ R.t.size := by omega
      clear hP hF htx hsz hsl
      go_wp2_with fail
      refine hct.mono ?_
      rintro e u3 ⟨rfl, y3⟩
      have hR3 := hR2.ext y3
      have hx3 := hx2.ext_trans y3
      clear hct
      go_wp2_with fail
      refine (whole_any R _ hR3).mono ?_
      rintro e u4 ⟨rfl, y4⟩
      have hR4 := hR3.ext y4
      have hx4 := hx3.ext_trans y4
      by_cases hin : 0 ≤ f ∧ f ≤ g ∧ g ≤ (s.size : Int)
      · have q1 : bs (cut R.text f g) = s.extract f.toNat g.toNat := by
          rw [Htx.out, ← extract_cut s f.toNat g.toNat f g rfl rfl, bs_of]
        have hsl := slice_yes R f g u4 hR4 (rises_of ⟨hin.1, hin.2.1, by omega⟩)
        rw [q1] at hsl
        obtain ⟨j1, j2, j3⟩ := hin
        clear q1
        go_wp2_with fail
        refine hsl.mono ?_
        rintro e u5 ⟨rfl, y5⟩
        go_wp2_with fail
        refine (inside_yes f g s.size _ ⟨j1, j2, j3⟩).mono ?_
        rintro e u6 ⟨rfl, rfl⟩
        go_wp2_with fail
        refine (new_nodice a1 ps.length c1 _).mono ?_
        rintro e u7 ⟨rfl, rfl⟩
        go_wp2_with fail
        refine (inside_yes f g s.size _ ⟨j1, j2, j3⟩).mono ?_
        rintro e u8 ⟨rfl, rfl⟩
        go_wp2_with fail
        refine (awake3_any _).mono ?_
        rintro e u9 ⟨rfl, y9⟩
        go_wp2_with fail
        go_ret
        exact ⟨rfl, (hx4.ext_trans y5).ext_trans y9⟩
      · have hsl := slice_no R f g u4 hR4 (rises_not (by omega))
        have Hin := Lib.hid hin
        clear hin
        go_wp2_with fail
        refine hsl.mono ?_
        rintro e u5 ⟨rfl, rfl⟩
        go_wp2_with fail
        refine (inside_no f g s.size _ Hin.out).mono ?_
        rintro e u6 ⟨rfl, rfl⟩
        go_wp2_with fail
        refine (new_nodice a1 ps.length c1 _).mono ?_
        rintro e u7 ⟨rfl, rfl⟩
        go_wp2_with fail
        refine (inside_no f g s.size _ Hin.out).mono ?_
        rintro e u8 ⟨rfl, rfl⟩
        go_wp2_with fail
        refine (awake3_any _).mono ?_
        rintro e u9 ⟨rfl, y9⟩
        go_wp2_with fail
        go_ret
        exact ⟨rfl, hx4.ext_trans y9⟩

set_option maxHeartbeats 1600000 in
set_option maxRecDepth 1000000 in
theorem ropeParts_calls (w : World) (a0 : Option Addr) (c0 : Nat) (ns : List Int) (w0 : Reads w 1 a0 ns.length (ns.map (Value.int .u32))) (m0 : ns.length ≤ maxLen) (f0 : ∀ n ∈ ns, (Lit.int .u32 n).wf = true) (a1 : Option Addr) (c1 : Nat) (ps : List ByteArray) (w1 : Reads w 1 a1 ps.length (ps.map Value.string)) (m1 : ps.length ≤ maxLen) (f1 : ∀ s ∈ ps, s.size ≤ maxLen) (f : Int) (wf : (Lit.int .i64 f).wf = true) (g : Int) (wg : (Lit.int .i64 g).wf = true) :
    Calls Try.prog 3 #[.slice a0 ns.length c0, .slice a1 ps.length c1, .int .i64 f, .int .i64 g] w fun e w' => e = .returned (.bool true) ∧ Ext w w' := by
  have z0 : ∀ n ∈ ns, n ≤ 4294967295 := fun n hn => u32_top (f0 n hn)
  by_cases h1 : ns.length ≤ 20
  · have i1 : decide ((20 : Int) < (ns.length : Int)) = false := by simp; omega
    have j1 : ¬ (20 : Int) < (ns.length : Int) := by omega
    by_cases h2 : ps.length ≤ 12
    · have i2 : decide ((12 : Int) < (ps.length : Int)) = false := by simp; omega
      have j2 : ¬ (12 : Int) < (ps.length : Int) := by omega
      cases h3 : longB 400 ps with
      | false => exact ropeParts_any w a0 c0 ns w0 z0 a1 c1 ps w1 f g h1 h2 h3
      | true =>
        have hlo := long_any 400 a1 c1 ps w w1 (by omega) (by omega) (by omega)
        rw [h3] at hlo
        clear z0 f0 f1 w0 w1 m0 m1 wf wg h3
        go_enter Try.func3, Try.ntmps3
        go_wp2_with fail
        refine hlo.mono ?_
        rintro e u1 ⟨rfl, rfl⟩
        go_wp2_with fail
        refine (awake3_any _).mono ?_
        rintro e w1 ⟨rfl, hx⟩
        go_wp2_with fail
        go_ret
        exact ⟨rfl, hx⟩
    · have j2 : (12 : Int) < (ps.length : Int) := by omega
      clear z0 f0 f1 w0 w1 m0 m1 wf wg
      go_enter Try.func3, Try.ntmps3
      go_wp2_with fail
      refine (awake3_any _).mono ?_
      rintro e w1 ⟨rfl, hx⟩
      go_wp2_with fail
      go_ret
      exact ⟨rfl, hx⟩
  · have j1 : (20 : Int) < (ns.length : Int) := by omega
    clear z0 f0 f1 w0 w1 m0 m1 wf wg
    go_enter Try.func3, Try.ntmps3
    go_wp2_with fail
    refine (awake3_any _).mono ?_
    rintro e w1 ⟨rfl, hx⟩
    go_wp2_with fail
    go_ret
    exact ⟨rfl, hx⟩

end Go.Proofs.Ytbcjlbapgidhiaa

/- Whatever is done to a sheet, it answers, and its text, selections and marks are, what the document tells: the walk. Conditions: none. -/
import Derived.Test.YthlmgoagnfkhdaaGreatGimF45
set_option maxHeartbeats 6400000
set_option maxRecDepth 1000000
set_option linter.unusedVariables false
set_option linter.unusedSimpArgs false
namespace Go.Proofs.YthlmgoagnfkhdaaGreat
open Go.RowKit Go.Gim
theorem sheetTells_any (w : World) (s : ByteArray) (ao : Option Addr) (cap : Nat) (L : List Ds) (hs : s.size ≤ 80) (hr : Reads w 7 ao L.length (dsE.cells L)) (hok : ∀ x ∈ L, DsOk w x) (hn : L.length ≤ 12) (hmu : muchS L = false) :
  Calls Tryz.prog 9 #[.string s, .slice ao L.length cap] w fun e w' => e = .returned (.bool true) ∧ Ext w w' := by
 have Hfit := Lib.hid (fit_of hmu)
 have HM := muchS_any 12 ao cap L w hr hok (by unfold maxLen; omega) (by omega)
 rw [if_neg (by omega), hmu] at HM
 have HM' := Lib.hid HM
 obtain ⟨N, hN⟩ : ∃ N, N = L.length := ⟨_, rfl⟩
 have HN := Lib.hid hN
 have Hr := Lib.hid hr
 have Hok := Lib.hid hok
 rw [← hN] at hn HM' ⊢
 clear hr hok hN
 have i1 : ¬ (80 : Int) < (s.size : Int) := by omega
 have i2 : decide ((80 : Int) < (s.size : Int)) = false := decide_eq_false i1
 clear hmu HM
 go_enter Tryz.func9, Tryz.ntmps9
 go_wp2_with fail
 refine HM'.out.mono ?_
 rintro e v0 ⟨rfl, rfl⟩
 clear HM' i1 i2
 go_wp2_with fail
 refine (dice_lit _ [5, 4, 3] #[.int .u32 5, .int .u32 4, .int .u32 3] rfl (by simp) (by simp)).mono ?_
 rintro e u1 ⟨D, rfl, hD⟩
 go_wp2_with fail
 refine (snew_any D s u1 hD.dice (by omega)).mono ?_
 rintro e u2 ⟨S, rfl, h1, h2, h3, h4, h5, -, h6, h7⟩
 have HA := Lib.hid (Alone.start (m := 6) hD.ext hD.d h1 h3 h4 h5 h6 h7 (by omega))
 have H2 := Lib.hid h2
 have H4 := Lib.hid h4
 have d1 := HA.out.sh.blk.cell 1
 simp only [List.getElem?_toArray, List.getElem?_cons_zero, List.getElem?_cons_succ] at d1
 have hlb := HA.out.sh.blk.lt
 have HB0 := Lib.hid (Both.start HA.out h5 h3 h4 s h2)
 clear hD h1 h2 h3 h4 h5 h6 h7
 go_upto_region 7 with fail
 obtain ⟨u5, hu5⟩ : ∃ u5, u5 = ((u2.alloc (.cells #[.int .i64 0, .int .i64 0] 47)).alloc (.cells #[.slice none 0 0, .slice none 0 0, .int .i64 0] 86)).alloc (.cells #[.string s, .slice (some ⟨u2.heap.size, 0, none⟩) 1 1, .pointer (some ⟨u2.heap.size + 1, 0, none⟩)] 88) := ⟨_, rfl⟩
 rw [← hu5] at HB0
 rw [← hu5]
 obtain ⟨p, hp⟩ : ∃ p : Pp, p = ⟨u2.heap.size + 2, some ⟨u2.heap.size, 0, none⟩, 1, u2.heap.size + 1, .slice none 0 0, .slice none 0 0⟩ := ⟨_, rfl⟩
 rw [← hp] at HB0
 have HB := HB0
 rw [show u2.heap.size + 2 = p.pb by rw [hp]]
 clear HB0 hp hu5 d1 hlb
 have HSm := Lib.hid (sameS_any _ _ S p 65536 HB.out (by rw [H2.out]; omega))
 go_wp2_with fail
 refine HSm.out.mono ?_
 rintro e w4 ⟨rfl, hx4⟩
 have HB4 := Lib.hid (HB.out.on hx4)
 clear HSm hx4 HB
 go_wp2_with fail
 go_loopw [8] (fun i wr => ∃ (k : Nat) (S1 : Sh) (p1 : Pp), k ≤ N ∧ i = .int .i64 k ∧ S1.sb = S.sb ∧ p1.pb = p.pb ∧ S1.last ≤ k ∧ S1.s.size ≤ 80 + 300 * k ∧ Hid (Both v0 wr S1 p1 (65536 + 2000000 * (k : Int)) 6)) (fun i _ => N - (intOf i).toNat)
 case atStart => exact ⟨0, S, p, by omega, rfl, rfl, rfl, by rw [H4.out]; omega, by rw [H2.out]; omega, Lib.hid (HB4.out.more (by omega))⟩
 case round =>
  obtain ⟨k, S1, p1, hk, rfl, hb1, hb2, hla, hsz, HB1⟩ := hrel
  by_cases hlt : k < N
  ·have hlt' : (k : Int) < (N : Int) := by omega
   have hk0 : (0 : Int) ≤ (k : Int) := by omega
   obtain ⟨b, off, rfl⟩ := Hr.out.some (by rw [← HN.out]; omega)
   have hlk : k < L.length := by rw [← HN.out]; exact hlt
   obtain ⟨⟨q0, q1, q2, q3⟩, q4, q5, q6⟩ := reads_ds (Hr.out.mod HB1.out.ext (fun _ _ f => f)) (List.getElem?_eq_getElem hlk)
   have HC := Lib.hid (doesS_all L[k] v0 wr S1 p1 _ HB1.out (by omega) (by omega) (by omega) (Hok.out _ (List.getElem_mem hlk)) (Hfit.out _ (List.getElem_mem hlk)))
   generalize L[k] = x at *
   unfold DoesPost dsV at HC
   rw [hb1, hb2] at HC
   have hbl := World.block_lt_of_cell? wr _ q0
   clear hlk
   go_wp2_with fail
   refine HC.out.mono ?_
   rintro e w5 ⟨rfl, S2, p2, hB2, g1, g2, g3, -, -, -, g4⟩
   have HB2 := Lib.hid hB2
   clear hB2 HC q0 q1 q2 q3 q4 q5 q6 hbl
   have HSm := Lib.hid (sameS_any v0 w5 S2 p2 _ HB2.out (by omega))
   rw [g2, g3] at HSm
   go_wp2_with fail
   refine HSm.out.mono ?_
   rintro e w6 ⟨rfl, hx6⟩
   have HB3 := Lib.hid (HB2.out.on hx6)
   clear HSm HB2 hx6
   go_wp2_with fail
   go_roundw
   case rel => exact ⟨k + 1, S2, p2, by omega, by go_num, g2, g3, by omega, by omega, Lib.hid (HB3.out.more (by omega))⟩
   case measure => simp [intOf]; omega
  ·have hlt' : ¬ (k : Int) < (N : Int) := by omega
   go_wp2_with fail
   refine (awakeS_any _).mono ?_
   rintro e w9 ⟨rfl, hx9⟩
   go_wp2_with fail
   go_ret
   exact ⟨rfl, HB1.out.ext.ext_trans hx9⟩
theorem sheetTells_calls (w : World) (s : ByteArray) (_ : s.size ≤ 9223372036854775807) (ao : Option Addr) (cap : Nat) (L : List Ds) (hr : Reads w 7 ao L.length (dsE.cells L)) (hm : L.length ≤ maxLen) (hok : ∀ x ∈ L, DsOk w x) :
  Calls Tryz.prog 9 #[.string s, .slice ao L.length cap] w fun e w' => e = .returned (.bool true) ∧ Ext w w' := by
 by_cases h1 : s.size ≤ 80
 ·by_cases h2 : L.length ≤ 12
  ·cases hmu : muchS L with
   | false => exact sheetTells_any w s ao cap L h1 hr hok h2 hmu
   | true =>
    have HM := muchS_any 12 ao cap L w hr hok hm (by omega)
    rw [if_neg (by omega), hmu] at HM
    clear hr hok
    have i1 : ¬ (80 : Int) < (s.size : Int) := by omega
    have i2 : decide ((80 : Int) < (s.size : Int)) = false := decide_eq_false i1
    have HM' := Lib.hid HM
    clear HM
    go_enter Tryz.func9, Tryz.ntmps9
    go_wp2_with fail
    refine HM'.out.mono ?_
    rintro e v0 ⟨rfl, rfl⟩
    go_wp2_with fail
    refine (awakeS_any _).mono ?_
    rintro e w9 ⟨rfl, hx9⟩
    go_wp2_with fail
    go_ret
    exact ⟨rfl, hx9⟩
  ·have HM := muchS_any 12 ao cap L w hr hok hm (by omega)
   rw [if_pos (by omega)] at HM
   clear hr hok
   have i1 : ¬ (80 : Int) < (s.size : Int) := by omega
   have i2 : decide ((80 : Int) < (s.size : Int)) = false := decide_eq_false i1
   have HM' := Lib.hid HM
   clear HM
   go_enter Tryz.func9, Tryz.ntmps9
   go_wp2_with fail
   refine HM'.out.mono ?_
   rintro e v0 ⟨rfl, rfl⟩
   go_wp2_with fail
   refine (awakeS_any _).mono ?_
   rintro e w9 ⟨rfl, hx9⟩
   go_wp2_with fail
   go_ret
   exact ⟨rfl, hx9⟩
 ·have i1 : (80 : Int) < (s.size : Int) := by omega
  have i2 : decide ((80 : Int) < (s.size : Int)) = true := decide_eq_true i1
  clear hr hok
  go_enter Tryz.func9, Tryz.ntmps9
  go_wp2_with fail
  refine (awakeS_any _).mono ?_
  rintro e w1 ⟨rfl, hx⟩
  go_wp2_with fail
  go_ret
  exact ⟨rfl, hx⟩
end Go.Proofs.YthlmgoagnfkhdaaGreat

/- The document's Apart of stretches; of edits: spans, Ranged, One, Move. Conditions: at most 1000 edits, each in a text of at most 65536 bytes, of at most 100000 bytes. -/
import Derived.Test.YthlmgoagnfkhdaaGreatGimG24
import Derived.Test.YthlmgoagnfkhdaaGreatGimG11
import Derived.Test.YthlmgoagnfkhdaaGreatGimG08
import Derived.Test.YthlmgoagnfkhdaaGreatGimG02
import Derived.Lib.SmallJoins
set_option maxHeartbeats 6400000
set_option maxRecDepth 1000000
set_option linter.unusedVariables false
set_option linter.unusedSimpArgs false
namespace Go.Gim
def rangedE (n : Int) (es : List Ed) : Int := if es.all (fun e => mayS (edS e) n) then (if apartB (es.map edS) then 0 else 5) else 3
theorem rangedE_no {n : Int} {es : List Ed} {i : Nat} {e : Ed} (hi : es[i]? = some e) (h : mayS (edS e) n = false) : rangedE n es = 3 := by
 unfold rangedE
 rw [if_neg]
 intro ha
 rw [List.all_eq_true.1 ha e (List.mem_of_getElem? hi)] at h
 cases h
theorem rangedE_yes {n : Int} {es : List Ed} (h : ∀ (i : Nat) (e : Ed), i < es.length → es[i]? = some e → mayS (edS e) n = true) : rangedE n es = if apartB (es.map edS) then 0 else 5 := by
 unfold rangedE
 rw [if_pos]
 refine List.all_eq_true.2 fun e he => ?_
 obtain ⟨i, hi, rfl⟩ := List.getElem_of_mem he
 exact h i _ hi (List.getElem?_eq_getElem hi)
end Go.Gim
namespace Go.Proofs.YthlmgoagnfkhdaaGreat
open Go.RowKit Go.Gim
theorem rfApart_any (ao : Option Addr) (cap : Nat) (l : List (Int × Int)) (w : World) (hr : Reads w 2 ao l.length (prE.cells l)) (hn : l.length ≤ 1000) :
  Calls Tryz.prog 159 #[.slice ao l.length cap] w fun e w' => e = .returned (.bool (apartB l)) ∧ Ext w w' := by
 have Hs := Lib.hid (refSortSp_any ao cap l w hr hn)
 have Hyes := Lib.hid (apartB_yes (l := l))
 have Hno := Lib.hid (fun i hi h => apartB_no (l := l) (i := i) hi h)
 have Hsl := Lib.hid (sorted_length lessB l)
 have Hri := Lib.hid (sortedB_rises l)
 generalize sorted lessB l = S at *
 generalize apartB l = B at *
 obtain ⟨N, hN⟩ : ∃ N, N = l.length := ⟨_, rfl⟩
 rw [← hN] at hn Hyes Hno Hsl Hs ⊢
 clear hr hN
 go_enter Tryz.func159, Tryz.ntmps159
 go_wp2_with fail
 refine Hs.out.mono ?_
 rintro e w1 ⟨v, rfl, hown, -, hx2⟩
 obtain ⟨a1, c1, rfl, hrd⟩ := Enc.owns_reads (E := prE) hown
 have Hrd := Lib.hid hrd
 clear hown Hs hrd
 go_wp2_with fail
 go_loopw [4] (fun s4 wr => ∃ k : Nat, k ≤ N ∧ s4 = .int .i64 k ∧ Hid (Reads wr 2 a1 N (prE.cells S) ∧ ∀ i, i < k → okAt S i = true) ∧ Ext w wr) (fun s4 _ => N - (intOf s4).toNat)
 case atStart => exact ⟨0, by omega, rfl, Lib.hid ⟨Hrd.out, fun i hi => absurd hi (Nat.not_lt_zero i)⟩, hx2⟩
 case round =>
  clear Hrd hx2
  obtain ⟨k, hk, rfl, HK, hx⟩ := hrel
  by_cases hlt : k < N
  ·have hlt' : (k : Int) < (N : Int) := by omega
   have hk0 : (0 : Int) ≤ (k : Int) := by omega
   obtain ⟨b, off, rfl⟩ := HK.out.1.some (by omega)
   have hkS : S[k]? = some (S[k]'(by rw [Hsl.out]; exact hlt)) := List.getElem?_eq_getElem _
   obtain ⟨c0, c1'⟩ := rdSp_at HK.out.1 hkS
   have hok := okAt_is hkS
   have hkx := List.getElem?_eq_getElem (l := S) (i := k) (by rw [Hsl.out]; exact hlt)
   generalize S[k]'(by rw [Hsl.out]; exact hlt) = x at *
   have Hok := Lib.hid hok
   have Hk := Lib.hid hlt
   have Hkx := Lib.hid hkx
   clear hok hkS hkx
   by_cases h1 : x.2 < x.1
   ·have Hb := Lib.hid (Hno.out k hlt (by rw [Hok.out, decide_eq_true h1]; rfl))
    go_wp2_with fail
    go_quiet (fail)
    go_wp2_with fail
    go_ret
    exact ⟨ret_bool Hb.out.symm, hx.drewN _⟩
   ·have b1 : decide (x.2 < x.1) = false := decide_eq_false h1
    cases k with
    | zero =>
     have b2 : decide ((0 : Int) < 0) = false := rfl
     simp only [Nat.zero_mul, Nat.add_zero] at c0 c1'
     have Ho := Lib.hid (show okAt S 0 = true by rw [Hok.out, b1]; rfl)
     go_wp2_with fail
     go_quiet (fail)
     go_wp2_with fail
     go_quiet (fail)
     go_wp2_with fail
     go_roundw
     case rel => exact ⟨1, by omega, by go_num, Lib.hid ⟨HK.out.1.mod ((Mod.refl (fun _ => False) _).drewN _) (fun _ _ f => f), fun i hi => (show i = 0 by omega) ▸ Ho.out⟩, hx.drewN _⟩
     case measure => simp [intOf]; omega
    | succ j =>
     have hjS : S[j]? = some (S[j]'(by rw [Hsl.out]; omega)) := List.getElem?_eq_getElem _
     obtain ⟨d0, d1⟩ := rdSp_at HK.out.1 hjS
     have hok2 : okAt S (j + 1) = (!decide (x.2 < x.1) && apart1 x (some (S[j]'(by rw [Hsl.out]; omega)))) := by rw [Hok.out]; show (_ && apart1 x S[j]?) = _; rw [hjS]
     have hle : leB (S[j]'(by rw [Hsl.out]; omega)) x := by
      have h5 := List.pairwise_iff_getElem.1 Hri.out j (j + 1) (by rw [Hsl.out]; omega) (by rw [Hsl.out]; omega) (by omega)
      have h6 := Hkx.out
      rw [List.getElem?_eq_getElem (by rw [Hsl.out]; omega)] at h6
      rw [Option.some.inj h6] at h5
      exact h5
     generalize S[j]'(by rw [Hsl.out]; omega) = y at *
     rw [b1] at hok2
     unfold leB at hle
     have b2 : decide ((0 : Int) < (j : Int) + 1) = true := decide_eq_true (by omega)
     have e2 : IntKind.i64.wrap ((j : Int) + 1 - 1) = (j : Int) := by rw [show (j : Int) + 1 - 1 = j from by omega]; exact IntWalk.i64_in _ (by omega)
     have e3 : (0 : Int) ≤ (j : Int) := by omega
     have e4 : (j : Int) < (N : Int) := by omega
     have e5 : (j : Int) ≤ 1000 := by omega
     by_cases h2 : x.1 ≤ y.1
     ·have b4 : decide (x.1 ≤ y.1) = true := decide_eq_true h2
      have Hb := Lib.hid (Hno.out (j + 1) hlt (by rw [hok2]; show (!false && !(decide (x.1 = y.1) || decide (x.1 < y.2))) = _; rw [decide_eq_true (show x.1 = y.1 by omega)]; rfl))
      clear hok2 hjS Hok hle Hkx
      go_wp2_with fail
      go_quiet (fail)
      go_wp2_with fail
      go_quiet (fail)
      go_wp2_with fail
      go_ret
      exact ⟨ret_bool Hb.out.symm, (hx.drewN _).drewN _⟩
     ·have b4 : decide (x.1 ≤ y.1) = false := decide_eq_false h2
      by_cases h3 : x.1 < y.2
      ·have b3 : decide (x.1 < y.2) = true := decide_eq_true h3
       have Hb := Lib.hid (Hno.out (j + 1) hlt (by rw [hok2]; show (!false && !(decide (x.1 = y.1) || decide (x.1 < y.2))) = _; rw [b3, Bool.or_true]; rfl))
       clear hok2 hjS Hok hle Hkx
       go_wp2_with fail
       go_quiet (fail)
       go_wp2_with fail
       go_quiet (fail)
       go_wp2_with fail
       go_ret
       exact ⟨ret_bool Hb.out.symm, (hx.drewN _).drewN _⟩
      ·have b3 : decide (x.1 < y.2) = false := decide_eq_false h3
       have Ho := Lib.hid (show okAt S (j + 1) = true by rw [hok2]; show (!false && !(decide (x.1 = y.1) || decide (x.1 < y.2))) = _; rw [b3, decide_eq_false (show ¬ x.1 = y.1 by omega)]; rfl)
       clear hok2 hjS Hok hle Hkx
       go_wp2_with fail
       go_quiet (fail)
       go_wp2_with fail
       go_quiet (fail)
       go_wp2_with fail
       go_roundw
       case rel =>
        refine ⟨j + 2, by have := Hk.out; omega, by go_num, Lib.hid ⟨HK.out.1.mod ((Mod.refl (fun _ => False) _).drewN _) (fun _ _ f => f), fun i hi => ?_⟩, hx.drewN _⟩
        by_cases e : i = j + 1
        ·rw [e]; exact Ho.out
        ·exact HK.out.2 i (by omega)
       case measure => simp [intOf]; omega
  ·have hlt' : ¬ (k : Int) < (N : Int) := by omega
   obtain rfl : k = N := by omega
   have Hb := Lib.hid (Hyes.out HK.out.2)
   go_wp2_with fail
   go_ret
   exact ⟨ret_bool Hb.out.symm, hx⟩
theorem rfSpans_any (ao : Option Addr) (cap : Nat) (l : List Ed) (w : World) (hr : Reads w 3 ao l.length (edE.cells l)) (hn : l.length ≤ 1000) :
  Calls Tryz.prog 160 #[.slice ao l.length cap] w fun e w' => ∃ v, e = .returned v ∧ w'.ownsRow w.heap.size 49 2 v l.length (prE.cells (l.map edS)) ∧ Ext w w' := by
 have hl1 : maxLen = 9223372036854775807 := rfl
 have Hr := Lib.hid hr
 obtain ⟨N, hN⟩ : ∃ N, N = l.length := ⟨_, rfl⟩
 have HN := Lib.hid hN
 rw [← hN] at hn ⊢
 clear hr hN
 go_enter Tryz.func160, Tryz.ntmps160
 go_wp2_with fail
 go_loopw [3, 4] (fun v i wr => ∃ k : Nat, k ≤ N ∧ i = .int .i64 k ∧ Hid (wr.ownsRow w.heap.size 49 2 v k (prE.cells ((l.map edS).take k))) ∧ Ext w wr) (fun _ i _ => N - (intOf i).toNat)
 case atStart => exact ⟨0, by omega, rfl, Lib.hid (World.ownsRow_nil _ _ _ _), Mod.refl _ _⟩
 case round =>
  obtain ⟨k, hk, rfl, HO, hx⟩ := hrel
  by_cases hlt : k < N
  ·have hlt' : (k : Int) < (N : Int) := by omega
   have hk0 : (0 : Int) ≤ (k : Int) := by omega
   obtain ⟨b, off, rfl⟩ := Hr.out.some (by have := HN.out; omega)
   have hlk : k < l.length := by rw [← HN.out]; exact hlt
   obtain ⟨c0, c1, c2⟩ := rdEd_at (Hr.out.mod hx (fun _ _ f => f)) (List.getElem?_eq_getElem hlk)
   have Hts := Lib.hid (show (l.map edS).take (k + 1) = (l.map edS).take k ++ [edS l[k]] by rw [List.take_succ_eq_append_getElem (by simpa using hlk)]; simp)
   generalize l[k] = x at *
   have Hlt := Lib.hid hlt
   clear hlk
   go_wp2_with (at_builtin; refine wpList_append_reads rfl _ _ 114 rfl w.heap.size 49 _ 2 16 Tryz.info49 Tryz.underlying114 rfl (by decide) _ k _ rfl (HO.out.alloc _) _ 1 1 [.int .i64 x.a, .int .i64 x.b] rfl ?hrd (prE.one (x.a, x.b)) (by omega) (by omega) ?hbs ?_)
   case hrd =>
    have := Reads.new wr 49 #[.int .i64 x.a, .int .i64 x.b] 2 1 rfl
    simpa using this
   case hbs => have := hx.size; simp; omega
   intro v' w4 hown hm4 hbk
   have hx4 := (hx.alloc _).over hm4 (fun i hi => (HO.out.lt i hi).1)
   have Hown := Lib.hid hown
   clear hm4 hbk hown c0 c1 c2
   go_wp2_with fail
   go_roundw
   case rel => exact ⟨k + 1, Hlt.out, by go_num, Lib.hid (by rw [Hts.out, prE.cells_append]; exact Hown.out), hx4⟩
   case measure => have := Hlt.out; simp [intOf]; omega
  ·have hlt' : ¬ (k : Int) < (N : Int) := by omega
   obtain rfl : k = N := by omega
   have hS := HO.out
   rw [List.take_of_length_le (by rw [List.length_map, ← HN.out]; exact Nat.le_refl _)] at hS
   have HS0 := Lib.hid hS
   clear hS HO
   go_wp2_with fail
   go_ret
   exact ⟨_, rfl, HS0.out, hx⟩
theorem rfRanged_any (n : Int) (ao : Option Addr) (cap : Nat) (l : List Ed) (w : World) (hr : Reads w 3 ao l.length (edE.cells l)) (hn : l.length ≤ 1000) :
  Calls Tryz.prog 124 #[.int .i64 n, .slice ao l.length cap] w fun e w' => e = .returned (.int .i64 (rangedE n l)) ∧ Ext w w' := by
 have Hno := Lib.hid (fun i e hi h => rangedE_no (n := n) (es := l) (i := i) (e := e) hi h)
 have Hyes := Lib.hid (rangedE_yes (n := n) (es := l))
 have HSp := Lib.hid (fun w' h => rfSpans_any ao cap l w' h hn)
 have HAp := Lib.hid (fun a c w' h => rfApart_any a c (l.map edS) w' h (by rw [List.length_map]; exact hn))
 rw [List.length_map] at HAp
 have Hr := Lib.hid hr
 obtain ⟨N, hN⟩ : ∃ N, N = l.length := ⟨_, rfl⟩
 have HN := Lib.hid hN
 rw [← hN] at hn HSp HAp Hyes ⊢
 generalize rangedE n l = C at *
 clear hr hN
 go_enter Tryz.func124, Tryz.ntmps124
 go_wp2_with fail
 go_loopw [5] (fun i wr => ∃ k : Nat, k ≤ N ∧ i = .int .i64 k ∧ Hid (∀ (j : Nat) (e : Ed), j < k → l[j]? = some e → mayS (edS e) n = true) ∧ Ext w wr) (fun i _ => N - (intOf i).toNat)
 case atStart => exact ⟨0, by omega, rfl, Lib.hid (fun j e hj => absurd hj (Nat.not_lt_zero j)), Mod.refl _ _⟩
 case round =>
  obtain ⟨k, hk, rfl, HO, hx⟩ := hrel
  by_cases hlt : k < N
  ·have hlt' : (k : Int) < (N : Int) := by omega
   have hk0 : (0 : Int) ≤ (k : Int) := by omega
   obtain ⟨b, off, rfl⟩ := Hr.out.some (by have := HN.out; omega)
   have hlk : k < l.length := by rw [← HN.out]; exact hlt
   obtain ⟨c0, c1, c2⟩ := rdEd_at (Hr.out.mod hx (fun _ _ f => f)) (List.getElem?_eq_getElem hlk)
   have Hlx := Lib.hid (List.getElem?_eq_getElem hlk)
   generalize l[k] = x at *
   have Hlt := Lib.hid hlt
   have Hm := Lib.hid (fun w' => rfMay_any (edS x) n w')
   clear hlk
   cases hm : mayS (edS x) n with
   | false =>
    have HC := Lib.hid (Hno.out k x Hlx.out hm)
    rw [hm] at Hm
    go_wp2_with fail
    refine (Hm.out _).mono ?_
    rintro e w2 ⟨rfl, hx2⟩
    go_wp2_with fail
    go_ret
    exact ⟨ret_int HC.out.symm, hx.ext_trans hx2⟩
   | true =>
    rw [hm] at Hm
    have Hmay := Lib.hid hm
    clear hm
    go_wp2_with fail
    refine (Hm.out _).mono ?_
    rintro e w2 ⟨rfl, hx2⟩
    go_wp2_with fail
    go_roundw
    case rel =>
     refine ⟨k + 1, Hlt.out, by go_num, Lib.hid (fun j e hj he => ?_), hx.ext_trans hx2⟩
     by_cases hjk : j = k
     ·subst hjk
      rw [Hlx.out] at he
      cases he; exact Hmay.out
     ·exact HO.out j e (by omega) he
    case measure => have := Hlt.out; simp [intOf]; omega
  ·have hlt' : ¬ (k : Int) < (N : Int) := by omega
   obtain rfl : k = N := by omega
   have HC := Lib.hid (Hyes.out HO.out)
   have Hrr := Lib.hid (Hr.out.mod hx (fun _ _ f => f))
   rw [← HN.out] at Hrr
   clear HO
   go_wp2_with fail
   refine (HSp.out _ Hrr.out).mono ?_
   rintro e w2 ⟨v, rfl, hov, hx2⟩
   obtain ⟨a1, c1, rfl, hrd⟩ := Enc.owns_reads (E := prE) hov
   have Hrd := Lib.hid hrd
   clear hov hrd
   go_wp2_with fail
   refine (HAp.out a1 c1 w2 Hrd.out).mono ?_
   rintro e w3 ⟨rfl, hx3⟩
   cases hap : apartB (l.map edS) with
   | true =>
    rw [hap] at HC
    go_wp2_with fail
    go_ret
    exact ⟨by rw [HC.out]; rfl, (hx.ext_trans hx2).ext_trans hx3⟩
   | false =>
    rw [hap] at HC
    go_wp2_with fail
    go_ret
    exact ⟨by rw [HC.out]; rfl, (hx.ext_trans hx2).ext_trans hx3⟩
theorem rfOne_any (o : Int) (right : Bool) (e : Ed) (w : World) (he : EdOk e) (h0 : 0 ≤ o) (h1 : o ≤ 10000000000) :
  Calls Tryz.prog 161 #[.int .i64 o, .bool right, .agg #[.int .i64 e.a, .int .i64 e.b, .string e.t]] w fun r w' => r = .returned (.int .i64 (oneE right o e)) ∧ Ext w w' := by
 obtain ⟨a, b, t⟩ := e
 obtain ⟨e1, e2, e3, e4⟩ := he
 simp only at e1 e2 e3 e4
 unfold oneE
 simp only
 by_cases c1 : o < a
 ·rw [if_pos c1]
  go_enter Tryz.func161, Tryz.ntmps161
  go_wp2_with fail
  go_ret
  exact ⟨rfl, (Mod.refl _ w).alloc _⟩
 ·rw [if_neg c1]
  by_cases c2 : b < o
  ·rw [if_pos c2]
   go_enter Tryz.func161, Tryz.ntmps161
   go_wp2_with fail
   go_ret
   exact ⟨ret_int (by omega), (Mod.refl _ w).alloc _⟩
  ·rw [if_neg c2]
   cases right with
   | true =>
    show Calls _ _ _ _ fun r w' => r = .returned (.int .i64 (a + t.size)) ∧ Ext w w'
    go_enter Tryz.func161, Tryz.ntmps161
    go_wp2_with fail
    go_ret
    exact ⟨rfl, (Mod.refl _ w).alloc _⟩
   | false =>
    show Calls _ _ _ _ fun r w' => r = .returned (.int .i64 a) ∧ Ext w w'
    go_enter Tryz.func161, Tryz.ntmps161
    go_wp2_with fail
    go_ret
    exact ⟨rfl, (Mod.refl _ w).alloc _⟩
theorem rfMove_any (right : Bool) (o : Int) (ao : Option Addr) (cap : Nat) (l : List Ed) (w : World) (hr : Reads w 3 ao l.length (edE.cells l)) (hn : l.length ≤ 1000) (hok : ∀ e ∈ l, EdOk e) (ho0 : 0 ≤ o) (ho1 : o ≤ 1000000000) :
  Calls Tryz.prog 125 #[.int .i64 o, .bool right, .slice ao l.length cap] w fun e w' => e = .returned (.int .i64 (moveE right l o)) ∧ Ext w w' := by
 have Hs := Lib.hid (refSortEd_any ao cap l w hr hn)
 have HSok := Lib.hid (fun e (he : e ∈ sorted lessE l) => hok e ((sorted_mem lessE l e).1 he))
 have HSl := Lib.hid (sorted_length lessE l)
 unfold moveE
 generalize sorted lessE l = S at *
 obtain ⟨N, hN⟩ : ∃ N, N = l.length := ⟨_, rfl⟩
 rw [← hN] at hn HSl Hs ⊢
 clear hr hN hok
 obtain ⟨Z, hZ⟩ : ∃ Z, S.reverse.foldl (oneE right) o = Z := ⟨_, rfl⟩
 rw [hZ]
 have HZ := Lib.hid hZ
 clear hZ
 go_enter Tryz.func125, Tryz.ntmps125
 go_wp2_with fail
 refine Hs.out.mono ?_
 rintro e w1 ⟨v, rfl, hov, -, hx1⟩
 obtain ⟨a1, c1, rfl, hrd⟩ := Enc.owns_reads (E := edE) hov
 have Hrd := Lib.hid hrd
 clear hov hrd Hs
 go_wp2_with fail
 go_loopw [0, 8] (fun s0 s8 wr => ∃ (k : Nat) (q : Int), k ≤ N ∧ s0 = .int .i64 q ∧ s8 = .int .i64 ((N : Int) - 1 - k) ∧ 0 ≤ q ∧ q ≤ 1000000000 + k * 100000 ∧ Hid (Reads wr 3 a1 N (edE.cells S) ∧ (S.reverse.take k).foldl (oneE right) o = q) ∧ Ext w wr) (fun _ s8 _ => ((intOf s8) + 1).toNat)
 case atStart => exact ⟨0, o, by omega, rfl, by go_num, ho0, by omega, Lib.hid ⟨Hrd.out, rfl⟩, hx1⟩
 case round =>
  clear Hrd hx1
  obtain ⟨k, q, hk, rfl, rfl, hq0, hq1, HK, hx⟩ := hrel
  by_cases hlt : k < N
  ·obtain ⟨m, hm⟩ : ∃ m : Nat, m = N - 1 - k := ⟨_, rfl⟩
   have hms : (N : Int) - 1 - k = (m : Int) := by omega
   have hm0 : (0 : Int) ≤ (m : Int) := by omega
   have hmN : (m : Int) < (N : Int) := by omega
   have hm1 : (m : Int) ≤ 1000 := by omega
   obtain ⟨b, off, rfl⟩ := HK.out.1.some (by omega)
   have hmS : S[m]? = some (S[m]'(by rw [HSl.out]; omega)) := List.getElem?_eq_getElem _
   have hkR : S.reverse[k]? = some (S[m]'(by rw [HSl.out]; omega)) := by
    have e : S.length - 1 - k = m := by rw [HSl.out, hm]
    rw [List.getElem?_reverse (by rw [HSl.out]; exact hlt), e]; exact hmS
   obtain ⟨c0, c1, c2⟩ := rdEd_at HK.out.1 hmS
   have hst := fold_step (oneE right) o hkR
   rw [HK.out.2] at hst
   have hxo := HSok.out _ (List.mem_of_getElem? hmS)
   have hbd := oneE_bd (right := right) hxo hq0 hq1 (by omega)
   generalize S[m]'(by rw [HSl.out]; omega) = x at *
   have Hst := Lib.hid hst
   have Hbd := Lib.hid hbd
   have HL := Lib.hid (fun w' => rfOne_any q right x w' hxo hq0 (by omega))
   have Hlt := Lib.hid hlt
   have Hms := Lib.hid hms
   rw [hms]
   clear hst hkR hbd hxo hmS hm hms
   go_wp2_with fail
   refine (HL.out _).mono ?_
   rintro e w3 ⟨rfl, hx3⟩
   go_wp2_with fail
   go_roundw
   case rel => exact ⟨k + 1, _, Hlt.out, rfl, by have := Hms.out; go_num, Hbd.out.1, by have := Hbd.out.2; omega, Lib.hid ⟨HK.out.1.mod hx3 (fun _ _ f => f), Hst.out⟩, hx.ext_trans hx3⟩
   case measure => have := Hms.out; have := Hlt.out; simp [intOf] <;> omega
  ·obtain rfl : k = N := by omega
   have hZ := HK.out.2
   rw [List.take_of_length_le (by rw [List.length_reverse, HSl.out]; exact Nat.le_refl _), HZ.out] at hZ
   subst hZ
   rw [show (k : Int) - 1 - k = -1 by omega]
   go_wp2_with fail
   go_ret
   exact ⟨rfl, hx⟩
end Go.Proofs.YthlmgoagnfkhdaaGreat
namespace Go.Gim
open Go Go.RowKit
structure Dm where
 k : Int
 a : Int
 b : Int
 c : Int
 p : Bool
 q : Bool
 ao : Option Addr
 cap : Nat
 es : List Ed
structure DmOk (w : World) (x : Dm) : Prop where
 rd : Reads w 3 x.ao x.es.length (edE.cells x.es)
 len : x.es.length ≤ maxLen
 ed : ∀ e ∈ x.es, e.t.size ≤ maxLen ∧ (Lit.int .i64 e.a).wf = true ∧ (Lit.int .i64 e.b).wf = true
 wa : (Lit.int .i64 x.a).wf = true
 wb : (Lit.int .i64 x.b).wf = true
 wc : (Lit.int .i64 x.c).wf = true
theorem DmOk.ext {w w' : World} {x : Dm} (h : DmOk w x) (hm : Ext w w') : DmOk w' x := ⟨h.rd.mod hm (fun _ _ f => f), h.len, h.ed, h.wa, h.wb, h.wc⟩
def muchE (n : Int) : List Ed → Bool
 | [] => false
 | x :: r => if n < x.t.size then true else muchE (n - x.t.size) r
def MuchB (many n : Int) (es : List Ed) : Bool := if many < es.length then true else muchE n es
theorem muchE_no : ∀ (l : List Ed) (n : Int), muchE n l = false → ∀ e ∈ l, (e.t.size : Int) ≤ n := by
 intro l
 induction l with
 | nil => intro n _ e he; cases he
 | cons x r ih =>
  intro n h e he
  simp only [muchE] at h
  split at h
  ·cases h
  ·rcases List.mem_cons.1 he with rfl | he
   ·omega
   ·have := ih _ h e he; omega
theorem array7 {α : Type} {cs : Array α} (h : cs.size = 7) : ∃ c0 c1 c2 c3 c4 c5 c6, cs = #[c0, c1, c2, c3, c4, c5, c6] := by
 obtain ⟨l⟩ := cs
 match l, h with
 | [c0, c1, c2, c3, c4, c5, c6], _ => exact ⟨c0, c1, c2, c3, c4, c5, c6, rfl⟩
end Go.Gim
namespace Go.Proofs.YthlmgoagnfkhdaaGreat
open Go.ChangeShapes Go.WideShapes Go.ChangeAt Go.RowKit Go.Gim
theorem open_slice_in {H : Type} {enc : TypeId × Value → H} {P : Program} {W : World} {t e : TypeId} {cs : List Value} {fuel : Nat} {y : DataW H × List MemPlace} (sz : Nat) (ht : P.underlying t = some (.slice e)) (hc : P.cellsOf e = sz) (hsz : 0 < sz)
  (hf : DataW.trod enc P W 0 (fun _ => true) true fuel t cs = some y) :
  ∃ (ao : Option Addr) (cap : Nat) (els : List (List Value)), cs = [.slice ao els.length cap] ∧ Reads W sz ao els.length els.flatten ∧ els.length ≤ maxLen ∧
   ∀ el ∈ els, el.length = sz ∧ ∃ n x, DataW.trod enc P W 0 (fun _ => true) true n e el = some x := by
 rcases Go.Deep.open_slice ht hf with ⟨hcs, _⟩ | ⟨a, len', cap', m, n, D, Pl, hcs, _, hl, hm, hmm, _, hx⟩
 ·subst hcs
  exact ⟨none, 0, [], rfl, ⟨by simp, fun h => absurd h (Nat.lt_irrefl _)⟩, Nat.zero_le _, by simp⟩
 ·subst hcs
  simp only [if_true] at hmm
  subst hmm
  obtain ⟨C, hC⟩ := Go.Deep.choose_lt (α := List Value) (p := fun i cs' => W.cells? 0 (a.add (i * P.cellsOf e)) (P.cellsOf e) = some cs' ∧ DataW.trod enc P W 0 (fun _ => true) true n e cs' = some (D i, Pl i)) hx
  rw [hc] at hC
  have hlen : ∀ el ∈ (List.range len').map C, el.length = sz := by
   intro el hel
   obtain ⟨i, hi, rfl⟩ := List.mem_map.1 hel
   have := (World.cells?_some (hC i (by simp at hi; omega)).1).2.1
   exact this
  have hn : ((List.range len').map C).length = len' := by simp
  refine ⟨some a, m, (List.range len').map C, by rw [hn], ⟨flatten_len sz _ hlen, fun h0 => ?_⟩, by omega, fun el hel => ⟨hlen el hel, ?_⟩⟩
  ·obtain ⟨b, off, spot⟩ := a
   have h00 := (World.cells?_some (hC 0 (by rw [hn] at h0; omega)).1).2.2 0 hsz
   have hl0 := (World.cells?_some (hC 0 (by rw [hn] at h0; omega)).1).2.1
   have hspot : spot = none := by
    rw [Nat.zero_mul] at h00
    have h01 : W.cell? ⟨b, off, spot⟩ = some ((C 0)[0]'(by omega)) := by
     have h02 : ((⟨b, off, spot⟩ : Addr).add 0).add 0 = ⟨b, off, spot⟩ := by simp [Addr.add]
     rw [h02] at h00
     rw [h00]; exact List.getElem?_eq_getElem _
    exact World.cell?_spot h01
   subst hspot
   refine ⟨b, off, rfl, fun j hj => ?_⟩
   rw [flatten_at sz hsz _ _ hlen]
   rw [flatten_len sz _ hlen, hn] at hj
   have hjd : j / sz < len' := (Nat.div_lt_iff_lt_mul hsz).2 hj
   have hcj := (World.cells?_some (hC (j / sz) (by omega)).1).2.2 (j % sz) (Nat.mod_lt _ hsz)
   rw [WideShapes.add_plain, WideShapes.add_plain, Nat.add_assoc, Nat.mul_comm, Nat.div_add_mod] at hcj
   rw [hcj]
   simp [hjd]
  ·obtain ⟨i, hi, rfl⟩ := List.mem_map.1 hel
   exact ⟨n, _, (hC i (by simp at hi; omega)).2⟩
theorem open_edits_in {H : Type} {enc : TypeId × Value → H} {P : Program} {W : World} {t e sp : TypeId} {f0 f1 g0 g1 : Field} {cs : List Value} {fuel : Nat} {y : DataW H × List MemPlace} (ht : P.underlying t = some (.slice e)) (he : P.underlying e = some (.struct #[f0, f1])) (hc : P.cellsOf e = 3)
  (hs : P.underlying sp = some (.struct #[g0, g1])) (t0 : f0.type = sp ∧ f0.offset = 0 ∧ P.cellsOf sp = 2) (o1 : f1.offset = 2 ∧ P.cellsOf f1.type = 1) (p0 : g0.offset = 0 ∧ P.cellsOf g0.type = 1) (p1 : g1.offset = 1 ∧ P.cellsOf g1.type = 1)
  (u0 : P.underlying g0.type = some (.int .i64)) (u1 : P.underlying g1.type = some (.int .i64)) (u2 : P.underlying f1.type = some .string)
  (hf : DataW.trod enc P W 0 (fun _ => true) true fuel t cs = some y) :
  ∃ (ao : Option Addr) (cap : Nat) (es : List Ed), cs = [.slice ao es.length cap] ∧ Reads W 3 ao es.length (edE.cells es) ∧ es.length ≤ maxLen ∧ ∀ e ∈ es, e.t.size ≤ maxLen ∧ (Lit.int .i64 e.a).wf = true ∧ (Lit.int .i64 e.b).wf = true := by
 obtain ⟨ao, cap, els, rfl, hr, hm, hel⟩ := open_slice_in (enc := enc) 3 ht hc (by omega) hf
 obtain ⟨L, rfl, hq⟩ := list_choose edE.f (fun e => e.t.size ≤ maxLen ∧ (Lit.int .i64 e.a).wf = true ∧ (Lit.int .i64 e.b).wf = true) els (fun el h => by
  obtain ⟨hl, n, x, hx⟩ := hel el h
  obtain ⟨y0, y1, m, _, _, h0, h1⟩ := trod_struct2 he hx
  obtain ⟨c0, c1, c2, hcs⟩ := Go.Joins.array3 (cs := el.toArray) (by simpa using hl)
  have hcs : el = [c0, c1, c2] := by simpa using congrArg Array.toList hcs
  subst hcs
  rw [t0.2.1, t0.1, t0.2.2] at h0
  rw [o1.1, o1.2] at h1
  simp at h0 h1
  obtain ⟨z0, z1, m2, _, _, k0, k1⟩ := trod_struct2 hs h0
  rw [p0.1, p0.2] at k0
  rw [p1.1, p1.2] at k1
  simp at k0 k1
  obtain ⟨a0, e0, _, l0⟩ := DataW.trod_int u0 k0
  obtain ⟨a1, e1, _, l1⟩ := DataW.trod_int u1 k1
  obtain ⟨a2, e2, _, l2⟩ := DataW.trod_string u2 h1
  simp at e0 e1 e2
  subst e0 e1 e2
  exact ⟨⟨a0, a1, a2⟩, rfl, l2, l0, l1⟩)
 rw [show (L.map edE.f).flatten = edE.cells L from rfl, List.length_map] at hr
 rw [List.length_map] at hm ⊢
 exact ⟨ao, cap, L, rfl, hr, hm, hq⟩
theorem MuchE_any (many n : Int) (ao : Option Addr) (cap : Nat) (L : List Ed) (w : World) (hr : Reads w 3 ao L.length (edE.cells L)) (hn : L.length ≤ maxLen) (hm : many ≤ 100) (h0 : 0 ≤ n) (h1 : n ≤ 1000000) :
  Calls Tryz.prog 27 #[.int .i64 many, .int .i64 n, .slice ao L.length cap] w fun e w' => e = .returned (.bool (MuchB many n L)) ∧ w' = w := by
 unfold maxLen at hn
 by_cases hmm : many < (L.length : Int)
 ·unfold MuchB
  rw [if_pos hmm]
  clear hr
  go_enter Tryz.func27, Tryz.ntmps27
  go_wp2_with fail
  go_ret
  exact ⟨rfl, rfl⟩
 ·unfold MuchB
  rw [if_neg hmm]
  have hn2 : L.length ≤ 100 := by omega
  generalize hX : muchE n L = X
  have HX := Lib.hid hX
  have Hr := Lib.hid hr
  clear hX hr
  go_enter Tryz.func27, Tryz.ntmps27
  go_wp2_with fail
  go_loop [1, 7] (fun s1 s2 => ∃ (k : Nat) (m : Int), k ≤ L.length ∧ 0 ≤ m ∧ m ≤ 1000000 ∧ s2 = .int .i64 k ∧ s1 = .int .i64 m ∧ Hid (muchE m (L.drop k) = X)) (fun _ s2 => L.length - (intOf s2).toNat)
  case atStart => exact ⟨0, n, by omega, h0, h1, rfl, rfl, HX⟩
  case round =>
   obtain ⟨k, m, hk, m0, m1, rfl, rfl, HM⟩ := hrel
   by_cases hlt : k < L.length
   ·have hlt' : (k : Int) < (L.length : Int) := by omega
    have hk0 : (0 : Int) ≤ (k : Int) := by omega
    obtain ⟨b, off, rfl⟩ := Hr.out.some (by omega)
    obtain ⟨_, _, hc⟩ := reads_ed Hr.out (List.getElem?_eq_getElem hlt)
    have hd := List.drop_eq_getElem_cons hlt
    have hM := HM.out
    rw [hd] at hM
    generalize L[k] = y at *
    simp only [muchE] at hM
    generalize y.t = x at *
    by_cases hx : m < (x.size : Int)
    ·rw [if_pos hx] at hM
     have hM2 := Lib.hid hM
     clear hM hd
     go_wp2_with fail
     go_ret
     exact ⟨ret_bool hM2.out, rfl⟩
    ·rw [if_neg hx] at hM
     have hx' : decide (m < (x.size : Int)) = false := by simpa using hx
     have hM2 := Lib.hid hM
     clear hM hd
     go_wp2_with fail
     go_round
     case rel => exact ⟨k + 1, m - x.size, by omega, by omega, by omega, by go_num, rfl, hM2⟩
     case measure => simp [intOf]; omega
   ·have hlt' : ¬ (k : Int) < (L.length : Int) := by omega
    have hM := HM.out
    rw [List.drop_of_length_le (by omega)] at hM
    have HM2 := Lib.hid hM
    clear hM
    go_wp2_with fail
    go_ret
    exact ⟨ret_bool HM2.out, rfl⟩
end Go.Proofs.YthlmgoagnfkhdaaGreat

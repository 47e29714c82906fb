/- change.Sort, slices.Reverse at edits, change.Move: where edits lead an offset. Conditions: fewer than 20 edits, each in a text of at most 65536 bytes, of at most 100000. -/
import Derived.Test.YtffplppglicibaaGimSortEd
import Derived.Test.YtffplppglicibaaGimRevP
import Derived.Test.YtffplppglicibaaGimApart
namespace Go.Proofs.Ytffplppglicibaa
open Go.RowKit Go.Gim

set_option maxHeartbeats 1600000 in
set_option maxRecDepth 1000000 in
theorem revEd_any (g cap : Nat) (l : List Ed) (w : World) (hr : edE.Row w g 37 l) (hn : l.length ≤ 1000000) :
    Calls Try.prog 57 #[.slice (some ⟨g, 0, none⟩) l.length cap] w
      fun e w' => e = .returned (.tuple #[]) ∧ edE.Row w' g 37 l.reverse ∧ Mod (· = g) w w' := by
  have H0 := Lib.hid (show edE.Row w g 37 (revTo l 0) from hr)
  have Hall := Lib.hid (fun k h1 h2 => revTo_all l (k := k) h1 h2)
  have Hlen := Lib.hid (revTo_len l)
  have Hst := Lib.hid (fun k x y hx hy => revTo_step (l := l) (k := k) (x := x) (y := y) hx hy)
  generalize l.reverse = L' at *
  generalize hF : revTo l = F at *
  obtain ⟨N, hN⟩ : ∃ N, N = l.length := ⟨_, rfl⟩
  rw [← hN] at hn Hall Hlen Hst ⊢
  clear hr hN hF
  go_enter Try.func57, Try.ntmps57
  go_wp2_with fail
  go_loopw [2, 3] (fun s2 s3 wr => ∃ k : Nat, 2 * k ≤ N + 1 ∧ s2 = .int .i64 k ∧ s3 = .int .i64 ((N : Int) - 1 - k) ∧ Hid (2 * k ≤ N ∧ edE.Row wr g 37 (F k)) ∧ Mod (· = g) w wr) (fun s2 _ _ => N - (intOf s2).toNat)
  case atStart => exact ⟨0, by omega, rfl, by go_num, Lib.hid ⟨by omega, H0.out⟩, Mod.refl _ _⟩
  case round =>
    clear H0
    obtain ⟨k, hk, rfl, rfl, HK, hm⟩ := hrel
    by_cases hlt : (k : Int) < (N : Int) - 1 - k
    · have hk0 : (0 : Int) ≤ (k : Int) := by omega
      have hkN : (k : Int) < (N : Int) := by omega
      obtain ⟨m, hmk⟩ : ∃ m : Nat, m = N - 1 - k := ⟨_, rfl⟩
      have hms : (N : Int) - 1 - k = (m : Int) := by omega
      have hm0 : (0 : Int) ≤ (m : Int) := by omega
      have hmN : (m : Int) < (N : Int) := by omega
      have hmk2 : m ≠ k := by omega
      have hlt2 : (k : Int) < (m : Int) := by omega
      have hkx : (F k)[k]? = some ((F k)[k]'(by rw [Hlen.out]; omega)) := List.getElem?_eq_getElem _
      have hmx : (F k)[m]? = some ((F k)[m]'(by rw [Hlen.out]; omega)) := List.getElem?_eq_getElem _
      have hst := Hst.out k _ _ hkx (by rw [← hmk]; exact hmx)
      rw [← hmk] at hst
      obtain ⟨c0, c1, c2⟩ := EdRow_cell HK.out.2 hkx
      obtain ⟨c3, c4, c5⟩ := EdRow_cell HK.out.2 hmx
      have f0 := HK.out.2.free (k * 3)
      have f1 := HK.out.2.free (k * 3 + 1)
      have f2 := HK.out.2.free (k * 3 + 2)
      have f3 := HK.out.2.free (m * 3)
      have f4 := HK.out.2.free (m * 3 + 1)
      have f5 := HK.out.2.free (m * 3 + 2)
      have hgl := HK.out.2.lt
      generalize (F k)[k]'(by rw [Hlen.out]; omega) = X at *
      generalize (F k)[m]'(by rw [Hlen.out]; omega) = Y at *
      have hrow3 := EdRow_put (EdRow_put HK.out.2 hkx Y) (i := m) (x := Y) (by rw [List.getElem?_set_ne (by omega)]; exact hmx) X
      have Hrow3 := Lib.hid hrow3
      have Hst3 := Lib.hid hst
      have Hm := Lib.hid hmk
      have Hms := Lib.hid hms
      rw [hms]
      clear hrow3 hst hkx hmx hmk hms hlt
      go_wp2_with fail
      go_region
      clear c0 c1 c2 c3 c4 c5 f0 f1 f2 f3 f4 f5
      go_wp2_with fail
      go_roundw
      case rel =>
        refine ⟨k + 1, by have := Hm.out; omega, by go_num, by have := Hms.out; go_num, Lib.hid ⟨by have := Hm.out; omega, ?_⟩, ?_⟩
        · rw [Hst3.out]
          exact Hrow3.out.mod ((Mod.refl (fun _ => False) _).drew) (fun f => f)
        · exact ((((((hm.setCell (p := ⟨g, k * 3, none⟩) (fun _ => rfl) _).setCell (p := ⟨g, k * 3 + 1, none⟩) (fun _ => rfl) _).setCell (p := ⟨g, k * 3 + 2, none⟩) (fun _ => rfl) _).setCell (p := ⟨g, m * 3, none⟩) (fun _ => rfl) _).setCell (p := ⟨g, m * 3 + 1, none⟩) (fun _ => rfl) _).setCell (p := ⟨g, m * 3 + 2, none⟩) (fun _ => rfl) _).drew
      case measure => simp [intOf]; omega
    · have hN2 := HK.out.1
      have Hk := Lib.hid (show N ≤ 2 * k + 1 by omega)
      go_wp2_with fail
      go_end0
      exact ⟨rfl, by rw [← Hall.out k HK.out.1 Hk.out]; exact HK.out.2, hm⟩

theorem revEd_none (ao : Option Addr) (cap : Nat) (w : World) : Calls Try.prog 57 #[.slice ao 0 cap] w fun e w' => e = .returned (.tuple #[]) ∧ w' = w := by
  go_enter Try.func57, Try.ntmps57
  go_wp2_with fail
  refine wp_loop_rounds 1 ?_
  rw [rounds_succ]
  go_wp2_with fail
  go_end0
  exact ⟨rfl, rfl⟩
set_option maxHeartbeats 800000 in
set_option maxRecDepth 1000000 in
theorem sortC_some (b off cap : Nat) (l : List Ed) (w : World) (hr : Reads w 3 (some ⟨b, off, none⟩) l.length (edE.cells l)) (h0 : 0 < l.length) (hn : l.length ≤ 19) :
    Calls Try.prog 52 #[.slice (some ⟨b, off, none⟩) l.length cap] w fun e w' => ∃ g c, e = .returned (.slice (some ⟨g, 0, none⟩) l.length c) ∧ w.heap.size ≤ g ∧ edE.Row w' g 37 (sorted lessE l) ∧ Ext w w' := by
  have Hc := Lib.hid (cloneEd_some b off cap l w hr h0 (by omega))
  have Hs := Lib.hid (fun g c w' (h : edE.Row w' g 37 l) => sortEd_any g c l w' h h0 hn)
  unfold Enc.New at Hc
  generalize sorted lessE l = S at *
  obtain ⟨N, hN⟩ : ∃ N, N = l.length := ⟨_, rfl⟩
  rw [← hN] at h0 hn Hc Hs ⊢
  clear hr hN
  go_enter Try.func52, Try.ntmps52
  go_wp2_with fail
  refine Hc.out.mono ?_
  rintro e w1 ⟨g, c, rfl, hown, hx1⟩
  have hrow1 := Enc.Row.of_owns (E := edE) hown
  have hg := (Enc.owns_block (E := edE) hown).1
  clear hown
  go_wp2_with fail
  refine (Hs.out g c w1 hrow1).mono ?_
  rintro e w2 ⟨rfl, hrow2, hm2⟩
  have hx2 : Ext w w2 := hx1.trans hm2 (fun i hi e => by omega)
  have Hrow := Lib.hid hrow2
  clear hrow1 hrow2 hm2 hx1 Hc Hs
  go_wp2_with fail
  go_ret
  exact ⟨g, c, rfl, hg, Hrow.out, hx2⟩
set_option maxHeartbeats 800000 in
set_option maxRecDepth 1000000 in
theorem sortC_none (cap : Nat) (w : World) : Calls Try.prog 52 #[.slice none 0 cap] w fun e w' => e = .returned (.slice none 0 0) ∧ w' = w := by
  go_enter Try.func52, Try.ntmps52
  go_wp2_with fail
  refine (cloneEd_nil cap w).mono ?_
  rintro e w1 ⟨rfl, rfl⟩
  go_wp2_with fail
  refine (sortEd_none none 0 w1).mono ?_
  rintro e w1 ⟨rfl, rfl⟩
  go_wp2_with fail
  go_ret
  exact ⟨rfl, rfl⟩
set_option maxHeartbeats 800000 in
theorem spLen_any (x : Int × Int) (w : World) (h1 : -1000000000 ≤ x.2 - x.1) (h2 : x.2 - x.1 ≤ 1000000000) : Calls Try.prog 53 #[.agg #[.int .i64 x.1, .int .i64 x.2]] w fun e w' => e = .returned (.int .i64 (x.2 - x.1)) ∧ Ext w w' := by
  go_enter Try.func53, Try.ntmps53
  go_wp2_with fail
  go_ret
  exact ⟨rfl, (Mod.refl _ w).alloc _⟩

theorem fold_step {α β : Type} (f : β → α → β) (b : β) {l : List α} {k : Nat} {x : α} (hx : l[k]? = some x) : (l.take (k + 1)).foldl f b = f ((l.take k).foldl f b) x := by
  have hk := (List.getElem?_eq_some_iff.1 hx).1
  have he := (List.getElem?_eq_some_iff.1 hx).2
  rw [List.take_succ_eq_append_getElem hk, List.foldl_append, he]; rfl

set_option maxHeartbeats 1600000 in
set_option maxRecDepth 1000000 in
theorem moveC_some (right : Bool) (o : Int) (b off cap : Nat) (l : List Ed) (w : World) (hr : Reads w 3 (some ⟨b, off, none⟩) l.length (edE.cells l)) (h0 : 0 < l.length) (hn : l.length ≤ 19) (hok : ∀ e ∈ l, EdOk e) (ho0 : 0 ≤ o) (ho1 : o ≤ 1000000000) :
    Calls Try.prog 34 #[.int .i64 o, .bool right, .slice (some ⟨b, off, none⟩) l.length cap] w fun e w' => e = .returned (.int .i64 (moveE right l o)) ∧ Ext w w' := by
  have Hs := Lib.hid (sortC_some b off cap l w hr h0 hn)
  have hRok : ∀ e ∈ (sorted lessE l).reverse, EdOk e := fun e he => hok e ((sorted_mem lessE l e).1 (List.mem_reverse.1 he))
  have hRl : (sorted lessE l).reverse.length = l.length := by rw [List.length_reverse, sorted_length]
  have hv := Lib.hid (fun g c w' (h : edE.Row w' g 37 (sorted lessE l)) => revEd_any g c (sorted lessE l) w' h (by rw [sorted_length]; omega))
  rw [sorted_length] at hv
  unfold moveE
  generalize sorted lessE l = S at *
  generalize S.reverse = R at *
  obtain ⟨N, hN⟩ : ∃ N, N = l.length := ⟨_, rfl⟩
  rw [← hN] at h0 hn hRl Hs hv ⊢
  have HRl := Lib.hid hRl
  have HRok := Lib.hid hRok
  clear hr hN hok hRl hRok
  obtain ⟨Z, hZ⟩ : ∃ Z, R.foldl (oneE right) o = Z := ⟨_, rfl⟩
  rw [hZ]
  have HZ := Lib.hid hZ
  clear hZ
  go_enter Try.func34, Try.ntmps34
  go_wp2_with fail
  refine Hs.out.mono ?_
  rintro e w1 ⟨g, c, rfl, hg, hrow1, hx1⟩
  clear Hs
  go_wp2_with fail
  refine (hv.out g c w1 hrow1).mono ?_
  rintro e w2 ⟨rfl, hrow2, hm2⟩
  have hx2 : Ext w w2 := hx1.trans hm2 (fun i hi e => by omega)
  have Hrow := Lib.hid hrow2
  have Hg := Lib.hid hg
  clear hrow1 hrow2 hm2 hx1 hv hg
  go_wp2_with fail
  go_loopw [0, 16] (fun s0 s16 wr => ∃ (k : Nat) (q : Int), k ≤ N ∧ s0 = .int .i64 q ∧ s16 = .int .i64 k ∧ 0 ≤ q ∧ q ≤ 1000000000 + k * 100000 ∧ Hid (edE.Row wr g 37 R ∧ (R.take k).foldl (oneE right) o = q) ∧ Ext w wr) (fun _ s16 _ => N - (intOf s16).toNat)
  case atStart => exact ⟨0, o, by omega, rfl, rfl, ho0, by omega, Lib.hid ⟨Hrow.out, rfl⟩, hx2⟩
  case round =>
    clear Hrow hx2
    obtain ⟨k, q, hk, rfl, rfl, hq0, hq1, HK, hx⟩ := hrel
    by_cases hlt : k < N
    · have hlt' : (k : Int) < (N : Int) := by omega
      have hk0 : (0 : Int) ≤ (k : Int) := by omega
      have hkR : R[k]? = some (R[k]'(by rw [HRl.out]; exact hlt)) := List.getElem?_eq_getElem _
      obtain ⟨c0, c1, c2⟩ := EdRow_cell HK.out.1 hkR
      have hgl := HK.out.1.lt
      have hst := fold_step (oneE right) o hkR
      rw [HK.out.2] at hst
      have hxo := HRok.out _ (List.mem_of_getElem? hkR)
      have hbd := oneE_bd (right := right) hxo hq0 hq1 (by omega)
      generalize R[k]'(by rw [HRl.out]; exact hlt) = x at *
      have Hst := Lib.hid hst
      have Hbd := Lib.hid hbd
      obtain ⟨x0, x1, x2, x3⟩ := hxo
      have Hlt := Lib.hid hlt
      clear hst hkR hbd
      unfold oneE at Hbd
      have Hst2 := Lib.hid (show (R.take (k + 1)).foldl (oneE right) o = (if q < x.a then q else if x.b < q then q + ((x.t.size : Int) - (x.b - x.a)) else if right then x.a + x.t.size else x.a) from Hst.out)
      clear Hst
      by_cases h1 : q < x.a
      · have b1 : decide (q < x.a) = true := decide_eq_true h1
        have H2 := Hst2.out
        have B2 := Hbd.out
        rw [if_pos h1] at H2 B2
        have H3 := Lib.hid H2
        have B3 := Lib.hid B2
        clear H2 B2 Hst2 Hbd
        go_wp2_with fail
        go_roundw
        case rel => exact ⟨k + 1, q, Hlt.out, rfl, by go_num, B3.out.1, by have := B3.out.2; omega, Lib.hid ⟨HK.out.1.alloc _, H3.out⟩, hx.alloc _⟩
        case measure => have := Hlt.out; simp [intOf]; omega
      · have b1 : decide (q < x.a) = false := decide_eq_false h1
        by_cases h2 : x.b < q
        · have b2 : decide (x.b < q) = true := decide_eq_true h2
          have H2 := Hst2.out
          have B2 := Hbd.out
          rw [if_neg h1, if_pos h2] at H2 B2
          have H3 := Lib.hid H2
          have B3 := Lib.hid B2
          clear H2 B2 Hst2 Hbd
          have e1 : IntKind.i64.wrap ((x.t.size : Int) - (x.b - x.a)) = (x.t.size : Int) - (x.b - x.a) := IntWalk.i64_in _ (by omega)
          have e2 : IntKind.i64.wrap (q + ((x.t.size : Int) - (x.b - x.a))) = q + ((x.t.size : Int) - (x.b - x.a)) := IntWalk.i64_in _ (by omega)
          have HL := Lib.hid (fun w' => spLen_any (x.a, x.b) w' (by simp only; omega) (by simp only; omega))
          go_wp2_with fail
          obtain ⟨u, hu⟩ : ∃ u, u = wr.alloc (.cells #[.int .i64 x.a, .int .i64 x.b, .string x.t] 37) := ⟨_, rfl⟩
          have hxu : Ext wr u := by rw [hu]; exact (Mod.refl _ wr).alloc _
          have hbu : Blk u wr.heap.size 37 #[.int .i64 x.a, .int .i64 x.b, .string x.t] := by rw [hu]; exact Blk.new _ _ _
          rw [← hu]
          clear c0 c1 c2 hgl hu
          have c0 : u.cell? ⟨wr.heap.size, 0, none⟩ = some (.int .i64 x.a) := hbu.cell 0
          have c1 : u.cell? ⟨wr.heap.size, 1, none⟩ = some (.int .i64 x.b) := hbu.cell 1
          have c2 : u.cell? ⟨wr.heap.size, 2, none⟩ = some (.string x.t) := hbu.cell 2
          have hgl := hbu.lt
          refine wp_region_ext_lit (by kernel_rfl) (by kernel_rfl) ?_
          repeat (go_big_quiet_step (exact Calls.ext_of (HL.out _)))
          refine wpQuiet_nil ?_
          intro we hxe
          have hxe2 := hxu.ext_trans hxe
          clear c0 c1 c2 hgl hbu e1 e2
          go_wp2_with fail
          go_roundw
          case rel => exact ⟨k + 1, _, Hlt.out, rfl, by go_num, B3.out.1, by have := B3.out.2; omega, Lib.hid ⟨HK.out.1.mod hxe2 (fun f => f), H3.out⟩, hx.ext_trans hxe2⟩
          case measure => have := Hlt.out; simp [intOf]; omega
        · have b2 : decide (x.b < q) = false := decide_eq_false h2
          have H2 := Hst2.out
          have B2 := Hbd.out
          rw [if_neg h1, if_neg h2] at H2 B2
          have e1 : IntKind.i64.wrap (x.a + (x.t.size : Int)) = x.a + (x.t.size : Int) := IntWalk.i64_in _ (by omega)
          cases right with
          | true =>
            have H3 := Lib.hid (show (R.take (k + 1)).foldl (oneE true) o = x.a + x.t.size from H2)
            have B3 := Lib.hid (show 0 ≤ x.a + (x.t.size : Int) ∧ x.a + (x.t.size : Int) ≤ 1000000000 + k * 100000 + 100000 from B2)
            clear H2 B2 Hst2 Hbd e1
            go_wp2_with fail
            go_roundw
            case rel => exact ⟨k + 1, _, Hlt.out, rfl, by go_num, B3.out.1, by have := B3.out.2; omega, Lib.hid ⟨HK.out.1.alloc _, H3.out⟩, hx.alloc _⟩
            case measure => have := Hlt.out; simp [intOf]; omega
          | false =>
            have H3 := Lib.hid (show (R.take (k + 1)).foldl (oneE false) o = x.a from H2)
            have B3 := Lib.hid (show 0 ≤ x.a ∧ x.a ≤ 1000000000 + (k : Int) * 100000 + 100000 from B2)
            clear H2 B2 Hst2 Hbd e1
            go_wp2_with fail
            go_roundw
            case rel => exact ⟨k + 1, _, Hlt.out, rfl, by go_num, B3.out.1, by have := B3.out.2; omega, Lib.hid ⟨HK.out.1.alloc _, H3.out⟩, hx.alloc _⟩
            case measure => have := Hlt.out; simp [intOf]; omega
    · have hlt' : ¬ (k : Int) < (N : Int) := by omega
      obtain rfl : k = N := by omega
      have hZ := HK.out.2
      rw [List.take_of_length_le (by rw [HRl.out]; exact Nat.le_refl _), HZ.out] at hZ
      subst hZ
      go_wp2_with fail
      go_ret
      exact ⟨rfl, hx⟩
set_option maxHeartbeats 800000 in
set_option maxRecDepth 1000000 in
theorem moveC_none (right : Bool) (o : Int) (cap : Nat) (w : World) : Calls Try.prog 34 #[.int .i64 o, .bool right, .slice none 0 cap] w fun e w' => e = .returned (.int .i64 o) ∧ Ext w w' := by
  go_enter Try.func34, Try.ntmps34
  go_wp2_with fail
  refine (sortC_none cap w).mono ?_
  rintro e w1 ⟨rfl, rfl⟩
  go_wp2_with fail
  refine (revEd_none none 0 w1).mono ?_
  rintro e w1 ⟨rfl, rfl⟩
  go_wp2_with fail
  refine wp_loop_rounds 1 ?_
  rw [rounds_succ]
  go_wp2_with fail
  go_ret
  exact ⟨rfl, Mod.refl _ _⟩
theorem moveC_any (right : Bool) (o : Int) (ao : Option Addr) (cap : Nat) (l : List Ed) (w : World) (hr : Reads w 3 ao l.length (edE.cells l)) (h0 : NilOr ao l.length) (hn : l.length ≤ 19) (hok : ∀ e ∈ l, EdOk e) (ho0 : 0 ≤ o) (ho1 : o ≤ 1000000000) :
    Calls Try.prog 34 #[.int .i64 o, .bool right, .slice ao l.length cap] w fun e w' => e = .returned (.int .i64 (moveE right l o)) ∧ Ext w w' := by
  cases l with
  | nil => rw [h0 rfl]; exact moveC_none right o cap w
  | cons x r =>
    obtain ⟨b, off, rfl⟩ := hr.some (by simp)
    exact moveC_some right o b off cap (x :: r) w hr (by simp) hn hok ho0 ho1
end Go.Proofs.Ytffplppglicibaa

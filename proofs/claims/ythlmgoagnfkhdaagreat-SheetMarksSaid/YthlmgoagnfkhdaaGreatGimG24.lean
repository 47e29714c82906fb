/- The document's Sort of stretches. Conditions: at most 1000 of them. -/
import Derived.Test.YthlmgoagnfkhdaaGreatGimG11
import Derived.Test.YthlmgoagnfkhdaaGreatGimG08
import Derived.Test.YthlmgoagnfkhdaaGreatGimG03
import Derived.Lib.SmallJoins
set_option maxHeartbeats 6400000
set_option maxRecDepth 1000000
set_option linter.unusedVariables false
set_option linter.unusedSimpArgs false
namespace Go.Gim
open Go Go.RowKit
theorem rdSp_at {w : World} {b off n : Nat} {l : List (Int × Int)} (h : Reads w 2 (some ⟨b, off, none⟩) n (prE.cells l)) {i : Nat} {x : (Int × Int)} (hx : l[i]? = some x) : w.cell? ⟨b, off + i * 2, none⟩ = some (.int .i64 x.1) ∧ w.cell? ⟨b, off + i * 2 + 1, none⟩ = some (.int .i64 x.2) :=
 ⟨Enc.reads_at (E := prE) (j := 0) h hx rfl, Enc.reads_at (E := prE) (j := 1) h hx rfl⟩
end Go.Gim
namespace Go.Proofs.YthlmgoagnfkhdaaGreat
open Go.RowKit Go.Gim
theorem litsSp : Lits Tryz.prog 114 49 2 := by
 constructor
 ·intro ρ o w h
  simp [execOp, h, go_sem]
 ·intro ρ o w x V h hx h2 h1 hV
  obtain ⟨c0, c1, hc⟩ := Go.Joins.array2 h2
  rw [hc] at hV h1
  subst hV
  have o0 := h1 c0 (by simp)
  have o1 := h1 c1 (by simp)
  simp [execOp, h, hx, go_sem]
theorem refSortSp_any (ao : Option Addr) (cap : Nat) (l : List (Int × Int)) (w : World) (hr : Reads w 2 ao l.length (prE.cells l)) (hn : l.length ≤ 1000) :
  Calls Tryz.prog 134 #[.slice ao l.length cap] w fun e w' => ∃ v, e = .returned v ∧ w'.ownsRow w.heap.size 49 2 v l.length (prE.cells (sorted lessB l)) ∧ (l.length = 0 → v = .slice none 0 0) ∧ Ext w w' := by
 have hl1 : maxLen = 9223372036854775807 := rfl
 have Hr := Lib.hid hr
 obtain ⟨N, hN⟩ : ∃ N, N = l.length := ⟨_, rfl⟩
 have HN := Lib.hid hN
 rw [← hN] at hn ⊢
 clear hr hN
 go_enter Tryz.func134, Tryz.ntmps134
 go_wp2_with fail
 go_loopw [3, 4] (fun v i wr => ∃ k : Nat, k ≤ N ∧ i = .int .i64 k ∧ Hid (wr.ownsRow w.heap.size 49 2 v k (prE.cells (sorted lessB (l.take k))) ∧ (k = 0 → v = .slice none 0 0)) ∧ Ext w wr) (fun _ i _ => N - (intOf i).toNat)
 case atStart => exact ⟨0, by omega, rfl, Lib.hid ⟨World.ownsRow_nil _ _ _ _, fun _ => rfl⟩, Mod.refl _ _⟩
 case round =>
  obtain ⟨k, hk, rfl, HO, hx⟩ := hrel
  by_cases hlt : k < N
  ·have hlt' : (k : Int) < (N : Int) := by omega
   have hk0 : (0 : Int) ≤ (k : Int) := by omega
   obtain ⟨b, off, rfl⟩ := Hr.out.some (by have := HN.out; omega)
   have hlk : k < l.length := by rw [← HN.out]; exact hlt
   have Hlx := Lib.hid (List.getElem?_eq_getElem hlk)
   have Hts := Lib.hid (show sorted lessB (l.take (k + 1)) = insR lessB (sorted lessB (l.take k)) l[k] by rw [List.take_succ_eq_append_getElem hlk, sorted_snoc])
   have Hsl := Lib.hid (show (sorted lessB (l.take k)).length = k by rw [sorted_length, List.length_take]; omega)
   generalize l[k] = x at *
   generalize sorted lessB (l.take k) = S at *
   unfold insR at Hts
   rw [Hsl.out] at Hts
   obtain ⟨K, hK⟩ : ∃ K, place lessB x S k = K := ⟨_, rfl⟩
   have HK := Lib.hid hK
   have hKk : K ≤ k := by rw [← hK]; exact place_le _ _ _ _
   rw [hK] at Hts
   clear hK hlk
   by_cases hz : k = 0
   ·subst hz
    have hv0 := HO.out.2 rfl
    subst hv0
    obtain rfl : K = 0 := by omega
    go_wp2_with fail
    refine wp_loop_rounds 1 ?_
    rw [rounds_succ]
    go_wp2_with fail
    go_quiet (fail)
    go_wp2_with fail
    have Ho8 := Lib.hid HO.out.1
    have hxw : Ext wr (wr.drewN nq) := ((Mod.refl _ wr).drewN nq)
    obtain ⟨q0, q1⟩ := rdSp_at (Hr.out.mod (hx.ext_trans hxw) (fun _ _ f => f)) Hlx.out
    replace q0 : World.cell? (wr.drewN nq) ⟨b, off, none⟩ = _ := q0
    replace q1 : World.cell? (wr.drewN nq) ⟨b, off + 1, none⟩ = _ := q1
    have HS := Lib.hid (fun w' (hw' : Ext (wr.drewN nq) w') => (⟨(hw'.cell (World.block_lt_of_cell? _ _ q0) (fun f => f)).trans q0, (hw'.cell (World.block_lt_of_cell? _ _ q1) (fun f => f)).trans q1, trivial, trivial⟩ : w'.cell? ⟨b, off, none⟩ = some (.int .i64 x.1) ∧ w'.cell? ⟨b, off + 1, none⟩ = some (.int .i64 x.2) ∧ True ∧ True))
    clear q0 q1
    refine wp_region_E (by kernel_rfl) ?_
    refine wpE_t 1 31 (v := ?_) (fun w' hw' => qat_value ?_) ?_
    rotate_left
    ·go_simp
     rfl
    simp only [fr1, fr2, fr3, fr4]
    refine wpE_t 2 32 (v := ?_) (fun w' hw' => qat_value ?_) ?_
    rotate_left
    ·go_simp
     rfl
    simp only [fr1, fr2, fr3, fr4]
    refine wpE_t 3 33 (v := ?_) (fun w' hw' => qat_value ?_) ?_
    rotate_left
    ·go_simp
     rfl
    simp only [fr1, fr2, fr3, fr4]
    refine wpE_t 5 35 (v := ?_) (fun w' hw' => qat_value ?_) ?_
    rotate_left
    ·go_simp
     rfl
    simp only [fr1, fr2, fr3, fr4]
    refine wpE_t 6 36 (v := ?_) (fun w' hw' => qat_value ?_) ?_
    rotate_left
    ·go_simp
     rfl
    simp only [fr1, fr2, fr3, fr4]
    refine wpE_t 7 37 (v := ?_) (fun w' hw' => qat_value ?_) ?_
    rotate_left
    ·go_simp
     rfl
    simp only [fr1, fr2, fr3, fr4]
    refine wpE_t 8 38 (v := ?_) (fun w' hw' => ?_) ?_
    rotate_left
    ·obtain ⟨r0, r1, r2, r3⟩ := HS.out w' hw'
     refine qat_value ?_
     go_simp
     rfl
    simp only [fr1, fr2, fr3, fr4]
    refine wpE_t 11 41 (v := ?_) (fun w' hw' => qat_value ?_) ?_
    rotate_left
    ·go_simp
     rfl
    simp only [fr1, fr2, fr3, fr4]
    refine wpE_t 12 42 (v := ?_) (fun w' hw' => qat_value ?_) ?_
    rotate_left
    ·go_simp
     rfl
    simp only [fr1, fr2, fr3, fr4]
    refine wpE_t 13 43 (v := ?_) (fun w' hw' => qat_value ?_) ?_
    rotate_left
    ·go_simp
     rfl
    simp only [fr1, fr2, fr3, fr4]
    refine wpE_splice (xs1 := prE.cells (S.take 0)) (xs2 := prE.cells (S.drop 0)) (V := .agg #[.int .i64 x.1, .int .i64 x.2]) (dA := 30) (dB := 34) (dC := 39) (dD := 40) (dE := 44) (dF := 3) (s1 := 33) (s2 := 43) (x := 38) (iA := 0) (iB := 4) (iC := 9) (iD := 10) (iE := 14) (iF := 15) litsSp Tryz.info49 Tryz.underlying114 rfl (by omega)
     ⟨rfl, rfl, rfl, rfl, rfl, rfl, ⟨rfl, rfl, rfl, rfl, rfl, rfl⟩, ⟨rfl, rfl⟩, ⟨rfl, rfl⟩, ⟨rfl, rfl⟩, ⟨rfl, rfl⟩, ⟨rfl, rfl⟩, ⟨rfl, rfl⟩, by decide, by decide⟩
     ⟨by kernel_rfl, by kernel_rfl, by kernel_rfl, by kernel_rfl, by kernel_rfl, by kernel_rfl, by kernel_rfl, by kernel_rfl, by kernel_rfl⟩
     (by refine ⟨?_, ?_, ?_, ?_, ?_⟩ <;> simp) rfl rfl rfl
     (Enc.reads_take (E := prE) (Reads.own (ownsRow_mod Ho8.out hxw (fun _ _ f => f))) (m := 0) (by omega)) ?_ (prE.cells_one _) (prE.cells_one _) ⟨rfl, prE.one x, rfl⟩ ⟨by omega, by omega⟩ (ext_draw _) ?_
    ·exact Reads.own (ownsRow_mod Ho8.out hxw (fun _ _ f => f))
    ·intro w8 vA vB vC vD v8 hown8 hx8
     have Hs8 := Lib.hid (Enc.splice_own (E := prE) (x := x) (k := 0) (B' := w.heap.size) hown8 (by omega) (Nat.le_trans hx.size hxw.size))
     have Hx8 := Lib.hid ((hx.ext_trans hxw).ext_trans hx8)
     clear hown8 hx8 hxw
     simp only [fr1, fr2, fr3, fr4]
     go_wp2_with fail
     go_roundw
     case rel => exact ⟨0 + 1, by omega, by go_num, Lib.hid ⟨by rw [Hts.out]; exact Hs8.out, fun h => absurd h (by omega)⟩, Hx8.out⟩
     case measure => simp [intOf]; omega
   ·obtain ⟨g, vc, rfl⟩ := Enc.owns_some (E := prE) HO.out.1 (by omega)
    have hkv := Enc.owns_cap (E := prE) HO.out.1
    have hkp : (0 : Int) < (k : Int) := by omega
    go_wp2_with fail
    go_loopg [5] k (fun c s5 wi => ∃ j : Nat, j = c ∧ j ≤ k ∧ s5 = .int .i64 j ∧ Hid (place lessB x S j = K ∧ wi.ownsRow w.heap.size 49 2 (.slice (some ⟨g, 0, none⟩) k vc) k (prE.cells S)) ∧ Ext w wi)
    case atStart => exact ⟨k, rfl, Nat.le_refl _, rfl, Lib.hid ⟨HK.out, HO.out.1⟩, hx⟩
    case round =>
     clear hx HO
     obtain ⟨j, hjc, hj, rfl, HC, hx⟩ := hrel
     have Hjc := Lib.hid hjc
     have Ho8 := Lib.hid HC.out.2
     clear hjc
     cases j with
     | zero =>
      have hK0 : (0 : Nat) = K := HC.out.1
      subst hK0
      go_wp2_with fail
      go_quiet (fail)
      go_wp2_with fail
      have hxw : Ext wr (wr.drewN nq) := ((Mod.refl _ wr).drewN nq)
      obtain ⟨q0, q1⟩ := rdSp_at (Hr.out.mod (hx.ext_trans hxw) (fun _ _ f => f)) Hlx.out
      replace q0 : World.cell? (wr.drewN nq) ⟨b, off + k * 2, none⟩ = _ := q0
      replace q1 : World.cell? (wr.drewN nq) ⟨b, off + k * 2 + 1, none⟩ = _ := q1
      have HS := Lib.hid (fun w' (hw' : Ext (wr.drewN nq) w') => (⟨(hw'.cell (World.block_lt_of_cell? _ _ q0) (fun f => f)).trans q0, (hw'.cell (World.block_lt_of_cell? _ _ q1) (fun f => f)).trans q1, trivial, trivial⟩ : w'.cell? ⟨b, off + k * 2, none⟩ = some (.int .i64 x.1) ∧ w'.cell? ⟨b, off + k * 2 + 1, none⟩ = some (.int .i64 x.2) ∧ True ∧ True))
      clear q0 q1
      refine wp_region_E (by kernel_rfl) ?_
      refine wpE_t 1 31 (v := ?_) (fun w' hw' => qat_value ?_) ?_
      rotate_left
      ·go_simp
       rfl
      simp only [fr1, fr2, fr3, fr4]
      refine wpE_t 2 32 (v := ?_) (fun w' hw' => qat_value ?_) ?_
      rotate_left
      ·go_simp
       rfl
      simp only [fr1, fr2, fr3, fr4]
      refine wpE_t 3 33 (v := ?_) (fun w' hw' => qat_value ?_) ?_
      rotate_left
      ·go_simp
       rfl
      simp only [fr1, fr2, fr3, fr4]
      refine wpE_t 5 35 (v := ?_) (fun w' hw' => qat_value ?_) ?_
      rotate_left
      ·go_simp
       rfl
      simp only [fr1, fr2, fr3, fr4]
      refine wpE_t 6 36 (v := ?_) (fun w' hw' => qat_value ?_) ?_
      rotate_left
      ·go_simp
       rfl
      simp only [fr1, fr2, fr3, fr4]
      refine wpE_t 7 37 (v := ?_) (fun w' hw' => qat_value ?_) ?_
      rotate_left
      ·go_simp
       rfl
      simp only [fr1, fr2, fr3, fr4]
      refine wpE_t 8 38 (v := ?_) (fun w' hw' => ?_) ?_
      rotate_left
      ·obtain ⟨r0, r1, r2, r3⟩ := HS.out w' hw'
       refine qat_value ?_
       go_simp
       rfl
      simp only [fr1, fr2, fr3, fr4]
      refine wpE_t 11 41 (v := ?_) (fun w' hw' => qat_value ?_) ?_
      rotate_left
      ·go_simp
       rfl
      simp only [fr1, fr2, fr3, fr4]
      refine wpE_t 12 42 (v := ?_) (fun w' hw' => qat_value ?_) ?_
      rotate_left
      ·go_simp
       rfl
      simp only [fr1, fr2, fr3, fr4]
      refine wpE_t 13 43 (v := ?_) (fun w' hw' => qat_value ?_) ?_
      rotate_left
      ·go_simp
       rfl
      simp only [fr1, fr2, fr3, fr4]
      refine wpE_splice (xs1 := prE.cells (S.take 0)) (xs2 := prE.cells (S.drop 0)) (V := .agg #[.int .i64 x.1, .int .i64 x.2]) (dA := 30) (dB := 34) (dC := 39) (dD := 40) (dE := 44) (dF := 3) (s1 := 33) (s2 := 43) (x := 38) (iA := 0) (iB := 4) (iC := 9) (iD := 10) (iE := 14) (iF := 15) litsSp Tryz.info49 Tryz.underlying114 rfl (by omega)
       ⟨rfl, rfl, rfl, rfl, rfl, rfl, ⟨rfl, rfl, rfl, rfl, rfl, rfl⟩, ⟨rfl, rfl⟩, ⟨rfl, rfl⟩, ⟨rfl, rfl⟩, ⟨rfl, rfl⟩, ⟨rfl, rfl⟩, ⟨rfl, rfl⟩, by decide, by decide⟩
       ⟨by kernel_rfl, by kernel_rfl, by kernel_rfl, by kernel_rfl, by kernel_rfl, by kernel_rfl, by kernel_rfl, by kernel_rfl, by kernel_rfl⟩
       (by refine ⟨?_, ?_, ?_, ?_, ?_⟩ <;> simp) rfl rfl rfl
       (Enc.reads_take (E := prE) (Reads.own (ownsRow_mod Ho8.out hxw (fun _ _ f => f))) (m := 0) (by omega)) ?_ (prE.cells_one _) (prE.cells_one _) ⟨rfl, prE.one x, rfl⟩ ⟨by omega, by omega⟩ (ext_draw _) ?_
      ·exact Reads.own (ownsRow_mod Ho8.out hxw (fun _ _ f => f))
      ·intro w8 vA vB vC vD v8 hown8 hx8
       have Hs8 := Lib.hid (Enc.splice_own (E := prE) (x := x) (k := k) (B' := w.heap.size) hown8 (by omega) (Nat.le_trans hx.size hxw.size))
       have Hx8 := Lib.hid ((hx.ext_trans hxw).ext_trans hx8)
       clear hown8 hx8 hxw
       simp only [fr1, fr2, fr3, fr4]
       go_wp2_with fail
       go_roundw
       case rel => exact ⟨k + 1, by omega, by go_num, Lib.hid ⟨by rw [Hts.out]; exact Hs8.out, fun h => absurd h (by omega)⟩, Hx8.out⟩
       case measure => simp [intOf]; omega
     | succ j =>
      have hjk : j < k := by omega
      have hSj : S[j]? = some (S[j]'(by rw [Hsl.out]; exact hjk)) := List.getElem?_eq_getElem _
      have hpl : place lessB x S (j + 1) = if lessB x (S[j]'(by rw [Hsl.out]; exact hjk)) then place lessB x S j else j + 1 := by rw [place.eq_2, hSj]
      obtain ⟨d0, d1⟩ := SpRow_cell (Enc.Row.of_owns (E := prE) Ho8.out) hSj
      generalize S[j]'(by rw [Hsl.out]; exact hjk) = y at *
      have hgl := (Enc.owns_block (E := prE) Ho8.out).2
      obtain ⟨q0, q1⟩ := rdSp_at (Hr.out.mod hx (fun _ _ f => f)) Hlx.out
      have hbl := World.block_lt_of_cell? wr _ q0
      have e1 : decide ((0 : Int) < (j : Int) + 1) = true := decide_eq_true (by omega)
      have e3 : (0 : Int) ≤ (j : Int) := by omega
      have e4 : (j : Int) < (k : Int) := by omega
      have e5 : (j : Int) ≤ 1000 := by omega
      cases hL : lessB x y with
      | false =>
       rw [hL] at hpl
       have hLL : lessB x y = false := hL
       have hK1 : j + 1 = K := by rw [← HC.out.1, hpl]; rfl
       subst hK1
       clear hSj hpl hL
       go_wp2_with fail
       refine wp_region_ext_lit (by kernel_rfl) (by kernel_rfl) ?_
       repeat (go_big_quiet_step (with_reducible exact Calls.ext_of (rfLess_any _ _ _)))
       refine wpQuiet_nil ?_
       intro we hxe
       clear d0 d1 q0 q1
       go_wp2_with fail
       have a1 : 0 ≤ (j : Int) + 1 := by omega
       have a2 : (j : Int) + 1 ≤ (vc : Int) := by omega
       have a3 : (j : Int) + 1 ≤ (k : Int) := by omega
       have hxw : Ext wr we := hxe
       obtain ⟨q0, q1⟩ := rdSp_at (Hr.out.mod (hx.ext_trans hxw) (fun _ _ f => f)) Hlx.out
       replace q0 : World.cell? we ⟨b, off + k * 2, none⟩ = _ := q0
       replace q1 : World.cell? we ⟨b, off + k * 2 + 1, none⟩ = _ := q1
       have HS := Lib.hid (fun w' (hw' : Ext we w') => (⟨(hw'.cell (World.block_lt_of_cell? _ _ q0) (fun f => f)).trans q0, (hw'.cell (World.block_lt_of_cell? _ _ q1) (fun f => f)).trans q1, trivial, trivial⟩ : w'.cell? ⟨b, off + k * 2, none⟩ = some (.int .i64 x.1) ∧ w'.cell? ⟨b, off + k * 2 + 1, none⟩ = some (.int .i64 x.2) ∧ True ∧ True))
       clear q0 q1
       refine wp_region_E (by kernel_rfl) ?_
       refine wpE_t 1 31 (v := ?_) (fun w' hw' => qat_value ?_) ?_
       rotate_left
       ·go_simp
        rfl
       simp only [fr1, fr2, fr3, fr4]
       refine wpE_t 2 32 (v := ?_) (fun w' hw' => qat_value ?_) ?_
       rotate_left
       ·go_simp
        rfl
       simp only [fr1, fr2, fr3, fr4]
       refine wpE_t 3 33 (v := ?_) (fun w' hw' => qat_value ?_) ?_
       rotate_left
       ·go_simp
        rfl
       simp only [fr1, fr2, fr3, fr4]
       refine wpE_t 5 35 (v := ?_) (fun w' hw' => qat_value ?_) ?_
       rotate_left
       ·go_simp
        rfl
       simp only [fr1, fr2, fr3, fr4]
       refine wpE_t 6 36 (v := ?_) (fun w' hw' => qat_value ?_) ?_
       rotate_left
       ·go_simp
        rfl
       simp only [fr1, fr2, fr3, fr4]
       refine wpE_t 7 37 (v := ?_) (fun w' hw' => qat_value ?_) ?_
       rotate_left
       ·go_simp
        rfl
       simp only [fr1, fr2, fr3, fr4]
       refine wpE_t 8 38 (v := ?_) (fun w' hw' => ?_) ?_
       rotate_left
       ·obtain ⟨r0, r1, r2, r3⟩ := HS.out w' hw'
        refine qat_value ?_
        go_simp
        rfl
       simp only [fr1, fr2, fr3, fr4]
       refine wpE_t 11 41 (v := ?_) (fun w' hw' => qat_value ?_) ?_
       rotate_left
       ·go_simp
        rfl
       simp only [fr1, fr2, fr3, fr4]
       refine wpE_t 12 42 (v := ?_) (fun w' hw' => qat_value ?_) ?_
       rotate_left
       ·go_simp
        rfl
       simp only [fr1, fr2, fr3, fr4]
       refine wpE_t 13 43 (v := ?_) (fun w' hw' => qat_value ?_) ?_
       rotate_left
       ·go_simp
        rfl
       simp only [fr1, fr2, fr3, fr4]
       refine wpE_splice (xs1 := prE.cells (S.take (j + 1))) (xs2 := prE.cells (S.drop (j + 1))) (V := .agg #[.int .i64 x.1, .int .i64 x.2]) (dA := 30) (dB := 34) (dC := 39) (dD := 40) (dE := 44) (dF := 3) (s1 := 33) (s2 := 43) (x := 38) (iA := 0) (iB := 4) (iC := 9) (iD := 10) (iE := 14) (iF := 15) litsSp Tryz.info49 Tryz.underlying114 rfl (by omega)
        ⟨rfl, rfl, rfl, rfl, rfl, rfl, ⟨rfl, rfl, rfl, rfl, rfl, rfl⟩, ⟨rfl, rfl⟩, ⟨rfl, rfl⟩, ⟨rfl, rfl⟩, ⟨rfl, rfl⟩, ⟨rfl, rfl⟩, ⟨rfl, rfl⟩, by decide, by decide⟩
        ⟨by kernel_rfl, by kernel_rfl, by kernel_rfl, by kernel_rfl, by kernel_rfl, by kernel_rfl, by kernel_rfl, by kernel_rfl, by kernel_rfl⟩
        (by refine ⟨?_, ?_, ?_, ?_, ?_⟩ <;> simp) rfl rfl rfl
        (Enc.reads_take (E := prE) (Reads.own (ownsRow_mod Ho8.out hxw (fun _ _ f => f))) (m := (j + 1)) (by omega)) ?_ (prE.cells_one _) (prE.cells_one _) ⟨rfl, prE.one x, rfl⟩ ⟨by omega, by omega⟩ (ext_draw _) ?_
       ·exact Enc.reads_rest (E := prE) (Reads.own (ownsRow_mod Ho8.out hxw (fun _ _ f => f))) (by omega) (by omega)
       ·intro w8 vA vB vC vD v8 hown8 hx8
        have Hs8 := Lib.hid (Enc.splice_own (E := prE) (x := x) (k := k) (B' := w.heap.size) hown8 (by omega) (Nat.le_trans hx.size hxw.size))
        have Hx8 := Lib.hid ((hx.ext_trans hxw).ext_trans hx8)
        clear hown8 hx8 hxw
        simp only [fr1, fr2, fr3, fr4]
        go_wp2_with fail
        go_roundw
        case rel => exact ⟨k + 1, by omega, by go_num, Lib.hid ⟨by rw [Hts.out]; exact Hs8.out, fun h => absurd h (by omega)⟩, Hx8.out⟩
        case measure => simp [intOf]; omega
      | true =>
       rw [hL] at hpl
       have hLL : lessB x y = true := hL
       have HK1 := Lib.hid (show place lessB x S j = K by rw [← HC.out.1, hpl]; rfl)
       clear hSj hpl hL
       go_wp2_with fail
       refine wp_region_ext_lit (by kernel_rfl) (by kernel_rfl) ?_
       repeat (go_big_quiet_step (with_reducible exact Calls.ext_of (rfLess_any _ _ _)))
       refine wpQuiet_nil ?_
       intro we hxe
       go_wp2_with fail
       go_roundg (j)
       case rel => exact ⟨j, rfl, by omega, by go_num, Lib.hid ⟨HK1.out, ownsRow_mod Ho8.out hxe (fun _ _ f => f)⟩, hx.ext_trans hxe⟩
       case measure => have := Hjc.out; omega
  ·have hlt' : ¬ (k : Int) < (N : Int) := by omega
   obtain rfl : k = N := by omega
   have hS := HO.out
   rw [HN.out, List.take_of_length_le (Nat.le_refl _), ← HN.out] at hS
   have HS0 := Lib.hid hS
   clear hS HO
   go_wp2_with fail
   go_ret
   exact ⟨_, rfl, HS0.out.1, HS0.out.2, hx⟩
end Go.Proofs.YthlmgoagnfkhdaaGreat
namespace Go.Gim
open Go Go.RowKit
theorem rdEd_at {w : World} {b off n : Nat} {l : List Ed} (h : Reads w 3 (some ⟨b, off, none⟩) n (edE.cells l)) {i : Nat} {x : Ed} (hx : l[i]? = some x) : w.cell? ⟨b, off + i * 3, none⟩ = some (.int .i64 x.a) ∧ w.cell? ⟨b, off + i * 3 + 1, none⟩ = some (.int .i64 x.b) ∧ w.cell? ⟨b, off + i * 3 + 2, none⟩ = some (.string x.t) :=
 ⟨Enc.reads_at (E := edE) (j := 0) h hx rfl, Enc.reads_at (E := edE) (j := 1) h hx rfl, Enc.reads_at (E := edE) (j := 2) h hx rfl⟩
end Go.Gim
namespace Go.Proofs.YthlmgoagnfkhdaaGreat
open Go.RowKit Go.Gim
theorem litsEd : Lits Tryz.prog 35 59 3 := by
 constructor
 ·intro ρ o w h
  simp [execOp, h, go_sem]
 ·intro ρ o w x V h hx h2 h1 hV
  obtain ⟨c0, c1, c2, hc⟩ := Go.Joins.array3 h2
  rw [hc] at hV h1
  subst hV
  have o0 := h1 c0 (by simp)
  have o1 := h1 c1 (by simp)
  have o2 := h1 c2 (by simp)
  simp [execOp, h, hx, go_sem]
theorem refSortEd_any (ao : Option Addr) (cap : Nat) (l : List Ed) (w : World) (hr : Reads w 3 ao l.length (edE.cells l)) (hn : l.length ≤ 1000) :
  Calls Tryz.prog 123 #[.slice ao l.length cap] w fun e w' => ∃ v, e = .returned v ∧ w'.ownsRow w.heap.size 59 3 v l.length (edE.cells (sorted lessE l)) ∧ (l.length = 0 → v = .slice none 0 0) ∧ Ext w w' := by
 have hl1 : maxLen = 9223372036854775807 := rfl
 have Hr := Lib.hid hr
 obtain ⟨N, hN⟩ : ∃ N, N = l.length := ⟨_, rfl⟩
 have HN := Lib.hid hN
 rw [← hN] at hn ⊢
 clear hr hN
 go_enter Tryz.func123, Tryz.ntmps123
 go_wp2_with fail
 go_loopw [3, 4] (fun v i wr => ∃ k : Nat, k ≤ N ∧ i = .int .i64 k ∧ Hid (wr.ownsRow w.heap.size 59 3 v k (edE.cells (sorted lessE (l.take k))) ∧ (k = 0 → v = .slice none 0 0)) ∧ Ext w wr) (fun _ i _ => N - (intOf i).toNat)
 case atStart => exact ⟨0, by omega, rfl, Lib.hid ⟨World.ownsRow_nil _ _ _ _, fun _ => rfl⟩, Mod.refl _ _⟩
 case round =>
  obtain ⟨k, hk, rfl, HO, hx⟩ := hrel
  by_cases hlt : k < N
  ·have hlt' : (k : Int) < (N : Int) := by omega
   have hk0 : (0 : Int) ≤ (k : Int) := by omega
   obtain ⟨b, off, rfl⟩ := Hr.out.some (by have := HN.out; omega)
   have hlk : k < l.length := by rw [← HN.out]; exact hlt
   have Hlx := Lib.hid (List.getElem?_eq_getElem hlk)
   have Hts := Lib.hid (show sorted lessE (l.take (k + 1)) = insR lessE (sorted lessE (l.take k)) l[k] by rw [List.take_succ_eq_append_getElem hlk, sorted_snoc])
   have Hsl := Lib.hid (show (sorted lessE (l.take k)).length = k by rw [sorted_length, List.length_take]; omega)
   generalize l[k] = x at *
   generalize sorted lessE (l.take k) = S at *
   unfold insR at Hts
   rw [Hsl.out] at Hts
   obtain ⟨K, hK⟩ : ∃ K, place lessE x S k = K := ⟨_, rfl⟩
   have HK := Lib.hid hK
   have hKk : K ≤ k := by rw [← hK]; exact place_le _ _ _ _
   rw [hK] at Hts
   clear hK hlk
   by_cases hz : k = 0
   ·subst hz
    have hv0 := HO.out.2 rfl
    subst hv0
    obtain rfl : K = 0 := by omega
    go_wp2_with fail
    refine wp_loop_rounds 1 ?_
    rw [rounds_succ]
    go_wp2_with fail
    go_quiet (fail)
    go_wp2_with fail
    have Ho8 := Lib.hid HO.out.1
    have hxw : Ext wr (wr.drewN nq) := ((Mod.refl _ wr).drewN nq)
    obtain ⟨q0, q1, q2⟩ := rdEd_at (Hr.out.mod (hx.ext_trans hxw) (fun _ _ f => f)) Hlx.out
    replace q0 : World.cell? (wr.drewN nq) ⟨b, off, none⟩ = _ := q0
    replace q1 : World.cell? (wr.drewN nq) ⟨b, off + 1, none⟩ = _ := q1
    replace q2 : World.cell? (wr.drewN nq) ⟨b, off + 2, none⟩ = _ := q2
    have HS := Lib.hid (fun w' (hw' : Ext (wr.drewN nq) w') => (⟨(hw'.cell (World.block_lt_of_cell? _ _ q0) (fun f => f)).trans q0, (hw'.cell (World.block_lt_of_cell? _ _ q1) (fun f => f)).trans q1, (hw'.cell (World.block_lt_of_cell? _ _ q2) (fun f => f)).trans q2, trivial⟩ : w'.cell? ⟨b, off, none⟩ = some (.int .i64 x.a) ∧ w'.cell? ⟨b, off + 1, none⟩ = some (.int .i64 x.b) ∧ w'.cell? ⟨b, off + 2, none⟩ = some (.string x.t) ∧ True))
    clear q0 q1 q2
    refine wp_region_E (by kernel_rfl) ?_
    refine wpE_t 1 33 (v := ?_) (fun w' hw' => qat_value ?_) ?_
    rotate_left
    ·go_simp
     rfl
    simp only [fr1, fr2, fr3, fr4]
    refine wpE_t 2 34 (v := ?_) (fun w' hw' => qat_value ?_) ?_
    rotate_left
    ·go_simp
     rfl
    simp only [fr1, fr2, fr3, fr4]
    refine wpE_t 3 35 (v := ?_) (fun w' hw' => qat_value ?_) ?_
    rotate_left
    ·go_simp
     rfl
    simp only [fr1, fr2, fr3, fr4]
    refine wpE_t 5 37 (v := ?_) (fun w' hw' => qat_value ?_) ?_
    rotate_left
    ·go_simp
     rfl
    simp only [fr1, fr2, fr3, fr4]
    refine wpE_t 6 38 (v := ?_) (fun w' hw' => qat_value ?_) ?_
    rotate_left
    ·go_simp
     rfl
    simp only [fr1, fr2, fr3, fr4]
    refine wpE_t 7 39 (v := ?_) (fun w' hw' => qat_value ?_) ?_
    rotate_left
    ·go_simp
     rfl
    simp only [fr1, fr2, fr3, fr4]
    refine wpE_t 8 40 (v := ?_) (fun w' hw' => ?_) ?_
    rotate_left
    ·obtain ⟨r0, r1, r2, r3⟩ := HS.out w' hw'
     refine qat_value ?_
     go_simp
     rfl
    simp only [fr1, fr2, fr3, fr4]
    refine wpE_t 11 43 (v := ?_) (fun w' hw' => qat_value ?_) ?_
    rotate_left
    ·go_simp
     rfl
    simp only [fr1, fr2, fr3, fr4]
    refine wpE_t 12 44 (v := ?_) (fun w' hw' => qat_value ?_) ?_
    rotate_left
    ·go_simp
     rfl
    simp only [fr1, fr2, fr3, fr4]
    refine wpE_t 13 45 (v := ?_) (fun w' hw' => qat_value ?_) ?_
    rotate_left
    ·go_simp
     rfl
    simp only [fr1, fr2, fr3, fr4]
    refine wpE_splice (xs1 := edE.cells (S.take 0)) (xs2 := edE.cells (S.drop 0)) (V := .agg #[.int .i64 x.a, .int .i64 x.b, .string x.t]) (dA := 32) (dB := 36) (dC := 41) (dD := 42) (dE := 46) (dF := 3) (s1 := 35) (s2 := 45) (x := 40) (iA := 0) (iB := 4) (iC := 9) (iD := 10) (iE := 14) (iF := 15) litsEd Tryz.info59 Tryz.underlying35 rfl (by omega)
     ⟨rfl, rfl, rfl, rfl, rfl, rfl, ⟨rfl, rfl, rfl, rfl, rfl, rfl⟩, ⟨rfl, rfl⟩, ⟨rfl, rfl⟩, ⟨rfl, rfl⟩, ⟨rfl, rfl⟩, ⟨rfl, rfl⟩, ⟨rfl, rfl⟩, by decide, by decide⟩
     ⟨by kernel_rfl, by kernel_rfl, by kernel_rfl, by kernel_rfl, by kernel_rfl, by kernel_rfl, by kernel_rfl, by kernel_rfl, by kernel_rfl⟩
     (by refine ⟨?_, ?_, ?_, ?_, ?_⟩ <;> simp) rfl rfl rfl
     (Enc.reads_take (E := edE) (Reads.own (ownsRow_mod Ho8.out hxw (fun _ _ f => f))) (m := 0) (by omega)) ?_ (edE.cells_one _) (edE.cells_one _) ⟨rfl, edE.one x, rfl⟩ ⟨by omega, by omega⟩ (ext_draw _) ?_
    ·exact Reads.own (ownsRow_mod Ho8.out hxw (fun _ _ f => f))
    ·intro w8 vA vB vC vD v8 hown8 hx8
     have Hs8 := Lib.hid (Enc.splice_own (E := edE) (x := x) (k := 0) (B' := w.heap.size) hown8 (by omega) (Nat.le_trans hx.size hxw.size))
     have Hx8 := Lib.hid ((hx.ext_trans hxw).ext_trans hx8)
     clear hown8 hx8 hxw
     simp only [fr1, fr2, fr3, fr4]
     go_wp2_with fail
     go_roundw
     case rel => exact ⟨0 + 1, by omega, by go_num, Lib.hid ⟨by rw [Hts.out]; exact Hs8.out, fun h => absurd h (by omega)⟩, Hx8.out⟩
     case measure => simp [intOf]; omega
   ·obtain ⟨g, vc, rfl⟩ := Enc.owns_some (E := edE) HO.out.1 (by omega)
    have hkv := Enc.owns_cap (E := edE) HO.out.1
    have hkp : (0 : Int) < (k : Int) := by omega
    go_wp2_with fail
    go_loopg [5] k (fun c s5 wi => ∃ j : Nat, j = c ∧ j ≤ k ∧ s5 = .int .i64 j ∧ Hid (place lessE x S j = K ∧ wi.ownsRow w.heap.size 59 3 (.slice (some ⟨g, 0, none⟩) k vc) k (edE.cells S)) ∧ Ext w wi)
    case atStart => exact ⟨k, rfl, Nat.le_refl _, rfl, Lib.hid ⟨HK.out, HO.out.1⟩, hx⟩
    case round =>
     clear hx HO
     obtain ⟨j, hjc, hj, rfl, HC, hx⟩ := hrel
     have Hjc := Lib.hid hjc
     have Ho8 := Lib.hid HC.out.2
     clear hjc
     cases j with
     | zero =>
      have hK0 : (0 : Nat) = K := HC.out.1
      subst hK0
      go_wp2_with fail
      go_quiet (fail)
      go_wp2_with fail
      have hxw : Ext wr (wr.drewN nq) := ((Mod.refl _ wr).drewN nq)
      obtain ⟨q0, q1, q2⟩ := rdEd_at (Hr.out.mod (hx.ext_trans hxw) (fun _ _ f => f)) Hlx.out
      replace q0 : World.cell? (wr.drewN nq) ⟨b, off + k * 3, none⟩ = _ := q0
      replace q1 : World.cell? (wr.drewN nq) ⟨b, off + k * 3 + 1, none⟩ = _ := q1
      replace q2 : World.cell? (wr.drewN nq) ⟨b, off + k * 3 + 2, none⟩ = _ := q2
      have HS := Lib.hid (fun w' (hw' : Ext (wr.drewN nq) w') => (⟨(hw'.cell (World.block_lt_of_cell? _ _ q0) (fun f => f)).trans q0, (hw'.cell (World.block_lt_of_cell? _ _ q1) (fun f => f)).trans q1, (hw'.cell (World.block_lt_of_cell? _ _ q2) (fun f => f)).trans q2, trivial⟩ : w'.cell? ⟨b, off + k * 3, none⟩ = some (.int .i64 x.a) ∧ w'.cell? ⟨b, off + k * 3 + 1, none⟩ = some (.int .i64 x.b) ∧ w'.cell? ⟨b, off + k * 3 + 2, none⟩ = some (.string x.t) ∧ True))
      clear q0 q1 q2
      refine wp_region_E (by kernel_rfl) ?_
      refine wpE_t 1 33 (v := ?_) (fun w' hw' => qat_value ?_) ?_
      rotate_left
      ·go_simp
       rfl
      simp only [fr1, fr2, fr3, fr4]
      refine wpE_t 2 34 (v := ?_) (fun w' hw' => qat_value ?_) ?_
      rotate_left
      ·go_simp
       rfl
      simp only [fr1, fr2, fr3, fr4]
      refine wpE_t 3 35 (v := ?_) (fun w' hw' => qat_value ?_) ?_
      rotate_left
      ·go_simp
       rfl
      simp only [fr1, fr2, fr3, fr4]
      refine wpE_t 5 37 (v := ?_) (fun w' hw' => qat_value ?_) ?_
      rotate_left
      ·go_simp
       rfl
      simp only [fr1, fr2, fr3, fr4]
      refine wpE_t 6 38 (v := ?_) (fun w' hw' => qat_value ?_) ?_
      rotate_left
      ·go_simp
       rfl
      simp only [fr1, fr2, fr3, fr4]
      refine wpE_t 7 39 (v := ?_) (fun w' hw' => qat_value ?_) ?_
      rotate_left
      ·go_simp
       rfl
      simp only [fr1, fr2, fr3, fr4]
      refine wpE_t 8 40 (v := ?_) (fun w' hw' => ?_) ?_
      rotate_left
      ·obtain ⟨r0, r1, r2, r3⟩ := HS.out w' hw'
       refine qat_value ?_
       go_simp
       rfl
      simp only [fr1, fr2, fr3, fr4]
      refine wpE_t 11 43 (v := ?_) (fun w' hw' => qat_value ?_) ?_
      rotate_left
      ·go_simp
       rfl
      simp only [fr1, fr2, fr3, fr4]
      refine wpE_t 12 44 (v := ?_) (fun w' hw' => qat_value ?_) ?_
      rotate_left
      ·go_simp
       rfl
      simp only [fr1, fr2, fr3, fr4]
      refine wpE_t 13 45 (v := ?_) (fun w' hw' => qat_value ?_) ?_
      rotate_left
      ·go_simp
       rfl
      simp only [fr1, fr2, fr3, fr4]
      refine wpE_splice (xs1 := edE.cells (S.take 0)) (xs2 := edE.cells (S.drop 0)) (V := .agg #[.int .i64 x.a, .int .i64 x.b, .string x.t]) (dA := 32) (dB := 36) (dC := 41) (dD := 42) (dE := 46) (dF := 3) (s1 := 35) (s2 := 45) (x := 40) (iA := 0) (iB := 4) (iC := 9) (iD := 10) (iE := 14) (iF := 15) litsEd Tryz.info59 Tryz.underlying35 rfl (by omega)
       ⟨rfl, rfl, rfl, rfl, rfl, rfl, ⟨rfl, rfl, rfl, rfl, rfl, rfl⟩, ⟨rfl, rfl⟩, ⟨rfl, rfl⟩, ⟨rfl, rfl⟩, ⟨rfl, rfl⟩, ⟨rfl, rfl⟩, ⟨rfl, rfl⟩, by decide, by decide⟩
       ⟨by kernel_rfl, by kernel_rfl, by kernel_rfl, by kernel_rfl, by kernel_rfl, by kernel_rfl, by kernel_rfl, by kernel_rfl, by kernel_rfl⟩
       (by refine ⟨?_, ?_, ?_, ?_, ?_⟩ <;> simp) rfl rfl rfl
       (Enc.reads_take (E := edE) (Reads.own (ownsRow_mod Ho8.out hxw (fun _ _ f => f))) (m := 0) (by omega)) ?_ (edE.cells_one _) (edE.cells_one _) ⟨rfl, edE.one x, rfl⟩ ⟨by omega, by omega⟩ (ext_draw _) ?_
      ·exact Reads.own (ownsRow_mod Ho8.out hxw (fun _ _ f => f))
      ·intro w8 vA vB vC vD v8 hown8 hx8
       have Hs8 := Lib.hid (Enc.splice_own (E := edE) (x := x) (k := k) (B' := w.heap.size) hown8 (by omega) (Nat.le_trans hx.size hxw.size))
       have Hx8 := Lib.hid ((hx.ext_trans hxw).ext_trans hx8)
       clear hown8 hx8 hxw
       simp only [fr1, fr2, fr3, fr4]
       go_wp2_with fail
       go_roundw
       case rel => exact ⟨k + 1, by omega, by go_num, Lib.hid ⟨by rw [Hts.out]; exact Hs8.out, fun h => absurd h (by omega)⟩, Hx8.out⟩
       case measure => simp [intOf]; omega
     | succ j =>
      have hjk : j < k := by omega
      have hSj : S[j]? = some (S[j]'(by rw [Hsl.out]; exact hjk)) := List.getElem?_eq_getElem _
      have hpl : place lessE x S (j + 1) = if lessE x (S[j]'(by rw [Hsl.out]; exact hjk)) then place lessE x S j else j + 1 := by rw [place.eq_2, hSj]
      obtain ⟨d0, d1, d2⟩ := EdRow_cell (Enc.Row.of_owns (E := edE) Ho8.out) hSj
      generalize S[j]'(by rw [Hsl.out]; exact hjk) = y at *
      have hgl := (Enc.owns_block (E := edE) Ho8.out).2
      obtain ⟨q0, q1, q2⟩ := rdEd_at (Hr.out.mod hx (fun _ _ f => f)) Hlx.out
      have hbl := World.block_lt_of_cell? wr _ q0
      have e1 : decide ((0 : Int) < (j : Int) + 1) = true := decide_eq_true (by omega)
      have e3 : (0 : Int) ≤ (j : Int) := by omega
      have e4 : (j : Int) < (k : Int) := by omega
      have e5 : (j : Int) ≤ 1000 := by omega
      cases hL : lessE x y with
      | false =>
       rw [hL] at hpl
       have hLL : lessB (x.a, x.b) (y.a, y.b) = false := hL
       have hK1 : j + 1 = K := by rw [← HC.out.1, hpl]; rfl
       subst hK1
       clear hSj hpl hL
       go_wp2_with fail
       refine wp_region_ext_lit (by kernel_rfl) (by kernel_rfl) ?_
       repeat (go_big_quiet_step (with_reducible exact Calls.ext_of (rfLess4_any _ _ _ _ _)))
       refine wpQuiet_nil ?_
       intro we hxe
       clear d0 d1 d2 q0 q1 q2
       go_wp2_with fail
       have a1 : 0 ≤ (j : Int) + 1 := by omega
       have a2 : (j : Int) + 1 ≤ (vc : Int) := by omega
       have a3 : (j : Int) + 1 ≤ (k : Int) := by omega
       have hxw : Ext wr we := hxe
       obtain ⟨q0, q1, q2⟩ := rdEd_at (Hr.out.mod (hx.ext_trans hxw) (fun _ _ f => f)) Hlx.out
       replace q0 : World.cell? we ⟨b, off + k * 3, none⟩ = _ := q0
       replace q1 : World.cell? we ⟨b, off + k * 3 + 1, none⟩ = _ := q1
       replace q2 : World.cell? we ⟨b, off + k * 3 + 2, none⟩ = _ := q2
       have HS := Lib.hid (fun w' (hw' : Ext we w') => (⟨(hw'.cell (World.block_lt_of_cell? _ _ q0) (fun f => f)).trans q0, (hw'.cell (World.block_lt_of_cell? _ _ q1) (fun f => f)).trans q1, (hw'.cell (World.block_lt_of_cell? _ _ q2) (fun f => f)).trans q2, trivial⟩ : w'.cell? ⟨b, off + k * 3, none⟩ = some (.int .i64 x.a) ∧ w'.cell? ⟨b, off + k * 3 + 1, none⟩ = some (.int .i64 x.b) ∧ w'.cell? ⟨b, off + k * 3 + 2, none⟩ = some (.string x.t) ∧ True))
       clear q0 q1 q2
       refine wp_region_E (by kernel_rfl) ?_
       refine wpE_t 1 33 (v := ?_) (fun w' hw' => qat_value ?_) ?_
       rotate_left
       ·go_simp
        rfl
       simp only [fr1, fr2, fr3, fr4]
       refine wpE_t 2 34 (v := ?_) (fun w' hw' => qat_value ?_) ?_
       rotate_left
       ·go_simp
        rfl
       simp only [fr1, fr2, fr3, fr4]
       refine wpE_t 3 35 (v := ?_) (fun w' hw' => qat_value ?_) ?_
       rotate_left
       ·go_simp
        rfl
       simp only [fr1, fr2, fr3, fr4]
       refine wpE_t 5 37 (v := ?_) (fun w' hw' => qat_value ?_) ?_
       rotate_left
       ·go_simp
        rfl
       simp only [fr1, fr2, fr3, fr4]
       refine wpE_t 6 38 (v := ?_) (fun w' hw' => qat_value ?_) ?_
       rotate_left
       ·go_simp
        rfl
       simp only [fr1, fr2, fr3, fr4]
       refine wpE_t 7 39 (v := ?_) (fun w' hw' => qat_value ?_) ?_
       rotate_left
       ·go_simp
        rfl
       simp only [fr1, fr2, fr3, fr4]
       refine wpE_t 8 40 (v := ?_) (fun w' hw' => ?_) ?_
       rotate_left
       ·obtain ⟨r0, r1, r2, r3⟩ := HS.out w' hw'
        refine qat_value ?_
        go_simp
        rfl
       simp only [fr1, fr2, fr3, fr4]
       refine wpE_t 11 43 (v := ?_) (fun w' hw' => qat_value ?_) ?_
       rotate_left
       ·go_simp
        rfl
       simp only [fr1, fr2, fr3, fr4]
       refine wpE_t 12 44 (v := ?_) (fun w' hw' => qat_value ?_) ?_
       rotate_left
       ·go_simp
        rfl
       simp only [fr1, fr2, fr3, fr4]
       refine wpE_t 13 45 (v := ?_) (fun w' hw' => qat_value ?_) ?_
       rotate_left
       ·go_simp
        rfl
       simp only [fr1, fr2, fr3, fr4]
       refine wpE_splice (xs1 := edE.cells (S.take (j + 1))) (xs2 := edE.cells (S.drop (j + 1))) (V := .agg #[.int .i64 x.a, .int .i64 x.b, .string x.t]) (dA := 32) (dB := 36) (dC := 41) (dD := 42) (dE := 46) (dF := 3) (s1 := 35) (s2 := 45) (x := 40) (iA := 0) (iB := 4) (iC := 9) (iD := 10) (iE := 14) (iF := 15) litsEd Tryz.info59 Tryz.underlying35 rfl (by omega)
        ⟨rfl, rfl, rfl, rfl, rfl, rfl, ⟨rfl, rfl, rfl, rfl, rfl, rfl⟩, ⟨rfl, rfl⟩, ⟨rfl, rfl⟩, ⟨rfl, rfl⟩, ⟨rfl, rfl⟩, ⟨rfl, rfl⟩, ⟨rfl, rfl⟩, by decide, by decide⟩
        ⟨by kernel_rfl, by kernel_rfl, by kernel_rfl, by kernel_rfl, by kernel_rfl, by kernel_rfl, by kernel_rfl, by kernel_rfl, by kernel_rfl⟩
        (by refine ⟨?_, ?_, ?_, ?_, ?_⟩ <;> simp) rfl rfl rfl
        (Enc.reads_take (E := edE) (Reads.own (ownsRow_mod Ho8.out hxw (fun _ _ f => f))) (m := (j + 1)) (by omega)) ?_ (edE.cells_one _) (edE.cells_one _) ⟨rfl, edE.one x, rfl⟩ ⟨by omega, by omega⟩ (ext_draw _) ?_
       ·exact Enc.reads_rest (E := edE) (Reads.own (ownsRow_mod Ho8.out hxw (fun _ _ f => f))) (by omega) (by omega)
       ·intro w8 vA vB vC vD v8 hown8 hx8
        have Hs8 := Lib.hid (Enc.splice_own (E := edE) (x := x) (k := k) (B' := w.heap.size) hown8 (by omega) (Nat.le_trans hx.size hxw.size))
        have Hx8 := Lib.hid ((hx.ext_trans hxw).ext_trans hx8)
        clear hown8 hx8 hxw
        simp only [fr1, fr2, fr3, fr4]
        go_wp2_with fail
        go_roundw
        case rel => exact ⟨k + 1, by omega, by go_num, Lib.hid ⟨by rw [Hts.out]; exact Hs8.out, fun h => absurd h (by omega)⟩, Hx8.out⟩
        case measure => simp [intOf]; omega
      | true =>
       rw [hL] at hpl
       have hLL : lessB (x.a, x.b) (y.a, y.b) = true := hL
       have HK1 := Lib.hid (show place lessE x S j = K by rw [← HC.out.1, hpl]; rfl)
       clear hSj hpl hL
       go_wp2_with fail
       refine wp_region_ext_lit (by kernel_rfl) (by kernel_rfl) ?_
       repeat (go_big_quiet_step (with_reducible exact Calls.ext_of (rfLess4_any _ _ _ _ _)))
       refine wpQuiet_nil ?_
       intro we hxe
       go_wp2_with fail
       go_roundg (j)
       case rel => exact ⟨j, rfl, by omega, by go_num, Lib.hid ⟨HK1.out, ownsRow_mod Ho8.out hxe (fun _ _ f => f)⟩, hx.ext_trans hxe⟩
       case measure => have := Hjc.out; omega
  ·have hlt' : ¬ (k : Int) < (N : Int) := by omega
   obtain rfl : k = N := by omega
   have hS := HO.out
   rw [HN.out, List.take_of_length_le (Nat.le_refl _), ← HN.out] at hS
   have HS0 := Lib.hid hS
   clear hS HO
   go_wp2_with fail
   go_ret
   exact ⟨_, rfl, HS0.out.1, HS0.out.2, hx⟩
end Go.Proofs.YthlmgoagnfkhdaaGreat

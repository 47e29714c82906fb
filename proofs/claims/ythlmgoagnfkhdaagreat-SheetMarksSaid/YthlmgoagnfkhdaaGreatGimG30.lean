/- The document's Merge: selections inserted one by one; then those that touch put together. Conditions: at most 1000 selections. -/
import Derived.Test.YthlmgoagnfkhdaaGreatGimG29
import Derived.Test.YthlmgoagnfkhdaaGreatGimG03
set_option maxHeartbeats 6400000
set_option maxRecDepth 1000000
set_option linter.unusedVariables false
set_option linter.unusedSimpArgs false
namespace Go.Gim
open Go Go.RowKit
theorem reads_take {w : World} {ao : Option Addr} {n k : Nat} {L : List (Int × Int)} (h : Reads w 2 ao n (prCells L)) (hk : k ≤ n) : Reads w 2 ao k (prCells (L.take k)) := by
 have hl := reads_len h
 refine ⟨by rw [prCells_len, List.length_take]; omega, fun h0 => ?_⟩
 obtain ⟨b, off, rfl, hc⟩ := h.2 (by omega)
 refine ⟨b, off, rfl, fun j hj => ?_⟩
 rw [prCells_len, List.length_take] at hj
 have h1 := hc j (by rw [prCells_len]; omega)
 rw [h1]
 conv => lhs; rw [← List.take_append_drop k L, prCells_append]
 rw [List.getElem?_append_left (by rw [prCells_len, List.length_take]; omega)]
theorem reads_drop {w : World} {b off n k : Nat} {L : List (Int × Int)} (h : Reads w 2 (some ⟨b, off, none⟩) n (prCells L)) (hk : k ≤ n) : Reads w 2 (some ⟨b, off + k * 2, none⟩) (n - k) (prCells (L.drop k)) := by
 have hl := reads_len h
 refine ⟨by rw [prCells_len, List.length_drop]; omega, fun h0 => ?_⟩
 obtain ⟨b', off', he, hc⟩ := h.2 (by omega)
 cases he
 refine ⟨b, off + k * 2, rfl, fun j hj => ?_⟩
 rw [prCells_len, List.length_drop] at hj
 have h1 := hc (k * 2 + j) (by rw [prCells_len]; omega)
 rw [show off + k * 2 + j = off + (k * 2 + j) from by omega, h1]
 conv => lhs; rw [← List.take_append_drop k L, prCells_append]
 rw [List.getElem?_append_right (by rw [prCells_len, List.length_take]; omega), prCells_len, List.length_take, show k * 2 + j - min k L.length * 2 = j by omega]
theorem splice_own {w : World} {B B' n K k : Nat} {T : TypeId} {v : Value} {S : List (Int × Int)} {x : Int × Int} (h : w.ownsRow B T 2 v n (prCells (S.take K) ++ (Value.agg #[.int .i64 x.1, .int .i64 x.2]).cells.toList ++ prCells (S.drop K))) (hn : n = k + 1) (hB : B' ≤ B) :
  w.ownsRow B' T 2 v (k + 1) (prCells (S.take K ++ x :: S.drop K)) := by
 subst hn
 rw [prCells_append, prCells_cons]
 have e : (Value.agg #[.int .i64 x.1, .int .i64 x.2]).cells.toList = [.int .i64 x.1, .int .i64 x.2] := rfl
 rw [e, List.append_assoc] at h
 exact ownsRow_base h hB
theorem reads_rest {w : World} {g n K vc : Nat} {L : List (Int × Int)} (h : Reads w 2 (some ⟨g, 0, none⟩) n (prCells L)) (hk : K ≤ n) (hv : n ≤ vc) :
  Reads w 2 (if vc = K then some ⟨g, 0, none⟩ else some ⟨g, K * 2, none⟩) (n - K) (prCells (L.drop K)) := by
 split
 ·have h0 : n - K = 0 := by omega
  have hl := reads_len h
  rw [h0, List.drop_of_length_le (by omega)]
  exact ⟨rfl, fun h => absurd h (Nat.lt_irrefl _)⟩
 ·have := reads_drop h hk
  rwa [Nat.zero_add] at this
theorem reads_none {w : World} {ao : Option Addr} : Reads w 2 ao 0 (prCells []) := ⟨rfl, fun h => absurd h (Nat.lt_irrefl _)⟩
end Go.Gim
namespace Go.Proofs.YthlmgoagnfkhdaaGreat
open Go.RowKit Go.Gim
theorem lits_sel : Lits Tryz.prog 32 47 2 := by
 constructor
 ·intro ρ o w h
  simp [execOp, h, go_sem]
 ·intro ρ o w x V h hx h2 h1 hV
  obtain ⟨c0, c1, hc⟩ := Go.Joins.array2 h2
  rw [hc] at hV h1
  subst hV
  have o0 := h1 c0 (by simp)
  have o1 := h1 c1 (by simp)
  simp [execOp, h, hx, go_sem]
theorem refMerge_in (ao : Option Addr) (cap : Nat) (l : List (Int × Int)) (w : World) (hr : Reads w 2 ao l.length (prCells l)) (h0 : 0 < l.length) (hn : l.length ≤ 1000) :
  Calls Tryz.prog 96 #[.slice ao l.length cap] w (NewRow 47 (orderN l) w) := by
 have hl1 : maxLen = 9223372036854775807 := rfl
 have Hr := Lib.hid hr
 obtain ⟨b, off, rfl⟩ := hr.some h0
 obtain ⟨N, hN⟩ : ∃ N, N = l.length := ⟨_, rfl⟩
 have HN := Lib.hid hN
 obtain ⟨Z, hZ⟩ : ∃ Z, Z = orderN l := ⟨_, rfl⟩
 have HZ0 := Lib.hid hZ
 rw [← hZ]
 rw [← hN] at h0 hn ⊢
 clear hr hN hZ
 go_enter Tryz.func96, Tryz.ntmps96
 go_wp2_with fail
 go_loopw [3, 4] (fun v i wr => ∃ k : Nat, k ≤ N ∧ i = .int .i64 k ∧ Hid (wr.ownsRow w.heap.size 47 2 v k (prCells (sorted lessS (l.take k))) ∧ (k = 0 → v = .slice none 0 0)) ∧ Ext w wr) (fun _ i _ => N - (intOf i).toNat)
 case atStart => exact ⟨0, by omega, rfl, Lib.hid ⟨World.ownsRow_nil _ _ _ _, fun _ => rfl⟩, Mod.refl _ _⟩
 case round =>
  obtain ⟨k, hk, rfl, HO, hx⟩ := hrel
  by_cases hlt : k < N
  ·have hlt' : (k : Int) < (N : Int) := by omega
   have hk0 : (0 : Int) ≤ (k : Int) := by omega
   have hlk : k < l.length := by rw [← HN.out]; exact hlt
   have Hlx := Lib.hid (List.getElem?_eq_getElem hlk)
   have Hts := Lib.hid (show sorted lessS (l.take (k + 1)) = insR lessS (sorted lessS (l.take k)) l[k] by rw [List.take_succ_eq_append_getElem hlk, sorted_snoc])
   have Hsl := Lib.hid (show (sorted lessS (l.take k)).length = k by rw [sorted_length, List.length_take]; omega)
   generalize l[k] = x at *
   generalize sorted lessS (l.take k) = S at *
   unfold insR at Hts
   rw [Hsl.out] at Hts
   obtain ⟨K, hK⟩ : ∃ K, place lessS x S k = K := ⟨_, rfl⟩
   have HK := Lib.hid hK
   have hKk : K ≤ k := by rw [← hK]; exact place_le _ _ _ _
   rw [hK] at Hts
   clear hK hlk
   by_cases hz : k = 0
   ·subst hz
    have hv0 := HO.out.2 rfl
    subst hv0
    obtain rfl : K = 0 := by omega
    go_wp2_with fail
    refine wp_loop_rounds 1 ?_
    rw [rounds_succ]
    go_wp2_with fail
    go_quiet (fail)
    go_wp2_with fail
    have Ho8 := Lib.hid HO.out.1
    have hxw : Ext wr (wr.drewN nq) := ((Mod.refl _ wr).drewN nq)
    obtain ⟨q0, q1⟩ := reads_pair (Hr.out.mod (hx.ext_trans hxw) (fun _ _ f => f)) Hlx.out
    replace q0 : World.cell? (wr.drewN nq) ⟨b, off, none⟩ = _ := q0
    replace q1 : World.cell? (wr.drewN nq) ⟨b, (off + 1), none⟩ = _ := q1
    have HS := Lib.hid (fun w' (hw' : Ext (wr.drewN nq) w') => (⟨(hw'.cell (World.block_lt_of_cell? _ _ q0) (fun f => f)).trans q0, (hw'.cell (World.block_lt_of_cell? _ _ q1) (fun f => f)).trans q1, trivial, trivial⟩ : w'.cell? ⟨b, off, none⟩ = some (.int .i64 x.1) ∧ w'.cell? ⟨b, (off + 1), none⟩ = some (.int .i64 x.2) ∧ True ∧ True))
    clear q0 q1
    refine wp_region_E (by kernel_rfl) ?_
    refine wpE_t 1 38 (v := ?_) (fun w' hw' => qat_value ?_) ?_
    rotate_left
    ·go_simp
     rfl
    simp only [fr1, fr2, fr3, fr4]
    refine wpE_t 2 39 (v := ?_) (fun w' hw' => qat_value ?_) ?_
    rotate_left
    ·go_simp
     rfl
    simp only [fr1, fr2, fr3, fr4]
    refine wpE_t 3 40 (v := ?_) (fun w' hw' => qat_value ?_) ?_
    rotate_left
    ·go_simp
     rfl
    simp only [fr1, fr2, fr3, fr4]
    refine wpE_t 5 42 (v := ?_) (fun w' hw' => qat_value ?_) ?_
    rotate_left
    ·go_simp
     rfl
    simp only [fr1, fr2, fr3, fr4]
    refine wpE_t 6 43 (v := ?_) (fun w' hw' => qat_value ?_) ?_
    rotate_left
    ·go_simp
     rfl
    simp only [fr1, fr2, fr3, fr4]
    refine wpE_t 7 44 (v := ?_) (fun w' hw' => qat_value ?_) ?_
    rotate_left
    ·go_simp
     rfl
    simp only [fr1, fr2, fr3, fr4]
    refine wpE_t 8 45 (v := ?_) (fun w' hw' => ?_) ?_
    rotate_left
    ·obtain ⟨r0, r1, r2, r3⟩ := HS.out w' hw'
     refine qat_value ?_
     go_simp
     rfl
    simp only [fr1, fr2, fr3, fr4]
    refine wpE_t 11 48 (v := ?_) (fun w' hw' => qat_value ?_) ?_
    rotate_left
    ·go_simp
     rfl
    simp only [fr1, fr2, fr3, fr4]
    refine wpE_t 12 49 (v := ?_) (fun w' hw' => qat_value ?_) ?_
    rotate_left
    ·go_simp
     rfl
    simp only [fr1, fr2, fr3, fr4]
    refine wpE_t 13 50 (v := ?_) (fun w' hw' => qat_value ?_) ?_
    rotate_left
    ·go_simp
     rfl
    simp only [fr1, fr2, fr3, fr4]
    refine wpE_splice (xs1 := prCells (S.take 0)) (xs2 := prCells (S.drop 0)) (V := .agg #[.int .i64 x.1, .int .i64 x.2]) (dA := 37) (dB := 41) (dC := 46) (dD := 47) (dE := 51) (dF := 3) (s1 := 40) (s2 := 50) (x := 45) (iA := 0) (iB := 4) (iC := 9) (iD := 10) (iE := 14) (iF := 15) lits_sel Tryz.info47 Tryz.underlying32 rfl (by omega)
     ⟨rfl, rfl, rfl, rfl, rfl, rfl, ⟨rfl, rfl, rfl, rfl, rfl, rfl⟩, ⟨rfl, rfl⟩, ⟨rfl, rfl⟩, ⟨rfl, rfl⟩, ⟨rfl, rfl⟩, ⟨rfl, rfl⟩, ⟨rfl, rfl⟩, by decide, by decide⟩
     ⟨by kernel_rfl, by kernel_rfl, by kernel_rfl, by kernel_rfl, by kernel_rfl, by kernel_rfl, by kernel_rfl, by kernel_rfl, by kernel_rfl⟩
     (by refine ⟨?_, ?_, ?_, ?_, ?_⟩ <;> simp) rfl rfl rfl
     (reads_take (Reads.own (ownsRow_mod Ho8.out hxw (fun _ _ f => f))) (k := 0) (by omega)) ?_ (prCells_one _) (prCells_one _) ⟨rfl, two_cells x.1 x.2, rfl⟩ ⟨by omega, by omega⟩ (ext_draw _) ?_
    ·exact Reads.own (ownsRow_mod Ho8.out hxw (fun _ _ f => f))
    ·intro w8 vA vB vC vD v8 hown8 hx8
     have Hs8 := Lib.hid (splice_own (k := 0) (B' := w.heap.size) hown8 (by omega) (Nat.le_trans hx.size hxw.size))
     have Hx8 := Lib.hid ((hx.ext_trans hxw).ext_trans hx8)
     clear hown8 hx8 hxw
     simp only [fr1, fr2, fr3, fr4]
     go_wp2_with fail
     go_roundw
     case rel => exact ⟨0 + 1, by omega, by go_num, Lib.hid ⟨by rw [Hts.out]; exact Hs8.out, fun h => absurd h (by omega)⟩, Hx8.out⟩
     case measure => simp [intOf]; omega
   ·obtain ⟨g, vc, rfl⟩ := owns_some HO.out.1 (by omega)
    obtain ⟨_, _, _, hkv, _⟩ := Go.Gim.owns_at HO.out.1
    have hkp : (0 : Int) < (k : Int) := by omega
    go_wp2_with fail
    go_loopg [5] k (fun c s5 wi => ∃ j : Nat, j = c ∧ j ≤ k ∧ s5 = .int .i64 j ∧ Hid (place lessS x S j = K ∧ wi.ownsRow w.heap.size 47 2 (.slice (some ⟨g, 0, none⟩) k vc) k (prCells S)) ∧ Ext w wi)
    case atStart => exact ⟨k, rfl, Nat.le_refl _, rfl, Lib.hid ⟨HK.out, HO.out.1⟩, hx⟩
    case round =>
     clear hx HO
     obtain ⟨j, hjc, hj, rfl, HC, hx⟩ := hrel
     have Hjc := Lib.hid hjc
     have Ho8 := Lib.hid HC.out.2
     clear hjc
     cases j with
     | zero =>
      have hK0 : (0 : Nat) = K := HC.out.1
      subst hK0
      go_wp2_with fail
      go_quiet (fail)
      go_wp2_with fail
      have hxw : Ext wr (wr.drewN nq) := ((Mod.refl _ wr).drewN nq)
      obtain ⟨q0, q1⟩ := reads_pair (Hr.out.mod (hx.ext_trans hxw) (fun _ _ f => f)) Hlx.out
      replace q0 : World.cell? (wr.drewN nq) ⟨b, (off + k * 2), none⟩ = _ := q0
      replace q1 : World.cell? (wr.drewN nq) ⟨b, (off + k * 2 + 1), none⟩ = _ := q1
      have HS := Lib.hid (fun w' (hw' : Ext (wr.drewN nq) w') => (⟨(hw'.cell (World.block_lt_of_cell? _ _ q0) (fun f => f)).trans q0, (hw'.cell (World.block_lt_of_cell? _ _ q1) (fun f => f)).trans q1, trivial, trivial⟩ : w'.cell? ⟨b, (off + k * 2), none⟩ = some (.int .i64 x.1) ∧ w'.cell? ⟨b, (off + k * 2 + 1), none⟩ = some (.int .i64 x.2) ∧ True ∧ True))
      clear q0 q1
      refine wp_region_E (by kernel_rfl) ?_
      refine wpE_t 1 38 (v := ?_) (fun w' hw' => qat_value ?_) ?_
      rotate_left
      ·go_simp
       rfl
      simp only [fr1, fr2, fr3, fr4]
      refine wpE_t 2 39 (v := ?_) (fun w' hw' => qat_value ?_) ?_
      rotate_left
      ·go_simp
       rfl
      simp only [fr1, fr2, fr3, fr4]
      refine wpE_t 3 40 (v := ?_) (fun w' hw' => qat_value ?_) ?_
      rotate_left
      ·go_simp
       rfl
      simp only [fr1, fr2, fr3, fr4]
      refine wpE_t 5 42 (v := ?_) (fun w' hw' => qat_value ?_) ?_
      rotate_left
      ·go_simp
       rfl
      simp only [fr1, fr2, fr3, fr4]
      refine wpE_t 6 43 (v := ?_) (fun w' hw' => qat_value ?_) ?_
      rotate_left
      ·go_simp
       rfl
      simp only [fr1, fr2, fr3, fr4]
      refine wpE_t 7 44 (v := ?_) (fun w' hw' => qat_value ?_) ?_
      rotate_left
      ·go_simp
       rfl
      simp only [fr1, fr2, fr3, fr4]
      refine wpE_t 8 45 (v := ?_) (fun w' hw' => ?_) ?_
      rotate_left
      ·obtain ⟨r0, r1, r2, r3⟩ := HS.out w' hw'
       refine qat_value ?_
       go_simp
       rfl
      simp only [fr1, fr2, fr3, fr4]
      refine wpE_t 11 48 (v := ?_) (fun w' hw' => qat_value ?_) ?_
      rotate_left
      ·go_simp
       rfl
      simp only [fr1, fr2, fr3, fr4]
      refine wpE_t 12 49 (v := ?_) (fun w' hw' => qat_value ?_) ?_
      rotate_left
      ·go_simp
       rfl
      simp only [fr1, fr2, fr3, fr4]
      refine wpE_t 13 50 (v := ?_) (fun w' hw' => qat_value ?_) ?_
      rotate_left
      ·go_simp
       rfl
      simp only [fr1, fr2, fr3, fr4]
      refine wpE_splice (xs1 := prCells (S.take 0)) (xs2 := prCells (S.drop 0)) (V := .agg #[.int .i64 x.1, .int .i64 x.2]) (dA := 37) (dB := 41) (dC := 46) (dD := 47) (dE := 51) (dF := 3) (s1 := 40) (s2 := 50) (x := 45) (iA := 0) (iB := 4) (iC := 9) (iD := 10) (iE := 14) (iF := 15) lits_sel Tryz.info47 Tryz.underlying32 rfl (by omega)
       ⟨rfl, rfl, rfl, rfl, rfl, rfl, ⟨rfl, rfl, rfl, rfl, rfl, rfl⟩, ⟨rfl, rfl⟩, ⟨rfl, rfl⟩, ⟨rfl, rfl⟩, ⟨rfl, rfl⟩, ⟨rfl, rfl⟩, ⟨rfl, rfl⟩, by decide, by decide⟩
       ⟨by kernel_rfl, by kernel_rfl, by kernel_rfl, by kernel_rfl, by kernel_rfl, by kernel_rfl, by kernel_rfl, by kernel_rfl, by kernel_rfl⟩
       (by refine ⟨?_, ?_, ?_, ?_, ?_⟩ <;> simp) rfl rfl rfl
       (reads_take (Reads.own (ownsRow_mod Ho8.out hxw (fun _ _ f => f))) (k := 0) (by omega)) ?_ (prCells_one _) (prCells_one _) ⟨rfl, two_cells x.1 x.2, rfl⟩ ⟨by omega, by omega⟩ (ext_draw _) ?_
      ·exact Reads.own (ownsRow_mod Ho8.out hxw (fun _ _ f => f))
      ·intro w8 vA vB vC vD v8 hown8 hx8
       have Hs8 := Lib.hid (splice_own (k := k) (B' := w.heap.size) hown8 (by omega) (Nat.le_trans hx.size hxw.size))
       have Hx8 := Lib.hid ((hx.ext_trans hxw).ext_trans hx8)
       clear hown8 hx8 hxw
       simp only [fr1, fr2, fr3, fr4]
       go_wp2_with fail
       go_roundw
       case rel => exact ⟨k + 1, by omega, by go_num, Lib.hid ⟨by rw [Hts.out]; exact Hs8.out, fun h => absurd h (by omega)⟩, Hx8.out⟩
       case measure => simp [intOf]; omega
     | succ j =>
      have hjk : j < k := by omega
      have hSj : S[j]? = some (S[j]'(by rw [Hsl.out]; exact hjk)) := List.getElem?_eq_getElem _
      have hpl : place lessS x S (j + 1) = if lessS x (S[j]'(by rw [Hsl.out]; exact hjk)) then place lessS x S j else j + 1 := by rw [place.eq_2, hSj]
      obtain ⟨d0, d1⟩ := owns_cell Ho8.out hSj
      generalize S[j]'(by rw [Hsl.out]; exact hjk) = y at *
      have hgl := (owns_block Ho8.out).2
      obtain ⟨q0, q1⟩ := reads_pair (Hr.out.mod hx (fun _ _ f => f)) Hlx.out
      have hbl := World.block_lt_of_cell? wr _ q0
      have e1 : decide ((0 : Int) < (j : Int) + 1) = true := decide_eq_true (by omega)
      have e3 : (0 : Int) ≤ (j : Int) := by omega
      have e4 : (j : Int) < (k : Int) := by omega
      have e5 : (j : Int) ≤ 1000 := by omega
      have hLL : lessB (spanI x) (spanI y) = lessS x y := rfl
      cases hL : lessS x y with
      | false =>
       rw [hL] at hpl hLL
       have hK1 : j + 1 = K := by rw [← HC.out.1, hpl]; rfl
       subst hK1
       clear hSj hpl hL
       go_wp2_with fail
       refine wp_region_ext_lit (by kernel_rfl) (by kernel_rfl) ?_
       repeat (go_big_quiet_step (first | (with_reducible exact Calls.ext_of (refSpan_any _ _)) | (with_reducible exact Calls.ext_of (refLess_any _ _ _))))
       refine wpQuiet_nil ?_
       intro we hxe
       clear d0 d1 q0 q1
       go_wp2_with fail
       have a1 : 0 ≤ (j : Int) + 1 := by omega
       have a2 : (j : Int) + 1 ≤ (vc : Int) := by omega
       have a3 : (j : Int) + 1 ≤ (k : Int) := by omega
       have hxw : Ext wr we := hxe
       obtain ⟨q0, q1⟩ := reads_pair (Hr.out.mod (hx.ext_trans hxw) (fun _ _ f => f)) Hlx.out
       replace q0 : World.cell? we ⟨b, (off + k * 2), none⟩ = _ := q0
       replace q1 : World.cell? we ⟨b, (off + k * 2 + 1), none⟩ = _ := q1
       have HS := Lib.hid (fun w' (hw' : Ext we w') => (⟨(hw'.cell (World.block_lt_of_cell? _ _ q0) (fun f => f)).trans q0, (hw'.cell (World.block_lt_of_cell? _ _ q1) (fun f => f)).trans q1, trivial, trivial⟩ : w'.cell? ⟨b, (off + k * 2), none⟩ = some (.int .i64 x.1) ∧ w'.cell? ⟨b, (off + k * 2 + 1), none⟩ = some (.int .i64 x.2) ∧ True ∧ True))
       clear q0 q1
       refine wp_region_E (by kernel_rfl) ?_
       refine wpE_t 1 38 (v := ?_) (fun w' hw' => qat_value ?_) ?_
       rotate_left
       ·go_simp
        rfl
       simp only [fr1, fr2, fr3, fr4]
       refine wpE_t 2 39 (v := ?_) (fun w' hw' => qat_value ?_) ?_
       rotate_left
       ·go_simp
        rfl
       simp only [fr1, fr2, fr3, fr4]
       refine wpE_t 3 40 (v := ?_) (fun w' hw' => qat_value ?_) ?_
       rotate_left
       ·go_simp
        rfl
       simp only [fr1, fr2, fr3, fr4]
       refine wpE_t 5 42 (v := ?_) (fun w' hw' => qat_value ?_) ?_
       rotate_left
       ·go_simp
        rfl
       simp only [fr1, fr2, fr3, fr4]
       refine wpE_t 6 43 (v := ?_) (fun w' hw' => qat_value ?_) ?_
       rotate_left
       ·go_simp
        rfl
       simp only [fr1, fr2, fr3, fr4]
       refine wpE_t 7 44 (v := ?_) (fun w' hw' => qat_value ?_) ?_
       rotate_left
       ·go_simp
        rfl
       simp only [fr1, fr2, fr3, fr4]
       refine wpE_t 8 45 (v := ?_) (fun w' hw' => ?_) ?_
       rotate_left
       ·obtain ⟨r0, r1, r2, r3⟩ := HS.out w' hw'
        refine qat_value ?_
        go_simp
        rfl
       simp only [fr1, fr2, fr3, fr4]
       refine wpE_t 11 48 (v := ?_) (fun w' hw' => qat_value ?_) ?_
       rotate_left
       ·go_simp
        rfl
       simp only [fr1, fr2, fr3, fr4]
       refine wpE_t 12 49 (v := ?_) (fun w' hw' => qat_value ?_) ?_
       rotate_left
       ·go_simp
        rfl
       simp only [fr1, fr2, fr3, fr4]
       refine wpE_t 13 50 (v := ?_) (fun w' hw' => qat_value ?_) ?_
       rotate_left
       ·go_simp
        rfl
       simp only [fr1, fr2, fr3, fr4]
       refine wpE_splice (xs1 := prCells (S.take (j + 1))) (xs2 := prCells (S.drop (j + 1))) (V := .agg #[.int .i64 x.1, .int .i64 x.2]) (dA := 37) (dB := 41) (dC := 46) (dD := 47) (dE := 51) (dF := 3) (s1 := 40) (s2 := 50) (x := 45) (iA := 0) (iB := 4) (iC := 9) (iD := 10) (iE := 14) (iF := 15) lits_sel Tryz.info47 Tryz.underlying32 rfl (by omega)
        ⟨rfl, rfl, rfl, rfl, rfl, rfl, ⟨rfl, rfl, rfl, rfl, rfl, rfl⟩, ⟨rfl, rfl⟩, ⟨rfl, rfl⟩, ⟨rfl, rfl⟩, ⟨rfl, rfl⟩, ⟨rfl, rfl⟩, ⟨rfl, rfl⟩, by decide, by decide⟩
        ⟨by kernel_rfl, by kernel_rfl, by kernel_rfl, by kernel_rfl, by kernel_rfl, by kernel_rfl, by kernel_rfl, by kernel_rfl, by kernel_rfl⟩
        (by refine ⟨?_, ?_, ?_, ?_, ?_⟩ <;> simp) rfl rfl rfl
        (reads_take (Reads.own (ownsRow_mod Ho8.out hxw (fun _ _ f => f))) (k := (j + 1)) (by omega)) ?_ (prCells_one _) (prCells_one _) ⟨rfl, two_cells x.1 x.2, rfl⟩ ⟨by omega, by omega⟩ (ext_draw _) ?_
       ·exact reads_rest (Reads.own (ownsRow_mod Ho8.out hxw (fun _ _ f => f))) (by omega) (by omega)
       ·intro w8 vA vB vC vD v8 hown8 hx8
        have Hs8 := Lib.hid (splice_own (k := k) (B' := w.heap.size) hown8 (by omega) (Nat.le_trans hx.size hxw.size))
        have Hx8 := Lib.hid ((hx.ext_trans hxw).ext_trans hx8)
        clear hown8 hx8 hxw
        simp only [fr1, fr2, fr3, fr4]
        go_wp2_with fail
        go_roundw
        case rel => exact ⟨k + 1, by omega, by go_num, Lib.hid ⟨by rw [Hts.out]; exact Hs8.out, fun h => absurd h (by omega)⟩, Hx8.out⟩
        case measure => simp [intOf]; omega
      | true =>
       rw [hL] at hpl hLL
       have HK1 := Lib.hid (show place lessS x S j = K by rw [← HC.out.1, hpl]; rfl)
       clear hSj hpl hL
       go_wp2_with fail
       refine wp_region_ext_lit (by kernel_rfl) (by kernel_rfl) ?_
       repeat (go_big_quiet_step (first | (with_reducible exact Calls.ext_of (refSpan_any _ _)) | (with_reducible exact Calls.ext_of (refLess_any _ _ _))))
       refine wpQuiet_nil ?_
       intro we hxe
       go_wp2_with fail
       go_roundg (j)
       case rel => exact ⟨j, rfl, by omega, by go_num, Lib.hid ⟨HK1.out, ownsRow_mod Ho8.out hxe (fun _ _ f => f)⟩, hx.ext_trans hxe⟩
       case measure => have := Hjc.out; omega
  ·have hlt' : ¬ (k : Int) < (N : Int) := by omega
   obtain rfl : k = N := by omega
   have hS := HO.out.1
   rw [HN.out, List.take_of_length_le (Nat.le_refl _), ← HN.out] at hS
   have Hsl := Lib.hid (show (sorted lessS l).length = k by rw [sorted_length]; exact HN.out.symm)
   have HZ := Lib.hid (show Z = merged (sorted lessS l) from HZ0.out)
   clear HZ0
   generalize sorted lessS l = S at *
   obtain ⟨g, vc, rfl⟩ := owns_some hS h0
   have HS0 := Lib.hid hS
   clear hS HO
   generalize wr = w2 at *
   obtain ⟨N, rfl⟩ : ∃ N, N = k := ⟨_, rfl⟩
   go_wp2_with fail
   go_loopw [6, 7] (fun v i wi => ∃ (k : Nat) (out : List (Int × Int)), k ≤ N ∧ i = .int .i64 k ∧ out.length ≤ k ∧ Hid (wi.ownsRow w2.heap.size 47 2 v out.length (prCells out) ∧ out = merged (S.take k)) ∧ Ext w2 wi) (fun _ i _ => N - (intOf i).toNat)
   case atStart => exact ⟨0, [], by omega, rfl, by simp, Lib.hid ⟨World.ownsRow_nil _ _ _ _, rfl⟩, Mod.refl _ _⟩
   case round =>
    obtain ⟨k, out, hk, rfl, hok, HO, hxr⟩ := hrel
    by_cases hlt : k < N
    ·have hlt' : (k : Int) < (N : Int) := by omega
     have hk0 : (0 : Int) ≤ (k : Int) := by omega
     have hSk : S[k]? = some (S[k]'(by rw [Hsl.out]; exact hlt)) := List.getElem?_eq_getElem _
     have HM := Lib.hid (merged_snoc S k _ hSk)
     obtain ⟨c0, c1'⟩ := owns_cell (ownsRow_mod HS0.out hxr (fun _ _ f => f)) hSk
     generalize S[k]'(by rw [Hsl.out]; exact hlt) = x at *
     have hgl := (owns_block (ownsRow_mod HS0.out hxr (fun _ _ f => f))).2
     clear hSk
     cases hout : out.length with
     | zero =>
      have hon := HO.out.1
      rw [hout] at hon
      obtain ⟨va, vc2, rfl⟩ := owns_nil hon
      have Hon := Lib.hid hon
      have Hme := Lib.hid (show merged (S.take (k + 1)) = out ++ [x] by rw [HM.out, ← HO.out.2, List.eq_nil_of_length_eq_zero hout]; rfl)
      have Hout := Lib.hid hout
      clear hon hout hok
      go_wp2_with fail
      go_quiet (fail)
      have hxm : Ext wr (wr.drewN nq) := (Mod.refl _ wr).drewN nq
      have hxf : Ext w2 (wr.drewN nq) := hxr.drewN nq
      have Hom := Lib.hid (ownsRow_mod Hon.out hxm (fun _ _ f => f))
      clear hxm
      go_wp2_with (at_builtin; refine wpList_append_reads rfl _ _ 32 rfl w2.heap.size 47 _ 2 16 Tryz.info47 Tryz.underlying32 rfl (by decide) _ (0) (prCells out) rfl (Hom.out.alloc _) _ 1 1 [.int .i64 x.1, .int .i64 x.2] rfl ?hrd (two_cells x.1 x.2) (by omega) (by omega) ?hbs ?_)
      case hrd =>
       have := Reads.new (wr.drewN nq) 47 #[.int .i64 x.1, .int .i64 x.2] 2 1 rfl
       simpa using this
      case hbs => have := hxf.size; simp at this ⊢; omega
      intro v' w4 hown hm4 hbk
      have hx4 := (hxf.alloc _).over hm4 (fun i hi => (Hom.out.lt i hi).1)
      have Hown := Lib.hid hown
      clear hm4 hbk hown hxf
      go_wp2_with fail
      go_roundw
      case rel => exact ⟨k + 1, out ++ [x], by omega, by go_num, by have := Hout.out; simp; omega, Lib.hid ⟨by rw [prCells_append, List.length_append, Hout.out]; exact Hown.out, Hme.out.symm⟩, hx4⟩
      case measure => simp [intOf]; omega
     | succ m =>
      have hon := HO.out.1
      rw [hout] at hon
      obtain ⟨go, co, rfl⟩ := owns_some hon (by omega)
      have hma : m < out.length := by omega
      have Hla := Lib.hid (show out.getLast? = some out[m] by rw [List.getLast?_eq_getElem?, hout, Nat.add_sub_cancel]; exact List.getElem?_eq_getElem hma)
      obtain ⟨d0, d1⟩ := owns_cell hon (List.getElem?_eq_getElem hma)
      obtain ⟨hgo1, hgo2⟩ := owns_block hon
      generalize out[m] = a at *
      have Hon := Lib.hid hon
      have Hout := Lib.hid hout
      have e1 : decide ((0 : Int) < (m : Int) + 1) = true := decide_eq_true (by omega)
      have e2 : (m : Int) ≤ 1000 := by omega
      have e3 : (0 : Int) ≤ (m : Int) := by omega
      have e4 : (m : Int) < (m : Int) + 1 := by omega
      clear hon hma
      cases hT : touchB (spanI a) (spanI x) with
      | false =>
       have Hme := Lib.hid (show merged (S.take (k + 1)) = out ++ [x] by rw [HM.out, ← HO.out.2, mergeS_no Hla.out hT])
       clear hout
       go_wp2_with fail
       refine wp_region_ext_lit (by kernel_rfl) (by kernel_rfl) ?_
       repeat (go_big_quiet_step (first | (with_reducible exact Calls.ext_of (refSpan_any _ _)) | (with_reducible exact Calls.ext_of (refTouch_any _ _ _))))
       refine wpQuiet_nil ?_
       intro we hxe
       replace c0 := (hxe.cell (p := ⟨g, k * 2, none⟩) hgl (fun f => f)).trans c0
       replace c1' := (hxe.cell (p := ⟨g, k * 2 + 1, none⟩) hgl (fun f => f)).trans c1'
       replace hgl := hxe.lt hgl
       clear d0 d1 hT e1
       have hxm : Ext wr we := hxe
       have hxf : Ext w2 we := hxr.ext_trans hxe
       have Hom := Lib.hid (ownsRow_mod Hon.out hxm (fun _ _ f => f))
       clear hxm
       go_wp2_with (at_builtin; refine wpList_append_reads rfl _ _ 32 rfl w2.heap.size 47 _ 2 16 Tryz.info47 Tryz.underlying32 rfl (by decide) _ ((m + 1)) (prCells out) rfl (Hom.out.alloc _) _ 1 1 [.int .i64 x.1, .int .i64 x.2] rfl ?hrd (two_cells x.1 x.2) (by omega) (by omega) ?hbs ?_)
       case hrd =>
        have := Reads.new we 47 #[.int .i64 x.1, .int .i64 x.2] 2 1 rfl
        simpa using this
       case hbs => have := hxf.size; simp at this ⊢; omega
       intro v' w4 hown hm4 hbk
       have hx4 := (hxf.alloc _).over hm4 (fun i hi => (Hom.out.lt i hi).1)
       have Hown := Lib.hid hown
       clear hm4 hbk hown hxf
       go_wp2_with fail
       go_roundw
       case rel => exact ⟨k + 1, out ++ [x], by omega, by go_num, by have := Hout.out; simp; omega, Lib.hid ⟨by rw [prCells_append, List.length_append, Hout.out]; exact Hown.out, Hme.out.symm⟩, hx4⟩
       case measure => simp [intOf]; omega
      | true =>
       have Hme := Lib.hid (show merged (S.take (k + 1)) = out.set m (fuse a x) by rw [HM.out, ← HO.out.2, mergeS_yes Hla.out hT, Hout.out, Nat.add_sub_cancel])
       clear hout
       unfold fuse at Hme
       by_cases hmx : (spanI x).2 ≤ (spanI a).2
       ·rw [show max (spanI a).2 (spanI x).2 = (spanI a).2 from by omega] at Hme
        have hmx2 : ¬ (spanI a).2 < (spanI x).2 := by omega
        have Hof := Lib.hid (show (if a.2 < a.1 then ((spanI a).2, (spanI a).1) else ((spanI a).1, (spanI a).2)) = ofS ((spanI a).1, (spanI a).2) (decide (a.2 < a.1)) by unfold ofS; by_cases h : a.2 < a.1 <;> simp [h])
        rw [Hof.out] at Hme
        clear Hof
        go_wp2_with fail
        refine wp_region_ext_lit (by kernel_rfl) (by kernel_rfl) ?_
        repeat (go_big_quiet_step (first | (with_reducible exact Calls.ext_of (refSpan_any _ _)) | (with_reducible exact Calls.ext_of (refTouch_any _ _ _))))
        refine wpQuiet_nil ?_
        intro we hxe
        have HT := Lib.hid hT
        clear hT
        go_wp2_with fail
        have HS := Lib.hid (fun w' (hw' : Ext we w') => (⟨(hw'.cell (hxe.lt hgl) (fun f => f)).trans ((hxe.cell (p := ⟨g, k * 2, none⟩) hgl (fun f => f)).trans c0), (hw'.cell (hxe.lt hgl) (fun f => f)).trans ((hxe.cell (p := ⟨g, k * 2 + 1, none⟩) hgl (fun f => f)).trans c1'), (hw'.cell (hxe.lt hgo2) (fun f => f)).trans ((hxe.cell (p := ⟨go, m * 2, none⟩) hgo2 (fun f => f)).trans d0), (hw'.cell (hxe.lt hgo2) (fun f => f)).trans ((hxe.cell (p := ⟨go, m * 2 + 1, none⟩) hgo2 (fun f => f)).trans d1)⟩ : w'.cell? ⟨g, k * 2, none⟩ = some (.int .i64 x.1) ∧ w'.cell? ⟨g, k * 2 + 1, none⟩ = some (.int .i64 x.2) ∧ w'.cell? ⟨go, m * 2, none⟩ = some (.int .i64 a.1) ∧ w'.cell? ⟨go, m * 2 + 1, none⟩ = some (.int .i64 a.2)))
        have hwr : IntKind.i64.wrap (m : Int) = (m : Int) := IntWalk.i64_in _ (by omega)
        refine wp_region_E (by kernel_rfl) ?_
        refine wpE_t 0 76 (v := ?_) (fun w' hw' => qat_value ?_) ?_
        rotate_left
        ·go_simp
         rfl
        simp only [fr1, fr2, fr3, fr4]
        refine wpE_t 1 77 (v := ?_) (fun w' hw' => qat_value ?_) ?_
        rotate_left
        ·go_simp
         rfl
        simp only [fr1, fr2, fr3, fr4]
        refine wpE_t 2 78 (v := ?_) (fun w' hw' => qat_value ?_) ?_
        rotate_left
        ·go_simp
         rfl
        simp only [fr1, fr2, fr3, fr4]
        refine wpE_t 3 79 (v := ?_) (fun w' hw' => qat_value ?_) ?_
        rotate_left
        ·go_simp
         rfl
        simp only [fr1, fr2, fr3, fr4]
        clear hwr
        refine wpE_t 4 80 (v := ?_) (fun w' hw' => ?_) ?_
        rotate_left
        ·obtain ⟨r0, r1, r2, r3⟩ := HS.out w' hw'
         refine qat_value ?_
         go_simp
         rfl
        simp only [fr1, fr2, fr3, fr4]
        refine wpE_t 5 81 (v := ?_) (fun w' hw' => ?_) ?_
        rotate_left
        ·refine qat_enter (by go_simp; exact ⟨rfl, rfl⟩) ?_
         exact refSpan_any a _
        simp only [fr1, fr2, fr3, fr4]
        refine wpE_t 6 82 (v := ?_) (fun w' hw' => qat_value ?_) ?_
        rotate_left
        ·go_simp
         rfl
        simp only [fr1, fr2, fr3, fr4]
        refine wpE_t 7 83 (v := ?_) (fun w' hw' => qat_value ?_) ?_
        rotate_left
        ·go_simp
         rfl
        simp only [fr1, fr2, fr3, fr4]
        refine wpE_t 8 84 (v := ?_) (fun w' hw' => qat_value ?_) ?_
        rotate_left
        ·go_simp
         rfl
        simp only [fr1, fr2, fr3, fr4]
        refine wpE_t 9 85 (v := ?_) (fun w' hw' => ?_) ?_
        rotate_left
        ·obtain ⟨r0, r1, r2, r3⟩ := HS.out w' hw'
         refine qat_value ?_
         go_simp
         rfl
        simp only [fr1, fr2, fr3, fr4]
        refine wpE_t 10 86 (v := ?_) (fun w' hw' => ?_) ?_
        rotate_left
        ·refine qat_enter (by go_simp; exact ⟨rfl, rfl⟩) ?_
         exact refSpan_any x _
        simp only [fr1, fr2, fr3, fr4]
        refine wpE_boxes2 (T := 49) (x := (.int .i64 (spanI a).1, .int .i64 (spanI a).2)) (y := (.int .i64 (spanI x).1, .int .i64 (spanI x).2)) box2_span 11 12 13 14 9 10 81 86 rfl rfl rfl rfl ⟨rfl, rfl, rfl, rfl⟩ ⟨rfl, rfl⟩ ⟨rfl, rfl⟩ ⟨rfl, rfl⟩ ⟨rfl, rfl⟩ (by kernel_rfl) (by kernel_rfl) (by kernel_rfl) (by kernel_rfl) (by kernel_rfl) (by kernel_rfl) (by omega) (by refine ⟨?_, ?_, ?_, ?_, ?_, ?_, ?_⟩ <;> simp) rfl rfl ⟨rfl, rfl, rfl, rfl⟩ (ext_draw _) ?_
        intro wf p q htb
        simp only [fr1, fr2, fr3, fr4]
        obtain ⟨hxf, _, _, hpq, bp, bq⟩ := htb
        have hxef := hxe.ext_trans hxf
        have Hon2 := Lib.hid (ownsRow_mod Hon.out hxef (fun _ _ f => f))
        clear HS c0 c1' d0 d1
        obtain ⟨d0, d1⟩ := owns_cell Hon2.out (k := m) (x := a) (by rw [List.getLast?_eq_getElem?, Hout.out, Nat.add_sub_cancel] at Hla; exact Hla.out)
        have d2 : wf.cell? ⟨p, 0, none⟩ = some (.int .i64 (spanI a).1) := bp.cell 0
        have d3 : wf.cell? ⟨p, 1, none⟩ = some (.int .i64 (spanI a).2) := bp.cell 1
        have d4 : wf.cell? ⟨q, 1, none⟩ = some (.int .i64 (spanI x).2) := bq.cell 1
        have lp := bp.lt
        have lq := bq.lt
        have hgo3 := hxef.lt hgo2
        clear bp bq e1
        go_wp2_with fail
        refine wp_region_ext_tail 25 (by kernel_rfl) (by kernel_rfl) ?_
        simp only [List.take_succ_cons, List.take_zero, List.drop_succ_cons, List.drop_zero]
        repeat (go_big_quiet_step (exact Calls.ext_of (refOfS_any ((spanI a).1, (spanI a).2) _ _)))
        refine wpQuiet_nil ?_
        intro wg hxg
        generalize ofS ((spanI a).1, (spanI a).2) (decide (a.2 < a.1)) = Fx at *
        have Hon3 := Lib.hid (ownsRow_mod Hon2.out hxg (fun _ _ f => f))
        clear d0 d1 d2 d3 d4 lp lq Hon2
        obtain ⟨d0, d1⟩ := owns_cell Hon3.out (k := m) (x := a) (by rw [List.getLast?_eq_getElem?, Hout.out, Nat.add_sub_cancel] at Hla; exact Hla.out)
        have g0 := owns_free Hon3.out (m * 2)
        have g1 := owns_free Hon3.out (m * 2 + 1)
        replace hgo3 := hxg.lt hgo3
        go_wp2_with fail
        go_roundw
        case rel =>
         have hs := owns_set Hon3.out m (by omega) Fx
         exact ⟨k + 1, out.set m Fx, by omega, by go_num, by rw [List.length_set]; omega, Lib.hid ⟨by rw [List.length_set, Hout.out]; exact hs, Hme.out.symm⟩, (((hxr.ext_trans hxef).ext_trans hxg).setCell (p := ⟨go, m * 2, none⟩) (fun h => absurd h (Nat.not_lt.2 hgo1)) _).setCell (p := ⟨go, m * 2 + 1, none⟩) (fun h => absurd h (Nat.not_lt.2 hgo1)) _⟩
        case measure => simp [intOf]; omega
       ·rw [show max (spanI a).2 (spanI x).2 = (spanI x).2 from by omega] at Hme
        have hmx2 : (spanI a).2 < (spanI x).2 := by omega
        have Hof := Lib.hid (show (if a.2 < a.1 then ((spanI x).2, (spanI a).1) else ((spanI a).1, (spanI x).2)) = ofS ((spanI a).1, (spanI x).2) (decide (a.2 < a.1)) by unfold ofS; by_cases h : a.2 < a.1 <;> simp [h])
        rw [Hof.out] at Hme
        clear Hof
        go_wp2_with fail
        refine wp_region_ext_lit (by kernel_rfl) (by kernel_rfl) ?_
        repeat (go_big_quiet_step (first | (with_reducible exact Calls.ext_of (refSpan_any _ _)) | (with_reducible exact Calls.ext_of (refTouch_any _ _ _))))
        refine wpQuiet_nil ?_
        intro we hxe
        have HT := Lib.hid hT
        clear hT
        go_wp2_with fail
        have HS := Lib.hid (fun w' (hw' : Ext we w') => (⟨(hw'.cell (hxe.lt hgl) (fun f => f)).trans ((hxe.cell (p := ⟨g, k * 2, none⟩) hgl (fun f => f)).trans c0), (hw'.cell (hxe.lt hgl) (fun f => f)).trans ((hxe.cell (p := ⟨g, k * 2 + 1, none⟩) hgl (fun f => f)).trans c1'), (hw'.cell (hxe.lt hgo2) (fun f => f)).trans ((hxe.cell (p := ⟨go, m * 2, none⟩) hgo2 (fun f => f)).trans d0), (hw'.cell (hxe.lt hgo2) (fun f => f)).trans ((hxe.cell (p := ⟨go, m * 2 + 1, none⟩) hgo2 (fun f => f)).trans d1)⟩ : w'.cell? ⟨g, k * 2, none⟩ = some (.int .i64 x.1) ∧ w'.cell? ⟨g, k * 2 + 1, none⟩ = some (.int .i64 x.2) ∧ w'.cell? ⟨go, m * 2, none⟩ = some (.int .i64 a.1) ∧ w'.cell? ⟨go, m * 2 + 1, none⟩ = some (.int .i64 a.2)))
        have hwr : IntKind.i64.wrap (m : Int) = (m : Int) := IntWalk.i64_in _ (by omega)
        refine wp_region_E (by kernel_rfl) ?_
        refine wpE_t 0 76 (v := ?_) (fun w' hw' => qat_value ?_) ?_
        rotate_left
        ·go_simp
         rfl
        simp only [fr1, fr2, fr3, fr4]
        refine wpE_t 1 77 (v := ?_) (fun w' hw' => qat_value ?_) ?_
        rotate_left
        ·go_simp
         rfl
        simp only [fr1, fr2, fr3, fr4]
        refine wpE_t 2 78 (v := ?_) (fun w' hw' => qat_value ?_) ?_
        rotate_left
        ·go_simp
         rfl
        simp only [fr1, fr2, fr3, fr4]
        refine wpE_t 3 79 (v := ?_) (fun w' hw' => qat_value ?_) ?_
        rotate_left
        ·go_simp
         rfl
        simp only [fr1, fr2, fr3, fr4]
        clear hwr
        refine wpE_t 4 80 (v := ?_) (fun w' hw' => ?_) ?_
        rotate_left
        ·obtain ⟨r0, r1, r2, r3⟩ := HS.out w' hw'
         refine qat_value ?_
         go_simp
         rfl
        simp only [fr1, fr2, fr3, fr4]
        refine wpE_t 5 81 (v := ?_) (fun w' hw' => ?_) ?_
        rotate_left
        ·refine qat_enter (by go_simp; exact ⟨rfl, rfl⟩) ?_
         exact refSpan_any a _
        simp only [fr1, fr2, fr3, fr4]
        refine wpE_t 6 82 (v := ?_) (fun w' hw' => qat_value ?_) ?_
        rotate_left
        ·go_simp
         rfl
        simp only [fr1, fr2, fr3, fr4]
        refine wpE_t 7 83 (v := ?_) (fun w' hw' => qat_value ?_) ?_
        rotate_left
        ·go_simp
         rfl
        simp only [fr1, fr2, fr3, fr4]
        refine wpE_t 8 84 (v := ?_) (fun w' hw' => qat_value ?_) ?_
        rotate_left
        ·go_simp
         rfl
        simp only [fr1, fr2, fr3, fr4]
        refine wpE_t 9 85 (v := ?_) (fun w' hw' => ?_) ?_
        rotate_left
        ·obtain ⟨r0, r1, r2, r3⟩ := HS.out w' hw'
         refine qat_value ?_
         go_simp
         rfl
        simp only [fr1, fr2, fr3, fr4]
        refine wpE_t 10 86 (v := ?_) (fun w' hw' => ?_) ?_
        rotate_left
        ·refine qat_enter (by go_simp; exact ⟨rfl, rfl⟩) ?_
         exact refSpan_any x _
        simp only [fr1, fr2, fr3, fr4]
        refine wpE_boxes2 (T := 49) (x := (.int .i64 (spanI a).1, .int .i64 (spanI a).2)) (y := (.int .i64 (spanI x).1, .int .i64 (spanI x).2)) box2_span 11 12 13 14 9 10 81 86 rfl rfl rfl rfl ⟨rfl, rfl, rfl, rfl⟩ ⟨rfl, rfl⟩ ⟨rfl, rfl⟩ ⟨rfl, rfl⟩ ⟨rfl, rfl⟩ (by kernel_rfl) (by kernel_rfl) (by kernel_rfl) (by kernel_rfl) (by kernel_rfl) (by kernel_rfl) (by omega) (by refine ⟨?_, ?_, ?_, ?_, ?_, ?_, ?_⟩ <;> simp) rfl rfl ⟨rfl, rfl, rfl, rfl⟩ (ext_draw _) ?_
        intro wf p q htb
        simp only [fr1, fr2, fr3, fr4]
        obtain ⟨hxf, _, _, hpq, bp, bq⟩ := htb
        have hxef := hxe.ext_trans hxf
        have Hon2 := Lib.hid (ownsRow_mod Hon.out hxef (fun _ _ f => f))
        clear HS c0 c1' d0 d1
        obtain ⟨d0, d1⟩ := owns_cell Hon2.out (k := m) (x := a) (by rw [List.getLast?_eq_getElem?, Hout.out, Nat.add_sub_cancel] at Hla; exact Hla.out)
        have d2 : wf.cell? ⟨p, 0, none⟩ = some (.int .i64 (spanI a).1) := bp.cell 0
        have d3 : wf.cell? ⟨p, 1, none⟩ = some (.int .i64 (spanI a).2) := bp.cell 1
        have d4 : wf.cell? ⟨q, 1, none⟩ = some (.int .i64 (spanI x).2) := bq.cell 1
        have lp := bp.lt
        have lq := bq.lt
        have hgo3 := hxef.lt hgo2
        clear bp bq e1
        go_wp2_with fail
        refine wp_region_ext_tail 25 (by kernel_rfl) (by kernel_rfl) ?_
        simp only [List.take_succ_cons, List.take_zero, List.drop_succ_cons, List.drop_zero]
        repeat (go_big_quiet_step (exact Calls.ext_of (refOfS_any ((spanI a).1, (spanI x).2) _ _)))
        refine wpQuiet_nil ?_
        intro wg hxg
        generalize ofS ((spanI a).1, (spanI x).2) (decide (a.2 < a.1)) = Fx at *
        have Hon3 := Lib.hid (ownsRow_mod Hon2.out hxg (fun _ _ f => f))
        clear d0 d1 d2 d3 d4 lp lq Hon2
        obtain ⟨d0, d1⟩ := owns_cell Hon3.out (k := m) (x := a) (by rw [List.getLast?_eq_getElem?, Hout.out, Nat.add_sub_cancel] at Hla; exact Hla.out)
        have g0 := owns_free Hon3.out (m * 2)
        have g1 := owns_free Hon3.out (m * 2 + 1)
        replace hgo3 := hxg.lt hgo3
        go_wp2_with fail
        go_roundw
        case rel =>
         have hs := owns_set Hon3.out m (by omega) Fx
         exact ⟨k + 1, out.set m Fx, by omega, by go_num, by rw [List.length_set]; omega, Lib.hid ⟨by rw [List.length_set, Hout.out]; exact hs, Hme.out.symm⟩, (((hxr.ext_trans hxef).ext_trans hxg).setCell (p := ⟨go, m * 2, none⟩) (fun h => absurd h (Nat.not_lt.2 hgo1)) _).setCell (p := ⟨go, m * 2 + 1, none⟩) (fun h => absurd h (Nat.not_lt.2 hgo1)) _⟩
        case measure => simp [intOf]; omega
    ·have hlt' : ¬ (k : Int) < (N : Int) := by omega
     obtain rfl : k = N := by omega
     have HO2 := HO.out
     rw [List.take_of_length_le (by rw [Hsl.out]; exact Nat.le_refl _)] at HO2
     obtain ⟨ho1, ho3⟩ := HO2
     have ho2 : out = Z := ho3.trans HZ.out.symm
     clear ho3
     subst ho2
     have hpos : 0 < out.length := by
      rw [HZ.out]
      have hlast : S[k - 1]? = some (S[k - 1]'(by rw [Hsl.out]; omega)) := List.getElem?_eq_getElem _
      have := merged_snoc S (k - 1) _ hlast
      rw [List.take_of_length_le (by rw [Hsl.out]; omega)] at this
      rw [this]; exact mergeS_pos _ _
     obtain ⟨go, co, rfl⟩ := owns_some ho1 hpos
     have HO3 := Lib.hid (ownsRow_base ho1 hx.size)
     clear ho1 HO
     go_wp2_with fail
     go_ret
     exact ⟨go, co, rfl, HO3.out, hx.ext_trans hxr⟩
end Go.Proofs.YthlmgoagnfkhdaaGreat

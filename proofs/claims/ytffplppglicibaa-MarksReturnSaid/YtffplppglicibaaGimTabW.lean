/- marks.Table: where, Kids, At, Twin. Conditions: a table that may be. -/
import Derived.Test.YtffplppglicibaaGimAdd
import Derived.Test.YtffplppglicibaaGimTabMoveP
import Derived.Test.YtffplppglicibaaGimIds
namespace Go.Gim
theorem rdIn_at {w : World} {b off n : Nat} {l : List Int} (h : Reads w 1 (some ⟨b, off, none⟩) n (inE.cells l)) {i : Nat} {x : Int} (hx : l[i]? = some x) : w.cell? ⟨b, off + i, none⟩ = some (.int .i64 x) := by
  have := Enc.reads_at (E := inE) (j := 0) h hx rfl
  rwa [show inE.k = 1 from rfl, Nat.mul_one, Nat.add_zero] at this
theorem idsBy_snoc (so : Rg → Bool) {L : Tb} {k : Nat} {x : Int × Rg} (hx : L[k]? = some x) : idsBy so (L.take (k + 1)) = idsBy so (L.take k) ++ (if so x.2 then [x.1] else []) := by
  obtain ⟨hk, rfl⟩ := List.getElem?_eq_some_iff.1 hx
  unfold idsBy idsR
  rw [List.take_succ_eq_append_getElem hk, List.filter_append, List.map_append]
  congr 1
  cases h : so L[k].2 <;> simp [h]
theorem idsBy_len (so : Rg → Bool) (L : Tb) : (idsBy so L).length ≤ L.length := by
  unfold idsBy idsR
  rw [List.length_map]
  exact List.length_filter_le _ _
end Go.Gim
namespace Go.Proofs.Ytffplppglicibaa
open Go.RowKit Go.Gim

theorem Try.info3 : (Try.prog.info? 3).map (fun i => (i.zero, i.size, i.bytes)) = some (some (.int .i64 0), 1, 8) := by kernel_rfl

set_option maxHeartbeats 1600000 in
set_option maxRecDepth 1000000 in
theorem where_any (g Bx : Nat) (so : Rg → Bool) (tb mb : Nat) (L : Tb) (last Bd : Int) (w : World) (h : TabAt w tb mb L last) (hT : Tok L last Bd)
    (HF : ∀ (r : Rg) w', Ext w w' → Calls Try.prog g #[.agg #[.int .i64 r.a, .int .i64 r.b, .bool r.p, .bool r.q, .int .i64 r.u], .pointer (some ⟨Bx, 0, none⟩)] w' fun e w2 => e = .returned (.bool (so r)) ∧ Ext w' w2)
    (hg : Enters Try.prog g) :
    Calls Try.prog 47 #[.pointer (some ⟨tb, 0, none⟩), .func (.func g) #[] #[.pointer (some ⟨Bx, 0, none⟩)]] w (inE.Out 3 (idsBy so L) w) := by
  have hl1 : maxLen = 9223372036854775807 := rfl
  have hlen := hT.len
  have hids := Lib.hid (ids_any tb mb last L w h.blk h.map hT.rise (by omega))
  have H := Lib.hid h
  have HT := Lib.hid hT
  have HF' := Lib.hid HF
  unfold Enc.Out at hids ⊢
  obtain ⟨N, hN⟩ : ∃ N, N = L.length := ⟨_, rfl⟩
  have HN := Lib.hid hN
  have hl2 : (idsR L).length = N := by simp [idsR, hN]
  rw [hl2] at hids
  rw [← hN] at hlen
  have Hl2 := Lib.hid hl2
  have he : ∀ args w', (callFunc g args).run Try.prog w' = .ok (.enter g args) w' := hg
  clear h hT HF hN hl2 hg
  go_enter Try.func47, Try.ntmps47
  go_wp2_with fail
  refine hids.out.mono ?_
  rintro e w1 ⟨v, rfl, hov, hx1⟩
  obtain ⟨a1, c1, rfl, hrd⟩ := Enc.owns_reads (E := inE) hov
  have Hrd := Lib.hid hrd
  clear hov hrd hids
  go_wp2_with fail
  go_loopw [5, 11] (fun v i wr => ∃ k : Nat, k ≤ N ∧ i = .int .i64 k ∧ Hid (wr.ownsRow w1.heap.size 3 1 v (idsBy so (L.take k)).length (inE.cells (idsBy so (L.take k)))) ∧ Ext w1 wr) (fun _ i _ => N - (intOf i).toNat)
  case atStart => exact ⟨0, by omega, rfl, Lib.hid (World.ownsRow_nil _ _ _ _), Mod.refl _ _⟩
  case round =>
    obtain ⟨k, hk, rfl, HO, hy⟩ := hrel
    have hx := hx1.ext_trans hy
    have Hrdk := Lib.hid (Hrd.out.mod hy (fun _ _ f => f))
    by_cases hlt : k < N
    · have hlt' : (k : Int) < (N : Int) := by omega
      have hk0 : (0 : Int) ≤ (k : Int) := by omega
      obtain ⟨b, off, rfl⟩ := Hrd.out.some (by omega)
      have hkL : L[k]? = some (L[k]'(by rw [← HN.out]; exact hlt)) := List.getElem?_eq_getElem _
      have q0 := rdIn_at Hrdk.out (show (idsR L)[k]? = some (L[k]'(by rw [← HN.out]; exact hlt)).1 by unfold idsR; rw [List.getElem?_map, hkL]; rfl)
      have hst := idsBy_snoc so hkL
      have hgr := getR_of_mem HT.out.once (show ((L[k]'(by rw [← HN.out]; exact hlt)).1, (L[k]'(by rw [← HN.out]; exact hlt)).2) ∈ L from List.getElem_mem _)
      have hib := HT.out.ids _ (List.getElem_mem (l := L) (by rw [← HN.out]; exact hlt))
      have hl0 := HT.out.last0
      generalize L[k]'(by rw [← HN.out]; exact hlt) = x at *
      obtain ⟨id, r⟩ := x
      simp only at q0 hst hgr hib
      have hlook := (H.out.ext hx).look1 (id_wf (show -9223372036854775808 ≤ id by omega) (by omega)) _ hgr
      rw [show (some r).getD rg0 = r from rfl] at hlook
      unfold rgV at hlook
      have c0 := (H.out.ext hx).blk.cell 0
      simp only [List.getElem?_toArray, List.getElem?_cons_zero] at c0
      have hlt2 := (H.out.ext hx).blk.lt
      have hlb := idsBy_len so (L.take k)
      rw [List.length_take] at hlb
      have Hst := Lib.hid hst
      have Hlt := Lib.hid hlt
      have Hlb := Lib.hid hlb
      clear hst hgr hib hkL hlb
      go_wp2_with fail
      refine (HF'.out r _ hx).mono ?_
      rintro e w3 ⟨rfl, hx3⟩
      clear q0 hlook c0 hlt2
      have hon := ownsRow_mod HO.out hx3 (fun _ _ f => f)
      have Hon := Lib.hid hon
      have hx4 := hy.ext_trans hx3
      clear hon
      cases hso : so r with
      | false =>
        rw [hso, if_neg (by decide), List.append_nil] at Hst
        go_wp2_with fail
        go_roundw
        case rel => exact ⟨k + 1, Hlt.out, by go_num, Lib.hid (by rw [Hst.out]; exact Hon.out), hx4⟩
        case measure => have := Hlt.out; simp [intOf]; omega
      | true =>
        rw [hso, if_pos rfl] at Hst
        generalize idsBy so (L.take k) = S at *
        go_wp2_with (at_builtin; refine wpList_append_reads rfl _ _ 43 rfl w1.heap.size 3 _ 1 8 Try.info3 Try.underlying43 rfl (by decide) _ S.length _ rfl (Hon.out.alloc _) _ 1 1 [.int .i64 id] rfl ?hrd (inE.one id) (by have := Hlb.out; omega) (by have := Hlb.out; omega) ?hbs ?_)
        case hrd =>
          have := Reads.new w3 3 #[.int .i64 id] 1 1 rfl
          simpa using this
        case hbs => have := hx4.size; simp; omega
        intro v' w4 hown hm4 hbk
        have hx5 := (hx4.alloc _).over hm4 (fun i hi => (Hon.out.lt i hi).1)
        have Hown := Lib.hid hown
        clear hm4 hbk hown
        go_wp2_with fail
        go_roundw
        case rel => exact ⟨k + 1, Hlt.out, by go_num, Lib.hid (by rw [Hst.out, inE.cells_append, List.length_append]; exact Hown.out), hx5⟩
        case measure => have := Hlt.out; simp [intOf]; omega
    · have hlt' : ¬ (k : Int) < (N : Int) := by omega
      obtain rfl : k = N := by omega
      have hS := HO.out
      rw [List.take_of_length_le (by rw [← HN.out]; exact Nat.le_refl _)] at hS
      have HS0 := Lib.hid hS
      clear hS HO
      go_wp2_with fail
      go_ret
      exact ⟨_, rfl, ownsRow_base HS0.out hx1.size, hx⟩

set_option maxHeartbeats 800000 in
set_option maxRecDepth 1000000 in
theorem kids1_any (id : Int) (r : Rg) (Bx : Nat) (w : World) (hb : w.cell? ⟨Bx, 0, none⟩ = some (.int .i64 id)) :
    Calls Try.prog 48 #[.agg #[.int .i64 r.a, .int .i64 r.b, .bool r.p, .bool r.q, .int .i64 r.u], .pointer (some ⟨Bx, 0, none⟩)] w fun e w' => e = .returned (.bool (r.u == id)) ∧ Ext w w' := by
  have hlt := World.block_lt_of_cell? w _ hb
  obtain ⟨ra, rb, rp, rq, ru⟩ := r
  go_enter Try.func48, Try.ntmps48
  go_wp2_with fail
  go_ret
  exact ⟨rfl, (Mod.refl _ w).alloc _⟩
set_option maxHeartbeats 800000 in
set_option maxRecDepth 1000000 in
theorem at1_any (o : Int) (r : Rg) (Bx : Nat) (w : World) (hb : w.cell? ⟨Bx, 0, none⟩ = some (.int .i64 o)) :
    Calls Try.prog 49 #[.agg #[.int .i64 r.a, .int .i64 r.b, .bool r.p, .bool r.q, .int .i64 r.u], .pointer (some ⟨Bx, 0, none⟩)] w fun e w' => e = .returned (.bool (hasS (r.a, r.b) o)) ∧ Ext w w' := by
  have hlt := World.block_lt_of_cell? w _ hb
  have HH := Lib.hid (fun w' => spHas_any (r.a, r.b) o w')
  obtain ⟨ra, rb, rp, rq, ru⟩ := r
  go_enter Try.func49, Try.ntmps49
  go_wp2_with fail
  refine (HH.out _).mono ?_
  rintro e w' ⟨rfl, hx⟩
  go_wp2_with fail
  go_ret
  exact ⟨rfl, ((Mod.refl _ w).alloc _).ext_trans hx⟩
set_option maxHeartbeats 800000 in
set_option maxRecDepth 1000000 in
theorem tkids_any (tb mb : Nat) (L : Tb) (last Bd id : Int) (w : World) (h : TabAt w tb mb L last) (hT : Tok L last Bd) :
    Calls Try.prog 27 #[.pointer (some ⟨tb, 0, none⟩), .int .i64 id] w (inE.Out 3 (idsBy (fun r => r.u == id) L) w) := by
  obtain ⟨u, hu⟩ : ∃ u, u = w.alloc (.cells #[.int .i64 id] 3) := ⟨_, rfl⟩
  have hxu : Ext w u := by rw [hu]; exact (Mod.refl _ w).alloc _
  have hbu : Blk u w.heap.size 3 #[.int .i64 id] := by rw [hu]; exact Blk.new _ _ _
  have HW := Lib.hid (where_any 48 w.heap.size (fun r => r.u == id) tb mb L last Bd u (h.ext hxu) hT (fun r w' hx => kids1_any id r w.heap.size w' ((hbu.mod hx (fun f => f)).cell 0)) (enters_of Try.func48 (by kernel_rfl) rfl))
  unfold Enc.Out at HW ⊢
  generalize idsBy (fun r => r.u == id) L = S at *
  clear hbu h hT
  go_enter Try.func27, Try.ntmps27
  go_wp2_with fail
  rw [← hu]
  clear hu
  refine HW.out.mono ?_
  rintro e w2 ⟨v, rfl, hov, hx2⟩
  have Hov := Lib.hid hov
  clear hov HW
  go_wp2_with fail
  go_ret
  exact ⟨_, rfl, ownsRow_base Hov.out hxu.size, hxu.ext_trans hx2⟩
set_option maxHeartbeats 800000 in
set_option maxRecDepth 1000000 in
theorem tat_any (tb mb : Nat) (L : Tb) (last Bd o : Int) (w : World) (h : TabAt w tb mb L last) (hT : Tok L last Bd) :
    Calls Try.prog 29 #[.pointer (some ⟨tb, 0, none⟩), .int .i64 o] w (inE.Out 3 (idsBy (fun r => hasS (r.a, r.b) o) L) w) := by
  obtain ⟨u, hu⟩ : ∃ u, u = w.alloc (.cells #[.int .i64 o] 3) := ⟨_, rfl⟩
  have hxu : Ext w u := by rw [hu]; exact (Mod.refl _ w).alloc _
  have hbu : Blk u w.heap.size 3 #[.int .i64 o] := by rw [hu]; exact Blk.new _ _ _
  have HW := Lib.hid (where_any 49 w.heap.size (fun r => hasS (r.a, r.b) o) tb mb L last Bd u (h.ext hxu) hT (fun r w' hx => at1_any o r w.heap.size w' ((hbu.mod hx (fun f => f)).cell 0)) (enters_of Try.func49 (by kernel_rfl) rfl))
  unfold Enc.Out at HW ⊢
  generalize idsBy (fun r => hasS (r.a, r.b) o) L = S at *
  clear hbu h hT
  go_enter Try.func29, Try.ntmps29
  go_wp2_with fail
  rw [← hu]
  clear hu
  refine HW.out.mono ?_
  rintro e w2 ⟨v, rfl, hov, hx2⟩
  have Hov := Lib.hid hov
  clear hov HW
  go_wp2_with fail
  go_ret
  exact ⟨_, rfl, ownsRow_base Hov.out hxu.size, hxu.ext_trans hx2⟩
end Go.Proofs.Ytffplppglicibaa

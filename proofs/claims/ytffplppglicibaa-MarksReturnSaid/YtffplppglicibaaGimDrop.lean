/- marks.Table's Drop. Conditions: a table that may be. -/
import Derived.Test.YtffplppglicibaaGimTabW
import Derived.Test.YtffplppglicibaaGimDropP
namespace Go.Gim
open Go Go.RowKit Go.Maps
/-- 'delete(m, id)'. -/
theorem wpList_tdel {P : Program} {w : World} {ops : Array Oper} {rest : List Oper} {o : Oper} {a : Act} {Q : Exit → Act → World → Prop} (hg : o.guard = none) (m x : Operand) (t k : TypeId) (hop : o.op = Op.call { callee := Callee.builtin Builtin.delete, args := #[m, x], argTypes := #[t, k] })
    (e : TypeId) (hk : P.underlying k = some (.int .i64)) (ht : P.underlying t = some (.map k e)) (b : Nat) (L : Tb) (id : Int)
    (hm : a.eval m = .map (some b)) (hx : a.eval x = .int .i64 id) (h : MapIs P k w b L) (ho : Once L) (hid : (Lit.int .i64 id).wf = true)
    (hK : ∀ w', MapIs P k w' b (delR L id) → Mod (· = b) w w' → wpList P ops Q rest (a.put o.dst (.tuple #[])) w') :
    wpList P ops Q (o :: rest) a w := by
  refine wpList_plain hg fun K' hK' => ?_
  obtain ⟨w', hrun, r1, r2⟩ := h.drop ho hk ht hid o.type
  unfold Oper.wp
  simp [execOp, hop, resolve, invoke, builtin, hm, hx, hrun, Result.andThen]
  exact hK' _ _ (hK w' r1 r2)
end Go.Gim
namespace Go.Proofs.Ytffplppglicibaa
open Go.RowKit Go.Gim

theorem field_parent (a b : Int) (p q : Bool) (u : Int) (w : World) : (Instr.field 33 (.agg #[.int .i64 a, .int .i64 b, .bool p, .bool q, .int .i64 u]) 3).run Try.prog w = .ok (.int .i64 u) w := by kernel_rfl
set_option maxHeartbeats 800000 in
set_option maxRecDepth 1000000 in
theorem tdrop_no (tb mb : Nat) (L : Tb) (last id : Int) (w : World) (h : TabAt w tb mb L last) (hid : (Lit.int .i64 id).wf = true) (hg : getR L id = none) :
    Calls Try.prog 24 #[.pointer (some ⟨tb, 0, none⟩), .int .i64 id] w fun e w' => e = .returned (.int .i64 6) ∧ Ext w w' := by
  have hlook := h.look hid _ hg
  have c0 : w.cell? ⟨tb, 0, none⟩ = some (.map (some mb)) := h.blk.cell 0
  have hlt := h.blk.lt
  rw [show rgV ((none : Option Rg).getD rg0) = .agg #[.int .i64 0, .int .i64 0, .bool false, .bool false, .int .i64 0] from rfl, show (none : Option Rg).isSome = false from rfl] at hlook
  clear h hg
  go_enter Try.func24, Try.ntmps24
  go_wp2_with fail
  go_ret
  exact ⟨rfl, (Mod.refl _ w).alloc _⟩

set_option maxHeartbeats 1600000 in
set_option maxRecDepth 1000000 in
theorem tdrop_yes (tb mb : Nat) (L : Tb) (last Bd id : Int) (r : Rg) (w : World) (h : TabAt w tb mb L last) (hT : Tok L last Bd) (hg : getR L id = some r) :
    Calls Try.prog 24 #[.pointer (some ⟨tb, 0, none⟩), .int .i64 id] w fun e w' => e = .returned (.int .i64 0) ∧ TabAt w' tb mb (dropT L id) last ∧ Mod (tabS tb mb) w w' := by
  have hib := hT.get hg
  have hl0 := hT.last0
  have hid : (Lit.int .i64 id).wf = true := id_wf (by omega) (by omega)
  have hlook := h.look hid _ hg
  have c0 : w.cell? ⟨tb, 0, none⟩ = some (.map (some mb)) := h.blk.cell 0
  have hlt := h.blk.lt
  obtain ⟨ra, rb, rp, rq, ru⟩ := r
  rw [show rgV ((some (⟨ra, rb, rp, rq, ru⟩ : Rg)).getD rg0) = .agg #[.int .i64 ra, .int .i64 rb, .bool rp, .bool rq, .int .i64 ru] from rfl, show (some (⟨ra, rb, rp, rq, ru⟩ : Rg)).isSome = true from rfl] at hlook
  have H := Lib.hid h
  have HT := Lib.hid hT
  have Hid' := Lib.hid hid
  have Hl0 := Lib.hid hl0
  clear h hT hg hib hl0 hid
  go_enter Try.func24, Try.ntmps24
  go_upto_region 6 with fail
  obtain ⟨u, hu⟩ : ∃ u, u = w.alloc (.cells #[.int .i64 ra, .int .i64 rb, .bool rp, .bool rq, .int .i64 ru] 33) := ⟨_, rfl⟩
  have hxu : Ext w u := by rw [hu]; exact (Mod.refl _ w).alloc _
  rw [← hu]
  clear hu hlook c0 hlt
  have c0 : u.cell? ⟨tb, 0, none⟩ = some (.map (some mb)) := (H.out.ext hxu).blk.cell 0
  have hlt := (H.out.ext hxu).blk.lt
  go_wp2_with (at_delete; refine wpList_tdel rfl _ _ 72 3 rfl 33 Try.underlying3 Try.underlying72 mb L id rfl rfl (H.out.ext hxu).map HT.out.once Hid'.out ?_)
  intro w2 hmap hmod
  have h2 : TabAt w2 tb mb (delR L id) last := ⟨(H.out.ext hxu).blk.mod hmod (fun e => H.out.ne e), hmap, H.out.ne⟩
  have hm2 : Mod (tabS tb mb) w w2 := hxu.any.trans hmod (fun i hi e => .inr e)
  have hrise : (idsR (delR L id)).Pairwise (· < ·) := HT.out.rise.sublist (List.Sublist.map _ (List.filter_sublist))
  have hlen : (delR L id).length ≤ 256 := Nat.le_trans (List.length_filter_le _ _) HT.out.len
  have Hall := Lib.hid (midT_all L id)
  have HMs := Lib.hid (fun x (hx : x ∈ delR L id) => (⟨(List.mem_filter.1 hx).1, by have := (List.mem_filter.1 hx).2; simpa using this⟩ : x ∈ L ∧ x.1 ≠ id))
  generalize delR L id = M0 at *
  have H2 := Lib.hid h2
  have Hrise := Lib.hid hrise
  have hids := Lib.hid (ids_any tb mb last M0 w2 h2.blk h2.map hrise (by omega))
  unfold Enc.Out at hids
  obtain ⟨M, hM⟩ : ∃ M, M = M0.length := ⟨_, rfl⟩
  have HM := Lib.hid hM
  have hl2 : (idsR M0).length = M := by simp [idsR, hM]
  have hMl : M ≤ 256 := by rw [hM]; exact hlen
  rw [hl2] at hids
  have Hlts := Lib.hid (⟨h2.blk.lt, h2.map.lt⟩ : tb < w2.heap.size ∧ mb < w2.heap.size)
  clear c0 hlt hmap hmod h2 hrise hM hl2 hxu
  go_wp2_with fail
  refine hids.out.mono ?_
  rintro e w5 ⟨v5, rfl, hov, hx5⟩
  have hfid := Lib.hid (fun (a : Addr) (c : Nat) (hv : v5 = .slice (some a) M c) (hz : 0 < M) => (show ¬ tabS tb mb a.block by
    obtain ⟨g, cx, hg⟩ := Enc.owns_some (E := inE) hov hz
    rw [hg] at hv
    cases hv
    rw [hg] at hov
    have := (Enc.owns_block (E := inE) hov).1
    have := Hlts.out
    unfold tabS
    simp only
    omega))
  obtain ⟨a5, c5, rfl, hrd⟩ := Enc.owns_reads (E := inE) hov
  have Hrd := Lib.hid hrd
  have hm5 := hm2.trans hx5 (fun i hi f => f.elim)
  have H5 := Lib.hid (H2.out.ext hx5)
  clear hov hrd hids hx5 hm2
  go_wp2_with fail
  go_loopw [33] (fun i wr => ∃ j : Nat, j ≤ M ∧ i = .int .i64 j ∧ Hid (TabAt wr tb mb (midT M0 id j) last) ∧ Mod (tabS tb mb) w5 wr) (fun i _ => M - (intOf i).toNat)
  case atStart => exact ⟨0, by omega, rfl, H5, Mod.refl _ _⟩
  case round =>
    obtain ⟨j, hj, rfl, HTA, hmr⟩ := hrel
    by_cases hltj : j < M
    · have hlt' : (j : Int) < (M : Int) := by omega
      have hj0 : (0 : Int) ≤ (j : Int) := by omega
      obtain ⟨b, off, rfl⟩ := Hrd.out.some (by omega)
      have hjL : M0[j]? = some (M0[j]'(by rw [← HM.out]; exact hltj)) := List.getElem?_eq_getElem _
      have hrk := Hrd.out.mod hmr (fun a ha => hfid.out a c5 (by rw [ha]) (by omega))
      have q0 := rdIn_at hrk (show (idsR M0)[j]? = some (M0[j]'(by rw [← HM.out]; exact hltj)).1 by unfold idsR; rw [List.getElem?_map, hjL]; rfl)
      obtain ⟨hinL, hne⟩ := HMs.out _ (List.mem_of_getElem? hjL)
      have hgr := midT_get (id := id) Hrise.out hjL
      have hold := fun u hu => midT_old (id := id) Hrise.out hjL (u := u) hu
      have hkeep := fun hh => midT_keep (id := id) Hrise.out hjL hne hh
      have hstr := fun hh => midT_strike (id := id) Hrise.out hjL hne hh
      have hib := HT.out.ids _ hinL
      have hup := HT.out.up _ hinL
      have honce : Once (midT M0 id j) := (rise_once Hrise.out hjL).sublist (midT_sub M0 id j)
      generalize M0[j]'(by rw [← HM.out]; exact hltj) = x at *
      obtain ⟨k, ra, rb, rp, rq, ru⟩ := x
      simp only at q0 hgr hib hup hold hkeep hstr
      have Hkeep := Lib.hid hkeep
      have Hstr := Lib.hid hstr
      clear hkeep hstr
      generalize midT M0 id j = T at *
      have hkw : (Lit.int .i64 k).wf = true := id_wf (by have := Hl0.out; omega) (by have := Hl0.out; omega)
      have hlook := HTA.out.look1 hkw _ hgr
      rw [show (some (⟨ra, rb, rp, rq, ru⟩ : Rg)).getD rg0 = ⟨ra, rb, rp, rq, ru⟩ from rfl] at hlook
      unfold rgV at hlook
      simp only at hlook
      have c0 := HTA.out.blk.cell 0
      simp only [List.getElem?_toArray, List.getElem?_cons_zero] at c0
      have hltb := HTA.out.blk.lt
      have hfp := fun w' => field_parent ra rb rp rq ru w'
      have Hltj := Lib.hid hltj
      have Hib := Lib.hid hib
      have Honce := Lib.hid honce
      have Hkw := Lib.hid hkw
      clear hib hjL hrk hinL honce hgr hne hkw
      by_cases hz : ru = 0
      · have HE := Lib.hid (Hkeep.out (fun h => h.1 hz))
        have z1 : (ru != 0) = false := by simpa using hz
        clear hz hup hold
        go_wp2_with fail
        go_roundw
        case rel => exact ⟨j + 1, Hltj.out, by go_num, Lib.hid (by rw [HE.out]; exact HTA.out), hmr⟩
        case measure => have := Hltj.out; simp [intOf]; omega
      · have z1 : (ru != 0) = true := by simpa using hz
        have hu2 : ru < k ∧ (getR L ru).isSome = true := by
          rcases hup with e | e
          · exact absurd e hz
          · exact e
        obtain ⟨q, hq⟩ := Option.isSome_iff_exists.1 hu2.2
        have hq1 := HT.out.get hq
        have hruw : (Lit.int .i64 ru).wf = true := id_wf (by have := Hl0.out; omega) (by have := Hl0.out; omega)
        have ho2 := hold ru hu2.1
        cases hog : getR (keepN M0 id j) ru with
        | none =>
          have hlook2 := HTA.out.look hruw _ (ho2.trans hog)
          rw [show rgV ((none : Option Rg).getD rg0) = .agg #[.int .i64 0, .int .i64 0, .bool false, .bool false, .int .i64 0] from rfl, show (none : Option Rg).isSome = false from rfl] at hlook2
          have HE := Lib.hid (Hstr.out ⟨hz, hog⟩)
          clear hz hup hold hu2 hq hq1 ho2 hog hruw
          go_upto_region 14 with fail
          obtain ⟨v, hv⟩ : ∃ v, v = wr.alloc (.cells #[.int .i64 0, .int .i64 0, .bool false, .bool false, .int .i64 0] 33) := ⟨_, rfl⟩
          have hxv : Ext wr v := by rw [hv]; exact (Mod.refl _ wr).alloc _
          rw [← hv]
          clear hv hlook hlook2 c0 q0 hltb
          have c0 : v.cell? ⟨tb, 0, none⟩ = some (.map (some mb)) := (HTA.out.ext hxv).blk.cell 0
          have hltb := (HTA.out.ext hxv).blk.lt
          go_wp2_with (at_delete; refine wpList_tdel rfl _ _ 72 3 rfl 33 Try.underlying3 Try.underlying72 mb T k rfl rfl (HTA.out.ext hxv).map Honce.out Hkw.out ?_)
          intro w7 hmap7 hmod7
          have h7 := Lib.hid (⟨(HTA.out.ext hxv).blk.mod hmod7 (fun e => H.out.ne e), hmap7, H.out.ne⟩ : TabAt w7 tb mb (delR T k) last)
          have hm7 := Lib.hid (hmr.trans (hxv.any.trans hmod7 (fun i hi e => .inr e)) (fun _ _ e => e))
          clear hmap7 hmod7 c0 hltb
          go_wp2_with fail
          go_roundw
          case rel => exact ⟨j + 1, Hltj.out, by go_num, Lib.hid (by rw [HE.out]; exact h7.out), hm7.out⟩
          case measure => have := Hltj.out; simp [intOf]; omega
        | some s =>
          have hlook2 := HTA.out.look hruw _ (ho2.trans hog)
          obtain ⟨sa, sb, sp, sq, su⟩ := s
          rw [show rgV ((some (⟨sa, sb, sp, sq, su⟩ : Rg)).getD rg0) = .agg #[.int .i64 sa, .int .i64 sb, .bool sp, .bool sq, .int .i64 su] from rfl, show (some (⟨sa, sb, sp, sq, su⟩ : Rg)).isSome = true from rfl] at hlook2
          have HE := Lib.hid (Hkeep.out (fun h => by rw [hog] at h; cases h.2))
          clear hz hup hold hu2 hq hq1 ho2 hog hruw
          go_wp2_with fail
          go_roundw
          case rel => exact ⟨j + 1, Hltj.out, by go_num, Lib.hid (by rw [HE.out]; exact HTA.out.ext ((Mod.refl _ wr).alloc _)), (hmr.alloc _)⟩
          case measure => have := Hltj.out; simp [intOf]; omega
    · have hlt' : ¬ (j : Int) < (M : Int) := by omega
      obtain rfl : j = M := by omega
      have hfin := HTA.out
      rw [HM.out, Hall.out] at hfin
      have Hfin := Lib.hid hfin
      clear hfin
      go_wp2_with fail
      go_ret
      exact ⟨rfl, Hfin.out, hm5.trans hmr (fun _ _ e => e)⟩
end Go.Proofs.Ytffplppglicibaa

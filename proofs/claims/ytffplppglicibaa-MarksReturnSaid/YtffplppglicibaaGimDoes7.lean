/- A deed, done to a table; what it answers. Conditions: at most 8 edits of 60 bytes each, a table that may be. -/
import Derived.Test.YtffplppglicibaaGimEdits7
namespace Go.Gim
/-- What is left of a table, and what is answered. -/
structure Dn where
  L : Tb
  last : Int
  n : Int
  e : Int
def moveD (L : Tb) (last : Int) (es : List Ed) : Dn := if rangedE 65536 es = 0 then ⟨moveT es L, last, 0, 0⟩ else ⟨L, last, 0, rangedE 65536 es⟩
def addD (L : Tb) (last : Int) (r : Rg) : Dn := if addE L r = 0 then ⟨L ++ [(last + 1, r)], last + 1, last + 1, 0⟩ else ⟨L, last, 0, addE L r⟩
def poseD (L : Tb) (last : Int) (id : Int) (p q : Bool) : Dn := match getR L id with
  | some r => ⟨setR L id ⟨r.a, r.b, p, q, r.u⟩, last, 0, 0⟩
  | none => ⟨L, last, 0, 6⟩
def dropD (L : Tb) (last : Int) (id : Int) : Dn := match getR L id with
  | some _ => ⟨dropT L id, last, 0, 0⟩
  | none => ⟨L, last, 0, 6⟩
theorem ranged_ok {es : List Ed} (h : rangedE 65536 es = 0) (ht : ∀ e ∈ es, e.t.size ≤ 100000) : ∀ e ∈ es, EdOk e := by
  intro e he
  unfold rangedE at h
  split at h
  · rename_i hm
    have h1 := List.all_eq_true.1 hm e he
    unfold mayS edS at h1
    have h1 := of_decide_eq_true h1
    exact ⟨h1.1, h1.2.1, h1.2.2, ht e he⟩
  · cases h
/-- A table that may be, and what is done leaves one. -/
def DnOk (d : Dn) (last Bd : Int) : Prop := Tok d.L d.last Bd ∧ last ≤ d.last ∧ d.last ≤ last + 1
theorem moveD_ok {L : Tb} {last B : Int} (h : Tok L last B) {es : List Ed} (hn : es.length ≤ 19) (ht : ∀ e ∈ es, e.t.size ≤ 100000) (hB : 65536 ≤ B) : DnOk (moveD L last es) last (B + 2000000) := by
  unfold moveD
  split
  · rename_i hr
    exact ⟨h.move (ranged_ok hr ht) hn hB, by simp only; omega, by simp only; omega⟩
  · exact ⟨h.mono (by omega), by simp only; omega, by simp only; omega⟩
theorem addD_ok {L : Tb} {last B : Int} (h : Tok L last B) {r : Rg} (hB : 65536 ≤ B) (hl : last < 1000000) : DnOk (addD L last r) last (B + 2000000) := by
  unfold addD
  split
  · rename_i hr
    exact ⟨(h.add hr hB hl).mono (by omega), by simp only; omega, by simp only; omega⟩
  · exact ⟨h.mono (by omega), by simp only; omega, by simp only; omega⟩
theorem poseD_ok {L : Tb} {last B : Int} (h : Tok L last B) {id : Int} {p q : Bool} : DnOk (poseD L last id p q) last (B + 2000000) := by
  unfold poseD
  split
  · rename_i r hr
    exact ⟨Tok.mono (B := B) (h.set hr rfl (h.bd _ (getR_mem hr))) (by omega), by simp only; omega, by simp only; omega⟩
  · exact ⟨h.mono (by omega), by simp only; omega, by simp only; omega⟩
theorem dropD_ok {L : Tb} {last B : Int} (h : Tok L last B) {id : Int} : DnOk (dropD L last id) last (B + 2000000) := by
  unfold dropD
  split
  · exact ⟨(h.drop id).mono (by omega), by simp only; omega, by simp only; omega⟩
  · exact ⟨h.mono (by omega), by simp only; omega, by simp only; omega⟩
end Go.Gim
namespace Go.Proofs.Ytffplppglicibaa
open Go.RowKit Go.Gim

/-- What a deed does. -/
def doesD (x : Dm) (L : Tb) (last : Int) : Dn :=
  if lowN x.k 7 < 3 then addD L last (ofR x)
  else if lowN x.k 7 = 3 then poseD L last (lowN x.a 8 : Nat) x.p x.q
  else if lowN x.k 7 = 4 then dropD L last (lowN x.a 10 : Nat)
  else if lowN x.k 7 = 5 then moveD L last (editsL x.es)
  else moveD L last x.es
theorem doesD_ok {x : Dm} {L : Tb} {last B : Int} (h : Tok L last B) (hn : x.es.length ≤ 8) (ht : ∀ e ∈ x.es, e.t.size ≤ 60) (hB : 65536 ≤ B) (hl : last < 1000000) : DnOk (doesD x L last) last (B + 2000000) := by
  unfold doesD
  split
  · exact addD_ok h hB hl
  · split
    · exact poseD_ok h
    · split
      · exact dropD_ok h
      · split
        · refine moveD_ok h (by rw [editsL_len]; omega) (fun e he => ?_) hB
          obtain ⟨e0, h0, rfl⟩ := List.mem_map.1 he
          have := ht e0 h0
          unfold edL; simp only; omega
        · exact moveD_ok h (by omega) (fun e he => by have := ht e he; omega) hB

def dmV (x : Dm) : Value := .agg #[.int .i64 x.k, .int .i64 x.a, .int .i64 x.b, .int .i64 x.c, .bool x.p, .bool x.q, .slice x.ao x.es.length x.cap]
/-- Behind a deed. -/
def DnPost (tb mb : Nat) (d : Dn) (w : World) (e : Ending) (w' : World) : Prop :=
  e = .returned (.tuple #[.int .i64 d.n, .int .i64 d.e]) ∧ TabAt w' tb mb d.L d.last ∧ Mod (tabS tb mb) w w'

set_option maxHeartbeats 1600000 in
set_option maxRecDepth 1000000 in
theorem does_add (m : Int) (hm : m = 0 ∨ m = 1 ∨ m = 2) (x : Dm) (hk : ((lowN x.k 7 : Nat) : Int) = m) (tb mb : Nat) (L : Tb) (last Bd : Int) (w : World) (h : TabAt w tb mb L last) (hT : Tok L last Bd) (wu : (Lit.int .i64 (ofR x).u).wf = true) :
    Calls Try.prog 22 #[.pointer (some ⟨tb, 0, none⟩), dmV x] w (DnPost tb mb (addD L last (ofR x)) w) := by
  have L4 := lowC x.k 7 7 rfl (by omega) (by omega)
  rw [hk] at L4
  have HL := Lib.hid L4
  obtain ⟨u, hu⟩ : ∃ u, u = w.alloc (.cells #[.int .i64 x.k, .int .i64 x.a, .int .i64 x.b, .int .i64 x.c, .bool x.p, .bool x.q, .slice x.ao x.es.length x.cap] 54) := ⟨_, rfl⟩
  have hxu : Ext w u := by rw [hu]; exact (Mod.refl _ w).alloc _
  have hbd : Blk u w.heap.size 54 #[.int .i64 x.k, .int .i64 x.a, .int .i64 x.b, .int .i64 x.c, .bool x.p, .bool x.q, .slice x.ao x.es.length x.cap] := by rw [hu]; exact Blk.new w _ _
  have HO := Lib.hid (fun w' => of7_any x w')
  have HA := Lib.hid (fun w' (h' : Ext w w') => tadd_any tb mb L last (ofR x) w' (h.ext h') (by have := hT.len; omega) hT.next hT.last0.1 (by have := hT.last0; omega) wu)
  have H := Lib.hid h
  have Hyes := Lib.hid (show addE L (ofR x) = 0 → addD L last (ofR x) = ⟨L ++ [(last + 1, ofR x)], last + 1, last + 1, 0⟩ from fun h => by unfold addD; rw [if_pos h])
  have Hno := Lib.hid (show addE L (ofR x) ≠ 0 → addD L last (ofR x) = ⟨L, last, 0, addE L (ofR x)⟩ from fun h => by unfold addD; rw [if_neg h])
  generalize addD L last (ofR x) = d at *
  unfold DnPost
  generalize ofR x = R at *
  unfold dmV
  clear h hT hk L4
  go_enter Try.func22, Try.ntmps22
  go_upto_region 1 with fail
  rw [← hu]
  clear hu
  have c0 := hbd.cell 0
  have c1 := hbd.cell 1
  have c2 := hbd.cell 2
  have c3 := hbd.cell 3
  have c4 := hbd.cell 4
  have c5 := hbd.cell 5
  have c6 := hbd.cell 6
  simp only [List.getElem?_toArray, List.getElem?_cons_zero, List.getElem?_cons_succ] at c0 c1 c2 c3 c4 c5 c6
  have hltd := hbd.lt
  go_wp2_with fail
  refine (HL.out _).mono ?_
  rintro e v0 ⟨rfl, rfl⟩
  rcases hm with rfl | rfl | rfl
  all_goals
    go_wp2_with fail
    refine (HO.out _).mono ?_
    rintro e v1 ⟨rfl, hx1⟩
    have hx2 := hxu.ext_trans hx1
    have HA2 := Lib.hid (HA.out _ hx2)
    clear c0 c1 c2 c3 c4 c5 c6 hltd HO HA
    go_wp2_with fail
    refine HA2.out.mono ?_
    rintro e v2 hp
    rcases hp with ⟨h0, rfl, h2, hm2⟩ | ⟨h0, rfl, hx3⟩
    · have H2 := Lib.hid h2
      have Hm := Lib.hid ((Mod.any (S := tabS tb mb) hx2).trans hm2 (fun _ _ f => f))
      clear h2 hm2
      go_wp2_with fail
      go_ret2
      have hd := Hyes.out h0
      subst hd
      exact ⟨rfl, H2.out, Hm.out⟩
    · have H2 := Lib.hid (H.out.ext (hx2.ext_trans hx3))
      have Hm := Lib.hid (Mod.any (S := tabS tb mb) (hx2.ext_trans hx3))
      clear hx3
      go_wp2_with fail
      go_ret2
      have hd := Hno.out h0
      subst hd
      exact ⟨rfl, H2.out, Hm.out⟩

theorem dnPost_ext {tb mb : Nat} {L : Tb} {last e : Int} {w w' : World} (h : TabAt w tb mb L last) (hx : Ext w w') : TabAt w' tb mb L last ∧ Mod (tabS tb mb) w w' := ⟨h.ext hx, Mod.any hx⟩

set_option maxHeartbeats 1600000 in
set_option maxRecDepth 1000000 in
theorem does_pose (x : Dm) (hk : ((lowN x.k 7 : Nat) : Int) = 3) (tb mb : Nat) (L : Tb) (last Bd : Int) (w : World) (h : TabAt w tb mb L last) (hT : Tok L last Bd) :
    Calls Try.prog 22 #[.pointer (some ⟨tb, 0, none⟩), dmV x] w (DnPost tb mb (poseD L last (lowN x.a 8 : Nat) x.p x.q) w) := by
  have L4 := lowC x.k 7 7 rfl (by omega) (by omega)
  have B8 := lowN_lt x.a 8 (by omega)
  have L8 := Lib.hid (lowC x.a 8 8 rfl (by omega) (by omega))
  have H := Lib.hid h
  have HP : ∀ w', Ext w w' → Calls Try.prog 16 #[.pointer (some ⟨tb, 0, none⟩), .int .i64 (lowN x.a 8 : Nat), .bool x.p, .bool x.q] w' fun e w2 => e = .returned (.int .i64 (poseD L last (lowN x.a 8 : Nat) x.p x.q).e) ∧ (poseD L last (lowN x.a 8 : Nat) x.p x.q).n = 0 ∧ TabAt w2 tb mb (poseD L last (lowN x.a 8 : Nat) x.p x.q).L (poseD L last (lowN x.a 8 : Nat) x.p x.q).last ∧ Mod (tabS tb mb) w' w2 := by
    intro w' hx
    cases hg : getR L (lowN x.a 8 : Nat) with
    | none =>
      have e0 : poseD L last (lowN x.a 8 : Nat) x.p x.q = ⟨L, last, 0, 6⟩ := by unfold poseD; rw [hg]
      rw [e0]
      refine (tpose_no tb mb L last _ x.p x.q w' (h.ext hx) (id_wf (by omega) (by omega)) hg).mono ?_
      rintro e w2 ⟨rfl, hx2⟩
      exact ⟨rfl, rfl, (h.ext hx).ext hx2, Mod.any hx2⟩
    | some r =>
      have e0 : poseD L last (lowN x.a 8 : Nat) x.p x.q = ⟨setR L (lowN x.a 8 : Nat) ⟨r.a, r.b, x.p, x.q, r.u⟩, last, 0, 0⟩ := by unfold poseD; rw [hg]
      rw [e0]
      refine (tpose_yes tb mb L last _ x.p x.q r w' (h.ext hx) (by have := hT.len; omega) (id_wf (by omega) (by omega)) hg).mono ?_
      rintro e w2 ⟨rfl, h2, hm2⟩
      exact ⟨rfl, rfl, h2, hm2⟩
  have HP' := Lib.hid HP
  generalize poseD L last (lowN x.a 8 : Nat) x.p x.q = d at *
  generalize lowN x.a 8 = id at *
  clear HP h hT
  rw [hk] at L4
  have HL := Lib.hid L4
  obtain ⟨u, hu⟩ : ∃ u, u = w.alloc (.cells #[.int .i64 x.k, .int .i64 x.a, .int .i64 x.b, .int .i64 x.c, .bool x.p, .bool x.q, .slice x.ao x.es.length x.cap] 54) := ⟨_, rfl⟩
  have hxu : Ext w u := by rw [hu]; exact (Mod.refl _ w).alloc _
  have hbd : Blk u w.heap.size 54 #[.int .i64 x.k, .int .i64 x.a, .int .i64 x.b, .int .i64 x.c, .bool x.p, .bool x.q, .slice x.ao x.es.length x.cap] := by rw [hu]; exact Blk.new w _ _
  unfold DnPost dmV
  clear L4 hk
  go_enter Try.func22, Try.ntmps22
  go_upto_region 1 with fail
  rw [← hu]
  clear hu
  have c0 := hbd.cell 0
  have c1 := hbd.cell 1
  have c2 := hbd.cell 2
  have c3 := hbd.cell 3
  have c4 := hbd.cell 4
  have c5 := hbd.cell 5
  have c6 := hbd.cell 6
  simp only [List.getElem?_toArray, List.getElem?_cons_zero, List.getElem?_cons_succ] at c0 c1 c2 c3 c4 c5 c6
  have hltd := hbd.lt
  go_wp2_with fail
  refine (HL.out _).mono ?_
  rintro e v0 ⟨rfl, rfl⟩
  go_upto_region 7 with fail
  refine wp_region_ext_tail 8 (by kernel_rfl) (by kernel_rfl) ?_
  simp only [List.take_succ_cons, List.take_zero, List.drop_succ_cons, List.drop_zero]
  repeat (go_big_quiet_step (exact Calls.ext_of_same (L8.out _)))
  refine wpQuiet_nil ?_
  intro we hxe
  have hx2 := hxu.ext_trans hxe
  have HA2 := Lib.hid (HP'.out _ hx2)
  clear c0 c1 c2 c3 c4 c5 c6 hltd HP' L8
  go_wp2_with fail
  refine HA2.out.mono ?_
  rintro e v2 ⟨rfl, hn, h2, hm2⟩
  have H2 := Lib.hid h2
  have Hn := Lib.hid hn
  have Hm := Lib.hid ((Mod.any (S := tabS tb mb) hx2).trans hm2 (fun _ _ f => f))
  clear h2 hm2 hn
  go_wp2_with fail
  go_ret2
  exact ⟨by rw [Hn.out]; rfl, H2.out, Hm.out⟩

set_option maxHeartbeats 1600000 in
set_option maxRecDepth 1000000 in
theorem does_drop (x : Dm) (hk : ((lowN x.k 7 : Nat) : Int) = 4) (tb mb : Nat) (L : Tb) (last Bd : Int) (w : World) (h : TabAt w tb mb L last) (hT : Tok L last Bd) :
    Calls Try.prog 22 #[.pointer (some ⟨tb, 0, none⟩), dmV x] w (DnPost tb mb (dropD L last (lowN x.a 10 : Nat)) w) := by
  have L4 := lowC x.k 7 7 rfl (by omega) (by omega)
  have B8 := lowN_lt x.a 10 (by omega)
  have L8 := Lib.hid (lowC x.a 10 10 rfl (by omega) (by omega))
  have HP : ∀ w', Ext w w' → Calls Try.prog 24 #[.pointer (some ⟨tb, 0, none⟩), .int .i64 (lowN x.a 10 : Nat)] w' fun e w2 => e = .returned (.int .i64 (dropD L last (lowN x.a 10 : Nat)).e) ∧ (dropD L last (lowN x.a 10 : Nat)).n = 0 ∧ TabAt w2 tb mb (dropD L last (lowN x.a 10 : Nat)).L (dropD L last (lowN x.a 10 : Nat)).last ∧ Mod (tabS tb mb) w' w2 := by
    intro w' hx
    cases hg : getR L (lowN x.a 10 : Nat) with
    | none =>
      have e0 : dropD L last (lowN x.a 10 : Nat) = ⟨L, last, 0, 6⟩ := by unfold dropD; rw [hg]
      rw [e0]
      refine (tdrop_no tb mb L last _ w' (h.ext hx) (id_wf (by omega) (by omega)) hg).mono ?_
      rintro e w2 ⟨rfl, hx2⟩
      exact ⟨rfl, rfl, (h.ext hx).ext hx2, Mod.any hx2⟩
    | some r =>
      have e0 : dropD L last (lowN x.a 10 : Nat) = ⟨dropT L (lowN x.a 10 : Nat), last, 0, 0⟩ := by unfold dropD; rw [hg]
      rw [e0]
      refine (tdrop_yes tb mb L last Bd _ r w' (h.ext hx) hT hg).mono ?_
      rintro e w2 ⟨rfl, h2, hm2⟩
      exact ⟨rfl, rfl, h2, hm2⟩
  have HP' := Lib.hid HP
  generalize dropD L last (lowN x.a 10 : Nat) = d at *
  generalize lowN x.a 10 = id at *
  clear HP h hT
  rw [hk] at L4
  have HL := Lib.hid L4
  obtain ⟨u, hu⟩ : ∃ u, u = w.alloc (.cells #[.int .i64 x.k, .int .i64 x.a, .int .i64 x.b, .int .i64 x.c, .bool x.p, .bool x.q, .slice x.ao x.es.length x.cap] 54) := ⟨_, rfl⟩
  have hxu : Ext w u := by rw [hu]; exact (Mod.refl _ w).alloc _
  have hbd : Blk u w.heap.size 54 #[.int .i64 x.k, .int .i64 x.a, .int .i64 x.b, .int .i64 x.c, .bool x.p, .bool x.q, .slice x.ao x.es.length x.cap] := by rw [hu]; exact Blk.new w _ _
  unfold DnPost dmV
  clear L4 hk
  go_enter Try.func22, Try.ntmps22
  go_upto_region 1 with fail
  rw [← hu]
  clear hu
  have c0 := hbd.cell 0
  have c1 := hbd.cell 1
  have c2 := hbd.cell 2
  have c3 := hbd.cell 3
  have c4 := hbd.cell 4
  have c5 := hbd.cell 5
  have c6 := hbd.cell 6
  simp only [List.getElem?_toArray, List.getElem?_cons_zero, List.getElem?_cons_succ] at c0 c1 c2 c3 c4 c5 c6
  have hltd := hbd.lt
  go_wp2_with fail
  refine (HL.out _).mono ?_
  rintro e v0 ⟨rfl, rfl⟩
  go_wp2_with fail
  refine (L8.out _).mono ?_
  rintro e v1 ⟨rfl, rfl⟩
  have HA2 := Lib.hid (HP'.out _ hxu)
  clear c0 c1 c2 c3 c4 c5 c6 hltd HP' L8
  go_wp2_with fail
  refine HA2.out.mono ?_
  rintro e v2 ⟨rfl, hn, h2, hm2⟩
  have H2 := Lib.hid h2
  have Hn := Lib.hid hn
  have Hm := Lib.hid ((Mod.any (S := tabS tb mb) hxu).trans hm2 (fun _ _ f => f))
  clear h2 hm2 hn
  go_wp2_with fail
  go_ret2
  exact ⟨by rw [Hn.out]; rfl, H2.out, Hm.out⟩

theorem moveD_any (es : List Ed) (ao : Option Addr) (cap : Nat) (tb mb : Nat) (L : Tb) (last Bd : Int) (w : World) (h : TabAt w tb mb L last) (hT : Tok L last Bd) (hB : 65536 ≤ Bd) (hB2 : Bd ≤ 900000000)
    (hr : Reads w 3 ao es.length (edE.cells es)) (hn : es.length ≤ 19) (ht : ∀ e ∈ es, e.t.size ≤ 100000) (hfar : 0 < es.length → ∀ a, ao = some a → ¬ tabS tb mb a.block) :
    Calls Try.prog 17 #[.pointer (some ⟨tb, 0, none⟩), .slice ao es.length cap] w fun e w2 => e = .returned (.int .i64 (moveD L last es).e) ∧ (moveD L last es).n = 0 ∧ TabAt w2 tb mb (moveD L last es).L (moveD L last es).last ∧ Mod (tabS tb mb) w w2 := by
  refine (tmove_all tb mb L last Bd es ao cap w h hT hB hB2 hr hn ht hfar).mono ?_
  rintro e w2 hp
  unfold moveD
  rcases hp with ⟨h0, rfl, h2, hm2⟩ | ⟨h0, rfl, hx⟩
  · rw [if_pos h0]; exact ⟨rfl, rfl, h2, hm2⟩
  · rw [if_neg h0]; exact ⟨rfl, rfl, h.ext hx, Mod.any hx⟩

set_option maxHeartbeats 1600000 in
set_option maxRecDepth 1000000 in
theorem does_moveB (x : Dm) (hk : ((lowN x.k 7 : Nat) : Int) = 6) (tb mb : Nat) (L : Tb) (last Bd : Int) (w : World) (h : TabAt w tb mb L last) (hT : Tok L last Bd) (hB : 65536 ≤ Bd) (hB2 : Bd ≤ 900000000)
    (hr : Reads w 3 x.ao x.es.length (edE.cells x.es)) (hn : x.es.length ≤ 19) (ht : ∀ e ∈ x.es, e.t.size ≤ 100000) (hfar : 0 < x.es.length → ∀ a, x.ao = some a → ¬ tabS tb mb a.block) :
    Calls Try.prog 22 #[.pointer (some ⟨tb, 0, none⟩), dmV x] w (DnPost tb mb (moveD L last x.es) w) := by
  have L4 := lowC x.k 7 7 rfl (by omega) (by omega)
  have HP' := Lib.hid (fun w' (hx : Ext w w') => moveD_any x.es x.ao x.cap tb mb L last Bd w' (h.ext hx) hT hB hB2 (hr.mod hx (fun _ _ f => f)) hn ht hfar)
  generalize moveD L last x.es = d at *
  clear h hT hr hn ht hfar
  rw [hk] at L4
  have HL := Lib.hid L4
  obtain ⟨u, hu⟩ : ∃ u, u = w.alloc (.cells #[.int .i64 x.k, .int .i64 x.a, .int .i64 x.b, .int .i64 x.c, .bool x.p, .bool x.q, .slice x.ao x.es.length x.cap] 54) := ⟨_, rfl⟩
  have hxu : Ext w u := by rw [hu]; exact (Mod.refl _ w).alloc _
  have hbd : Blk u w.heap.size 54 #[.int .i64 x.k, .int .i64 x.a, .int .i64 x.b, .int .i64 x.c, .bool x.p, .bool x.q, .slice x.ao x.es.length x.cap] := by rw [hu]; exact Blk.new w _ _
  unfold DnPost dmV
  clear L4 hk
  go_enter Try.func22, Try.ntmps22
  go_upto_region 1 with fail
  rw [← hu]
  clear hu
  have c0 := hbd.cell 0
  have c1 := hbd.cell 1
  have c2 := hbd.cell 2
  have c3 := hbd.cell 3
  have c4 := hbd.cell 4
  have c5 := hbd.cell 5
  have c6 := hbd.cell 6
  simp only [List.getElem?_toArray, List.getElem?_cons_zero, List.getElem?_cons_succ] at c0 c1 c2 c3 c4 c5 c6
  have hltd := hbd.lt
  go_wp2_with fail
  refine (HL.out _).mono ?_
  rintro e v0 ⟨rfl, rfl⟩
  have HA2 := Lib.hid (HP'.out _ hxu)
  clear HP'
  go_wp2_with fail
  refine HA2.out.mono ?_
  rintro e v2 ⟨rfl, hn, h2, hm2⟩
  have H2 := Lib.hid h2
  have Hn := Lib.hid hn
  have Hm := Lib.hid ((Mod.any (S := tabS tb mb) hxu).trans hm2 (fun _ _ f => f))
  clear h2 hm2 hn
  go_wp2_with fail
  go_ret2
  exact ⟨by rw [Hn.out]; rfl, H2.out, Hm.out⟩

set_option maxHeartbeats 1600000 in
set_option maxRecDepth 1000000 in
theorem does_moveA (x : Dm) (hk : ((lowN x.k 7 : Nat) : Int) = 5) (tb mb : Nat) (L : Tb) (last Bd : Int) (w : World) (h : TabAt w tb mb L last) (hT : Tok L last Bd) (hB : 65536 ≤ Bd) (hB2 : Bd ≤ 900000000)
    (hr : Reads w 3 x.ao x.es.length (edE.cells x.es)) (hn : x.es.length ≤ 19) (ht : ∀ e ∈ x.es, e.t.size ≤ 100000) :
    Calls Try.prog 22 #[.pointer (some ⟨tb, 0, none⟩), dmV x] w (DnPost tb mb (moveD L last (editsL x.es)) w) := by
  have L4 := lowC x.k 7 7 rfl (by omega) (by omega)
  have HE := Lib.hid (fun w' (hx : Ext w w') => edits7_any x.ao x.cap x.es w' (hr.mod hx (fun _ _ f => f)) (by omega))
  have hlt1 := h.blk.lt
  have hlt2 := h.map.lt
  have HP' := Lib.hid (fun w1 w2 (ao : Option Addr) (cap : Nat) (hx : Ext w w1) (hx2 : Ext w1 w2) (v : Value) (hv : v = .slice ao (editsL x.es).length cap) (ho : w2.ownsRow w1.heap.size 37 3 v (editsL x.es).length (edE.cells (editsL x.es))) =>
    moveD_any (editsL x.es) ao cap tb mb L last Bd w2 (h.ext (hx.ext_trans hx2)) hT hB hB2 (by subst hv; exact Reads.own ho) (by rw [editsL_len]; exact hn) (fun e he => by
      obtain ⟨e0, h0, rfl⟩ := List.mem_map.1 he
      exact ht e0 h0) (fun hz a ha => by
        obtain ⟨g, c, hs⟩ := Enc.owns_some (E := edE) ho hz
        subst hv
        cases hs
        cases ha
        have := (Enc.owns_block (E := edE) ho).1
        have := hx.size
        unfold tabS
        simp only
        omega))
  unfold Enc.Out at HE
  generalize moveD L last (editsL x.es) = d at *
  generalize editsL x.es = E at *
  clear h hT hr hn ht
  rw [hk] at L4
  have HL := Lib.hid L4
  obtain ⟨u, hu⟩ : ∃ u, u = w.alloc (.cells #[.int .i64 x.k, .int .i64 x.a, .int .i64 x.b, .int .i64 x.c, .bool x.p, .bool x.q, .slice x.ao x.es.length x.cap] 54) := ⟨_, rfl⟩
  have hxu : Ext w u := by rw [hu]; exact (Mod.refl _ w).alloc _
  have hbd : Blk u w.heap.size 54 #[.int .i64 x.k, .int .i64 x.a, .int .i64 x.b, .int .i64 x.c, .bool x.p, .bool x.q, .slice x.ao x.es.length x.cap] := by rw [hu]; exact Blk.new w _ _
  unfold DnPost dmV
  clear L4 hk
  go_enter Try.func22, Try.ntmps22
  go_upto_region 1 with fail
  rw [← hu]
  clear hu
  have c0 := hbd.cell 0
  have c1 := hbd.cell 1
  have c2 := hbd.cell 2
  have c3 := hbd.cell 3
  have c4 := hbd.cell 4
  have c5 := hbd.cell 5
  have c6 := hbd.cell 6
  simp only [List.getElem?_toArray, List.getElem?_cons_zero, List.getElem?_cons_succ] at c0 c1 c2 c3 c4 c5 c6
  have hltd := hbd.lt
  go_wp2_with fail
  refine (HL.out _).mono ?_
  rintro e v0 ⟨rfl, rfl⟩
  have HE2 := Lib.hid (HE.out _ hxu)
  clear HE
  go_wp2_with fail
  refine HE2.out.mono ?_
  rintro e v1 ⟨v, rfl, ho, hx1⟩
  obtain ⟨ao, c, rfl, _⟩ := Enc.owns_reads (E := edE) ho
  have HA2 := Lib.hid (HP'.out _ _ ao c hxu hx1 _ rfl ho)
  have hx2 := hxu.ext_trans hx1
  clear HP' HE2 ho c0 c1 c2 c3 c4 c5 c6 hltd hx1
  go_wp2_with fail
  refine HA2.out.mono ?_
  rintro e v2 ⟨rfl, hn, h2, hm2⟩
  have H2 := Lib.hid h2
  have Hn := Lib.hid hn
  have Hm := Lib.hid ((Mod.any (S := tabS tb mb) hx2).trans hm2 (fun _ _ f => f))
  clear h2 hm2 hn
  go_wp2_with fail
  go_ret2
  exact ⟨by rw [Hn.out]; rfl, H2.out, Hm.out⟩

theorem does_any (x : Dm) (tb mb : Nat) (L : Tb) (last Bd : Int) (w0 w : World) (h : TabAt w tb mb L last) (hT : Tok L last Bd) (hB : 65536 ≤ Bd) (hB2 : Bd ≤ 900000000) (hx : DmOk w0 x) (hw : Ext w0 w) (hn : x.es.length ≤ 8) (ht : ∀ e ∈ x.es, e.t.size ≤ 60) (h1 : w0.heap.size ≤ tb) (h2 : w0.heap.size ≤ mb) :
    Calls Try.prog 22 #[.pointer (some ⟨tb, 0, none⟩), dmV x] w (DnPost tb mb (doesD x L last) w) := by
  have hr := hx.rd.mod hw (fun _ _ f => f)
  have ht2 : ∀ e ∈ x.es, e.t.size ≤ 100000 := fun e he => by have := ht e he; omega
  have hb := lowN_lt x.k 7 (by omega)
  unfold doesD
  split
  · rename_i hk
    refine does_add (lowN x.k 7 : Nat) (by omega) x rfl tb mb L last Bd w h hT ?_
    unfold ofR
    split
    · have := lowN_lt x.c 5 (by omega)
      exact id_wf (by simp only; omega) (by simp only; omega)
    · exact hx.wc
  · split
    · rename_i hk
      exact does_pose x (by rw [hk]; rfl) tb mb L last Bd w h hT
    · split
      · rename_i hk
        exact does_drop x (by rw [hk]; rfl) tb mb L last Bd w h hT
      · split
        · rename_i hk
          exact does_moveA x (by rw [hk]; rfl) tb mb L last Bd w h hT hB hB2 hr (by omega) ht2
        · refine does_moveB x (by omega) tb mb L last Bd w h hT hB hB2 hr (by omega) ht2 (fun hz a ha => ?_)
          obtain ⟨b, off, e, hc⟩ := hx.rd.2 hz
          rw [e] at ha
          cases ha
          have hl : 0 < (edE.cells x.es).length := by rw [edE.cells_len]; show 0 < x.es.length * 3; omega
          have h0 := hc 0 hl
          rw [List.getElem?_eq_getElem hl] at h0
          have := World.block_lt_of_cell? w0 _ h0
          simp only at this
          unfold tabS
          simp only
          omega
end Go.Proofs.Ytffplppglicibaa

/- The document's Go. Conditions: a text of at most 65536 bytes, at most 64 selections. -/
import Derived.Test.YthlmgoagnfkhdaaGreatGimG31
import Derived.Test.YthlmgoagnfkhdaaGreatGimG29
import Derived.Test.YthlmgoagnfkhdaaGreatGimG22
set_option maxHeartbeats 6400000
set_option maxRecDepth 1000000
set_option linter.unusedVariables false
set_option linter.unusedSimpArgs false
namespace Go.Proofs.YthlmgoagnfkhdaaGreat
open Go.RowKit Go.Gim
theorem refGo_way (s : ByteArray) (way : Int) (x : Bool) (ao : Option Addr) (n cap : Nat) (w : World) (h : ¬ (1 ≤ way ∧ way ≤ 10)) :
  Calls Tryz.prog 65 #[.string s, .int .i64 way, .bool x, .slice ao n cap] w (GoPost 47 [] 2 w) := by
 by_cases h1 : way < 1
 ·have i1 : decide (way < 1) = true := decide_eq_true h1
  clear h
  go_enter Tryz.func65, Tryz.ntmps65
  go_wp2_with fail
  go_ret2
  exact ⟨none, 0, rfl, World.ownsRow_nil _ _ _ _, Mod.refl _ _⟩
 ·have i1 : decide (way < 1) = false := by simpa using h1
  have h2 : 10 < way := by omega
  clear h
  go_enter Tryz.func65, Tryz.ntmps65
  go_wp2_with fail
  go_ret2
  exact ⟨none, 0, rfl, World.ownsRow_nil _ _ _ _, Mod.refl _ _⟩
theorem refGo_ext (s : ByteArray) (ao : Option Addr) (cap : Nat) (l : List (Int × Int)) (way : Int) (w : World) (hs : s.size ≤ 65536) (hr : Reads w 2 ao l.length (prCells l)) (hn : l.length ≤ 64) (h3 : 1 ≤ way) (h4 : way ≤ 10) :
  Calls Tryz.prog 65 #[.string s, .int .i64 way, .bool true, .slice ao l.length cap] w (GoPost 47 (goL s.data.toList way true l) (goE s.size way l) w) := by
 have hsz : s.data.toList.length = s.size := toList_length s
 have hn1 := Lib.hid (fun v hv => refNorm_any s.size ao cap l v hv hn)
 have hst := Lib.hid (fun (q : Nat) (hq : q ≤ s.size) v => refStep_yes s q way v hs hq h3 h4)
 have HE := Lib.hid (show goE s.size way l = normE s.size l by unfold goE; rw [if_pos ⟨h3, h4⟩])
 have Hr := Lib.hid hr
 have j1 : decide (way < 1) = false := decide_eq_false (by omega)
 have j2 : ¬ 10 < way := by omega
 have j3 : decide (10 < way) = false := decide_eq_false (by omega)
 have Hsz := Lib.hid hsz
 clear hr hsz
 go_enter Tryz.func65, Tryz.ntmps65
 go_wp2_with fail
 refine (hn1.out _ Hr.out).mono ?_
 rintro e w3 ⟨v, rfl, hown, y3⟩
 by_cases hE : normE s.size l = 0
 ·have Hgl := Lib.hid (show goL s.data.toList way true l = normL s.size ((normL s.size l).map (turned s.data.toList way true)) by
   unfold goL; rw [Hsz.out, HE.out, if_pos hE])
  have Hag := Lib.hid (show normE s.size ((normL s.size l).map (turned s.data.toList way true)) = 0 by
   have := go_again (t := s.data.toList) (way := way) (ext := true) (l := l) (by rw [Hsz.out]; exact hE)
   rwa [Hsz.out] at this)
  have Hin := Lib.hid (normL_in (n := s.size) (l := l))
  have hpos : 0 < (normL s.size l).length := by rw [normL_ok hE]; exact orderN_pos (normE_ok hE).1
  have hM : (normL s.size l).length ≤ 64 := Nat.le_trans (normL_len _ _) hn
  have HE0 := Lib.hid hE
  rw [hE]
  clear hE
  generalize normL s.size l = L at *
  obtain ⟨M, hMM⟩ : ∃ M, M = L.length := ⟨_, rfl⟩
  rw [← hMM] at hown hpos hM
  have HM := Lib.hid hMM
  obtain ⟨g, cp, rfl⟩ := owns_some hown hpos
  have Ho3 := Lib.hid hown
  clear hown hMM
  go_wp2_with fail
  go_loopw [12, 13] (fun v i wr => ∃ k : Nat, k ≤ M ∧ i = .int .i64 k ∧ Hid (wr.ownsRow w3.heap.size 47 2 v k (prCells ((L.take k).map (turned s.data.toList way true)))) ∧ Ext w3 wr) (fun _ i _ => M - (intOf i).toNat)
  case atStart => exact ⟨0, by omega, rfl, Lib.hid (World.ownsRow_nil _ _ _ _), Mod.refl _ _⟩
  case round =>
   obtain ⟨k, hk, rfl, HO, hxr⟩ := hrel
   by_cases hlt : k < M
   ·have hlt' : (k : Int) < (M : Int) := by omega
    have hk0 : (0 : Int) ≤ (k : Int) := by omega
    have hk1 : (k : Int) ≤ 64 := by omega
    have hLk : L[k]? = some (L[k]'(by rw [← HM.out]; exact hlt)) := List.getElem?_eq_getElem _
    have hmem := Hin.out _ (List.getElem_mem (l := L) (by rw [← HM.out]; exact hlt))
    have hts := List.take_succ_eq_append_getElem (l := L) (i := k) (by rw [← HM.out]; exact hlt)
    generalize L[k]'(by rw [← HM.out]; exact hlt) = x at *
    rw [mayB_span] at hmem
    obtain ⟨a, b⟩ := x
    simp only at hmem
    obtain ⟨m1, m2, m3, m4⟩ := hmem
    obtain ⟨q, rfl⟩ := Int.eq_ofNat_of_zero_le m2
    have hq : q ≤ s.size := by omega
    obtain ⟨c0, c1⟩ := owns_cell (ownsRow_mod Ho3.out hxr (fun _ _ f => f)) hLk
    have hgl := (owns_block (ownsRow_mod Ho3.out hxr (fun _ _ f => f))).2
    have Hts := Lib.hid hts
    have Hst := Lib.hid (fun v => hst.out q hq v)
    clear hLk hts
    have HT := Lib.hid (show toN s.data.toList way true (a, (q : Int)) = (stepN s.data.toList q way : Nat) by unfold toN; rw [if_pos (Or.inl rfl)]; rfl)
    generalize stepN s.data.toList q way = U at *
    have HF := Lib.hid (show turned s.data.toList way true (a, (q : Int)) = (a, ((U : Nat) : Int)) by unfold turned; rw [HT.out]; rfl)
    go_wp2_with fail
    refine (refSpan_any (a, (q : Int)) _).mono ?_
    rintro e w4 ⟨rfl, y4⟩
    have hxa := (hxr.alloc (.cells #[.int .i64 a, .int .i64 (q : Nat)] 47)).ext_trans y4
    have hbx := (Blk.new wr 47 #[.int .i64 a, .int .i64 (q : Nat)]).mod y4 (fun f => f)
    have hmx := (((Mod.refl (fun _ => False) wr).alloc (.cells #[.int .i64 a, .int .i64 (q : Nat)] 47)).ext_trans y4).alloc (.cells #[.int .i64 (spanI (a, (q : Int))).1, .int .i64 (spanI (a, (q : Int))).2] 49)
    have q0 : w4.cell? ⟨wr.heap.size, 0, none⟩ = some (.int .i64 a) := hbx.cell 0
    have q1 : w4.cell? ⟨wr.heap.size, 1, none⟩ = some (.int .i64 (q : Nat)) := hbx.cell 1
    have qlt := hbx.lt
    clear c0 c1 hgl y4
    go_wp2_with fail
    refine (Hst.out _).mono ?_
    rintro e w5 ⟨rfl, y5⟩
    have hb5 := (hbx.alloc (.cells #[.int .i64 (spanI (a, (q : Int))).1, .int .i64 (spanI (a, (q : Int))).2] 49)).mod y5 (fun f => f)
    have hb6 := (Blk.new w4 49 #[.int .i64 (spanI (a, (q : Int))).1, .int .i64 (spanI (a, (q : Int))).2]).mod y5 (fun f => f)
    have hm5 := hmx.ext_trans y5
    have hx5 := (hxa.alloc (.cells #[.int .i64 (spanI (a, (q : Int))).1, .int .i64 (spanI (a, (q : Int))).2] 49)).ext_trans y5
    clear q0 q1 qlt hbx y5 hmx hxa
    have q0 : w5.cell? ⟨wr.heap.size, 0, none⟩ = some (.int .i64 a) := hb5.cell 0
    have q1 : w5.cell? ⟨wr.heap.size, 1, none⟩ = some (.int .i64 (q : Nat)) := hb5.cell 1
    have f0 := hb5.free 0
    have f1 := hb5.free 1
    have q2 : w5.cell? ⟨w4.heap.size, 0, none⟩ = some (.int .i64 (spanI (a, (q : Int))).1) := hb6.cell 0
    have q3 : w5.cell? ⟨w4.heap.size, 1, none⟩ = some (.int .i64 (spanI (a, (q : Int))).2) := hb6.cell 1
    have qlt := hb5.lt
    have qlt2 := hb6.lt
    have hxm : Mod (· = wr.heap.size) wr (w5.setCell ⟨wr.heap.size, 1, none⟩ (.int .i64 ((U : Nat) : Int))) := (hm5.any (S := (· = wr.heap.size))).setCell (p := ⟨wr.heap.size, 1, none⟩) (fun _ => rfl) _
    have hxf : Ext w3 (w5.setCell ⟨wr.heap.size, 1, none⟩ (.int .i64 ((U : Nat) : Int))) := hx5.trans ((Mod.refl (· = wr.heap.size) w5).setCell (p := ⟨wr.heap.size, 1, none⟩) (fun _ => rfl) _) (fun i hi e => by have := hxr.size; omega)
    have Hom := Lib.hid (ownsRow_mod HO.out hxm (fun i hi e => absurd (HO.out.lt i hi).2 (by omega)))
    clear hb5 hb6 hx5 hm5 hxm
    go_wp2_with (at_builtin; refine wpList_append_reads rfl _ _ 32 rfl w3.heap.size 47 _ 2 16 Tryz.info47 Tryz.underlying32 rfl (by decide) _ k _ rfl (Hom.out.alloc _) _ 1 1 [.int .i64 a, .int .i64 ((U : Nat) : Int)] rfl ?_ (two_cells a ((U : Nat) : Int)) (by unfold maxLen; omega) (by omega) ?_ ?_)
    ·have := Reads.new (w5.setCell ⟨wr.heap.size, 1, none⟩ (.int .i64 ((U : Nat) : Int))) 47 #[.int .i64 a, .int .i64 ((U : Nat) : Int)] 2 1 rfl
     simpa using this
    ·have := hxf.size; simp at this ⊢; omega
    ·intro v' w7 hown hm7 hbk
     have hx7 := (hxf.alloc _).over hm7 (fun i hi => (Hom.out.lt i hi).1)
     have Hown := Lib.hid hown
     clear hm7 hbk hown hxf
     go_wp2_with fail
     go_roundw
     case rel => exact ⟨k + 1, by omega, by go_num, Lib.hid (by rw [Hts.out, List.map_append, prCells_append, List.map_cons, List.map_nil, HF.out, List.map_take]; exact Hown.out), hx7⟩
     case measure => simp [intOf]; omega
   ·have hlt' : ¬ (k : Int) < (M : Int) := by omega
    obtain rfl : k = M := by omega
    have HO2 := HO.out
    rw [HM.out, List.take_of_length_le (Nat.le_refl _)] at HO2
    obtain ⟨ao2, c2, rfl, hr2⟩ := owns_reads HO2
    have hn2 := refNorm_any s.size ao2 c2 (L.map (turned s.data.toList way true)) _ (by rw [List.length_map]; exact hr2) (by rw [List.length_map, ← HM.out]; exact hM)
    rw [List.length_map, ← HM.out] at hn2
    rw [← HM.out]
    have HN2 := Lib.hid hn2
    clear hn2 hr2 HO2
    go_wp2_with fail
    refine HN2.out.mono ?_
    rintro e w9 ⟨v9, rfl, hown9, y9⟩
    rw [Hag.out]
    obtain ⟨ao9, c9, rfl, _⟩ := owns_reads hown9
    have HR9 := Lib.hid (ownsRow_base hown9 (y3.ext_trans hxr).size)
    clear hown9
    go_wp2_with fail
    go_ret2
    exact ⟨ao9, c9, by rw [Hgl.out, HE.out, HE0.out]; rfl, by rw [Hgl.out]; exact HR9.out, y3.ext_trans (hxr.ext_trans y9)⟩
 ·have e1 : (normE s.size l == 0) = false := by simpa using hE
  have e2 : (normE s.size l != 0) = true := by simpa using hE
  have Hgl := Lib.hid (show goL s.data.toList way true l = [] by unfold goL; rw [Hsz.out, HE.out, if_neg hE])
  obtain ⟨ao3, cp3, rfl, _⟩ := owns_reads hown
  generalize normE s.size l = E at *
  clear hown
  go_wp2_with fail
  go_ret2
  exact ⟨none, 0, by rw [Hgl.out, HE.out]; rfl, by rw [Hgl.out]; exact World.ownsRow_nil _ _ _ _, y3⟩
theorem refGo_far (s : ByteArray) (ao : Option Addr) (cap : Nat) (l : List (Int × Int)) (way : Int) (w : World) (hs : s.size ≤ 65536) (hr : Reads w 2 ao l.length (prCells l)) (hn : l.length ≤ 64) (h3 : 1 ≤ way) (h4 : way ≤ 10) (hw2 : 2 < way) :
  Calls Tryz.prog 65 #[.string s, .int .i64 way, .bool false, .slice ao l.length cap] w (GoPost 47 (goL s.data.toList way false l) (goE s.size way l) w) := by
 have hsz : s.data.toList.length = s.size := toList_length s
 have hn1 := Lib.hid (fun v hv => refNorm_any s.size ao cap l v hv hn)
 have hst := Lib.hid (fun (q : Nat) (hq : q ≤ s.size) v => refStep_yes s q way v hs hq h3 h4)
 have HE := Lib.hid (show goE s.size way l = normE s.size l by unfold goE; rw [if_pos ⟨h3, h4⟩])
 have Hr := Lib.hid hr
 have j1 : decide (way < 1) = false := decide_eq_false (by omega)
 have j2 : ¬ 10 < way := by omega
 have j3 : decide (10 < way) = false := decide_eq_false (by omega)
 have Hsz := Lib.hid hsz
 clear hr hsz
 go_enter Tryz.func65, Tryz.ntmps65
 go_wp2_with fail
 refine (hn1.out _ Hr.out).mono ?_
 rintro e w3 ⟨v, rfl, hown, y3⟩
 by_cases hE : normE s.size l = 0
 ·have Hgl := Lib.hid (show goL s.data.toList way false l = normL s.size ((normL s.size l).map (turned s.data.toList way false)) by
   unfold goL; rw [Hsz.out, HE.out, if_pos hE])
  have Hag := Lib.hid (show normE s.size ((normL s.size l).map (turned s.data.toList way false)) = 0 by
   have := go_again (t := s.data.toList) (way := way) (ext := false) (l := l) (by rw [Hsz.out]; exact hE)
   rwa [Hsz.out] at this)
  have Hin := Lib.hid (normL_in (n := s.size) (l := l))
  have hpos : 0 < (normL s.size l).length := by rw [normL_ok hE]; exact orderN_pos (normE_ok hE).1
  have hM : (normL s.size l).length ≤ 64 := Nat.le_trans (normL_len _ _) hn
  have HE0 := Lib.hid hE
  rw [hE]
  clear hE
  generalize normL s.size l = L at *
  obtain ⟨M, hMM⟩ : ∃ M, M = L.length := ⟨_, rfl⟩
  rw [← hMM] at hown hpos hM
  have HM := Lib.hid hMM
  obtain ⟨g, cp, rfl⟩ := owns_some hown hpos
  have Ho3 := Lib.hid hown
  clear hown hMM
  go_wp2_with fail
  go_loopw [12, 13] (fun v i wr => ∃ k : Nat, k ≤ M ∧ i = .int .i64 k ∧ Hid (wr.ownsRow w3.heap.size 47 2 v k (prCells ((L.take k).map (turned s.data.toList way false)))) ∧ Ext w3 wr) (fun _ i _ => M - (intOf i).toNat)
  case atStart => exact ⟨0, by omega, rfl, Lib.hid (World.ownsRow_nil _ _ _ _), Mod.refl _ _⟩
  case round =>
   obtain ⟨k, hk, rfl, HO, hxr⟩ := hrel
   by_cases hlt : k < M
   ·have hlt' : (k : Int) < (M : Int) := by omega
    have hk0 : (0 : Int) ≤ (k : Int) := by omega
    have hk1 : (k : Int) ≤ 64 := by omega
    have hLk : L[k]? = some (L[k]'(by rw [← HM.out]; exact hlt)) := List.getElem?_eq_getElem _
    have hmem := Hin.out _ (List.getElem_mem (l := L) (by rw [← HM.out]; exact hlt))
    have hts := List.take_succ_eq_append_getElem (l := L) (i := k) (by rw [← HM.out]; exact hlt)
    generalize L[k]'(by rw [← HM.out]; exact hlt) = x at *
    rw [mayB_span] at hmem
    obtain ⟨a, b⟩ := x
    simp only at hmem
    obtain ⟨m1, m2, m3, m4⟩ := hmem
    obtain ⟨q, rfl⟩ := Int.eq_ofNat_of_zero_le m2
    have hq : q ≤ s.size := by omega
    obtain ⟨c0, c1⟩ := owns_cell (ownsRow_mod Ho3.out hxr (fun _ _ f => f)) hLk
    have hgl := (owns_block (ownsRow_mod Ho3.out hxr (fun _ _ f => f))).2
    have Hts := Lib.hid hts
    have Hst := Lib.hid (fun v => hst.out q hq v)
    clear hLk hts
    have b3 : (way == 1) = false := by simp; omega
    have b4 : (way == 2) = false := by simp; omega
    have b5 : decide (way = 1) = false := by simp; omega
    have b6 : decide (way = 2) = false := by simp; omega
    by_cases hab : (spanI (a, (q : Int))).1 < (spanI (a, (q : Int))).2
    ·have b1 : decide ((spanI (a, (q : Int))).1 < (spanI (a, (q : Int))).2) = true := decide_eq_true hab
     have HT := Lib.hid (show toN s.data.toList way false (a, (q : Int)) = (stepN s.data.toList q way : Nat) by unfold toN; rw [if_pos (Or.inr (Or.inr hw2))]; rfl)
     generalize stepN s.data.toList q way = U at *
     have HF := Lib.hid (show turned s.data.toList way false (a, (q : Int)) = (((U : Nat) : Int), ((U : Nat) : Int)) by unfold turned; rw [HT.out]; rfl)
     go_wp2_with fail
     refine (refSpan_any (a, (q : Int)) _).mono ?_
     rintro e w4 ⟨rfl, y4⟩
     have hxa := (hxr.alloc (.cells #[.int .i64 a, .int .i64 (q : Nat)] 47)).ext_trans y4
     have hbx := (Blk.new wr 47 #[.int .i64 a, .int .i64 (q : Nat)]).mod y4 (fun f => f)
     have hmx := (((Mod.refl (fun _ => False) wr).alloc (.cells #[.int .i64 a, .int .i64 (q : Nat)] 47)).ext_trans y4).alloc (.cells #[.int .i64 (spanI (a, (q : Int))).1, .int .i64 (spanI (a, (q : Int))).2] 49)
     have q0 : w4.cell? ⟨wr.heap.size, 0, none⟩ = some (.int .i64 a) := hbx.cell 0
     have q1 : w4.cell? ⟨wr.heap.size, 1, none⟩ = some (.int .i64 (q : Nat)) := hbx.cell 1
     have qlt := hbx.lt
     clear c0 c1 hgl y4
     go_wp2_with fail
     refine (Hst.out _).mono ?_
     rintro e w5 ⟨rfl, y5⟩
     have hb5 := (hbx.alloc (.cells #[.int .i64 (spanI (a, (q : Int))).1, .int .i64 (spanI (a, (q : Int))).2] 49)).mod y5 (fun f => f)
     have hb6 := (Blk.new w4 49 #[.int .i64 (spanI (a, (q : Int))).1, .int .i64 (spanI (a, (q : Int))).2]).mod y5 (fun f => f)
     have hm5 := hmx.ext_trans y5
     have hx5 := (hxa.alloc (.cells #[.int .i64 (spanI (a, (q : Int))).1, .int .i64 (spanI (a, (q : Int))).2] 49)).ext_trans y5
     clear q0 q1 qlt hbx y5 hmx hxa
     have q0 : w5.cell? ⟨wr.heap.size, 0, none⟩ = some (.int .i64 a) := hb5.cell 0
     have q1 : w5.cell? ⟨wr.heap.size, 1, none⟩ = some (.int .i64 (q : Nat)) := hb5.cell 1
     have f0 := hb5.free 0
     have f1 := hb5.free 1
     have q2 : w5.cell? ⟨w4.heap.size, 0, none⟩ = some (.int .i64 (spanI (a, (q : Int))).1) := hb6.cell 0
     have q3 : w5.cell? ⟨w4.heap.size, 1, none⟩ = some (.int .i64 (spanI (a, (q : Int))).2) := hb6.cell 1
     have qlt := hb5.lt
     have qlt2 := hb6.lt
     have hxm : Mod (· = wr.heap.size) wr ((w5.setCell ⟨wr.heap.size, 0, none⟩ (.int .i64 ((U : Nat) : Int))).setCell ⟨wr.heap.size, 1, none⟩ (.int .i64 ((U : Nat) : Int))) := ((hm5.any (S := (· = wr.heap.size))).setCell (p := ⟨wr.heap.size, 0, none⟩) (fun _ => rfl) _).setCell (p := ⟨wr.heap.size, 1, none⟩) (fun _ => rfl) _
     have hxf : Ext w3 ((w5.setCell ⟨wr.heap.size, 0, none⟩ (.int .i64 ((U : Nat) : Int))).setCell ⟨wr.heap.size, 1, none⟩ (.int .i64 ((U : Nat) : Int))) := hx5.trans (((Mod.refl (· = wr.heap.size) w5).setCell (p := ⟨wr.heap.size, 0, none⟩) (fun _ => rfl) _).setCell (p := ⟨wr.heap.size, 1, none⟩) (fun _ => rfl) _) (fun i hi e => by have := hxr.size; omega)
     have Hom := Lib.hid (ownsRow_mod HO.out hxm (fun i hi e => absurd (HO.out.lt i hi).2 (by omega)))
     clear hb5 hb6 hx5 hm5 hxm
     go_wp2_with (at_builtin; refine wpList_append_reads rfl _ _ 32 rfl w3.heap.size 47 _ 2 16 Tryz.info47 Tryz.underlying32 rfl (by decide) _ k _ rfl (Hom.out.alloc _) _ 1 1 [.int .i64 ((U : Nat) : Int), .int .i64 ((U : Nat) : Int)] rfl ?_ (two_cells ((U : Nat) : Int) ((U : Nat) : Int)) (by unfold maxLen; omega) (by omega) ?_ ?_)
     ·have := Reads.new ((w5.setCell ⟨wr.heap.size, 0, none⟩ (.int .i64 ((U : Nat) : Int))).setCell ⟨wr.heap.size, 1, none⟩ (.int .i64 ((U : Nat) : Int))) 47 #[.int .i64 ((U : Nat) : Int), .int .i64 ((U : Nat) : Int)] 2 1 rfl
      simpa using this
     ·have := hxf.size; simp at this ⊢; omega
     ·intro v' w7 hown hm7 hbk
      have hx7 := (hxf.alloc _).over hm7 (fun i hi => (Hom.out.lt i hi).1)
      have Hown := Lib.hid hown
      clear hm7 hbk hown hxf
      go_wp2_with fail
      go_roundw
      case rel => exact ⟨k + 1, by omega, by go_num, Lib.hid (by rw [Hts.out, List.map_append, prCells_append, List.map_cons, List.map_nil, HF.out, List.map_take]; exact Hown.out), hx7⟩
      case measure => simp [intOf]; omega
    ·have b1 : decide ((spanI (a, (q : Int))).1 < (spanI (a, (q : Int))).2) = false := decide_eq_false hab
     have HT := Lib.hid (show toN s.data.toList way false (a, (q : Int)) = (stepN s.data.toList q way : Nat) by unfold toN; rw [if_pos (Or.inr (Or.inr hw2))]; rfl)
     generalize stepN s.data.toList q way = U at *
     have HF := Lib.hid (show turned s.data.toList way false (a, (q : Int)) = (((U : Nat) : Int), ((U : Nat) : Int)) by unfold turned; rw [HT.out]; rfl)
     go_wp2_with fail
     refine (refSpan_any (a, (q : Int)) _).mono ?_
     rintro e w4 ⟨rfl, y4⟩
     have hxa := (hxr.alloc (.cells #[.int .i64 a, .int .i64 (q : Nat)] 47)).ext_trans y4
     have hbx := (Blk.new wr 47 #[.int .i64 a, .int .i64 (q : Nat)]).mod y4 (fun f => f)
     have hmx := (((Mod.refl (fun _ => False) wr).alloc (.cells #[.int .i64 a, .int .i64 (q : Nat)] 47)).ext_trans y4).alloc (.cells #[.int .i64 (spanI (a, (q : Int))).1, .int .i64 (spanI (a, (q : Int))).2] 49)
     have q0 : w4.cell? ⟨wr.heap.size, 0, none⟩ = some (.int .i64 a) := hbx.cell 0
     have q1 : w4.cell? ⟨wr.heap.size, 1, none⟩ = some (.int .i64 (q : Nat)) := hbx.cell 1
     have qlt := hbx.lt
     clear c0 c1 hgl y4
     go_wp2_with fail
     refine (Hst.out _).mono ?_
     rintro e w5 ⟨rfl, y5⟩
     have hb5 := (hbx.alloc (.cells #[.int .i64 (spanI (a, (q : Int))).1, .int .i64 (spanI (a, (q : Int))).2] 49)).mod y5 (fun f => f)
     have hb6 := (Blk.new w4 49 #[.int .i64 (spanI (a, (q : Int))).1, .int .i64 (spanI (a, (q : Int))).2]).mod y5 (fun f => f)
     have hm5 := hmx.ext_trans y5
     have hx5 := (hxa.alloc (.cells #[.int .i64 (spanI (a, (q : Int))).1, .int .i64 (spanI (a, (q : Int))).2] 49)).ext_trans y5
     clear q0 q1 qlt hbx y5 hmx hxa
     have q0 : w5.cell? ⟨wr.heap.size, 0, none⟩ = some (.int .i64 a) := hb5.cell 0
     have q1 : w5.cell? ⟨wr.heap.size, 1, none⟩ = some (.int .i64 (q : Nat)) := hb5.cell 1
     have f0 := hb5.free 0
     have f1 := hb5.free 1
     have q2 : w5.cell? ⟨w4.heap.size, 0, none⟩ = some (.int .i64 (spanI (a, (q : Int))).1) := hb6.cell 0
     have q3 : w5.cell? ⟨w4.heap.size, 1, none⟩ = some (.int .i64 (spanI (a, (q : Int))).2) := hb6.cell 1
     have qlt := hb5.lt
     have qlt2 := hb6.lt
     have hxm : Mod (· = wr.heap.size) wr ((w5.setCell ⟨wr.heap.size, 0, none⟩ (.int .i64 ((U : Nat) : Int))).setCell ⟨wr.heap.size, 1, none⟩ (.int .i64 ((U : Nat) : Int))) := ((hm5.any (S := (· = wr.heap.size))).setCell (p := ⟨wr.heap.size, 0, none⟩) (fun _ => rfl) _).setCell (p := ⟨wr.heap.size, 1, none⟩) (fun _ => rfl) _
     have hxf : Ext w3 ((w5.setCell ⟨wr.heap.size, 0, none⟩ (.int .i64 ((U : Nat) : Int))).setCell ⟨wr.heap.size, 1, none⟩ (.int .i64 ((U : Nat) : Int))) := hx5.trans (((Mod.refl (· = wr.heap.size) w5).setCell (p := ⟨wr.heap.size, 0, none⟩) (fun _ => rfl) _).setCell (p := ⟨wr.heap.size, 1, none⟩) (fun _ => rfl) _) (fun i hi e => by have := hxr.size; omega)
     have Hom := Lib.hid (ownsRow_mod HO.out hxm (fun i hi e => absurd (HO.out.lt i hi).2 (by omega)))
     clear hb5 hb6 hx5 hm5 hxm
     go_wp2_with (at_builtin; refine wpList_append_reads rfl _ _ 32 rfl w3.heap.size 47 _ 2 16 Tryz.info47 Tryz.underlying32 rfl (by decide) _ k _ rfl (Hom.out.alloc _) _ 1 1 [.int .i64 ((U : Nat) : Int), .int .i64 ((U : Nat) : Int)] rfl ?_ (two_cells ((U : Nat) : Int) ((U : Nat) : Int)) (by unfold maxLen; omega) (by omega) ?_ ?_)
     ·have := Reads.new ((w5.setCell ⟨wr.heap.size, 0, none⟩ (.int .i64 ((U : Nat) : Int))).setCell ⟨wr.heap.size, 1, none⟩ (.int .i64 ((U : Nat) : Int))) 47 #[.int .i64 ((U : Nat) : Int), .int .i64 ((U : Nat) : Int)] 2 1 rfl
      simpa using this
     ·have := hxf.size; simp at this ⊢; omega
     ·intro v' w7 hown hm7 hbk
      have hx7 := (hxf.alloc _).over hm7 (fun i hi => (Hom.out.lt i hi).1)
      have Hown := Lib.hid hown
      clear hm7 hbk hown hxf
      go_wp2_with fail
      go_roundw
      case rel => exact ⟨k + 1, by omega, by go_num, Lib.hid (by rw [Hts.out, List.map_append, prCells_append, List.map_cons, List.map_nil, HF.out, List.map_take]; exact Hown.out), hx7⟩
      case measure => simp [intOf]; omega
   ·have hlt' : ¬ (k : Int) < (M : Int) := by omega
    obtain rfl : k = M := by omega
    have HO2 := HO.out
    rw [HM.out, List.take_of_length_le (Nat.le_refl _)] at HO2
    obtain ⟨ao2, c2, rfl, hr2⟩ := owns_reads HO2
    have hn2 := refNorm_any s.size ao2 c2 (L.map (turned s.data.toList way false)) _ (by rw [List.length_map]; exact hr2) (by rw [List.length_map, ← HM.out]; exact hM)
    rw [List.length_map, ← HM.out] at hn2
    rw [← HM.out]
    have HN2 := Lib.hid hn2
    clear hn2 hr2 HO2
    go_wp2_with fail
    refine HN2.out.mono ?_
    rintro e w9 ⟨v9, rfl, hown9, y9⟩
    rw [Hag.out]
    obtain ⟨ao9, c9, rfl, _⟩ := owns_reads hown9
    have HR9 := Lib.hid (ownsRow_base hown9 (y3.ext_trans hxr).size)
    clear hown9
    go_wp2_with fail
    go_ret2
    exact ⟨ao9, c9, by rw [Hgl.out, HE.out, HE0.out]; rfl, by rw [Hgl.out]; exact HR9.out, y3.ext_trans (hxr.ext_trans y9)⟩
 ·have e1 : (normE s.size l == 0) = false := by simpa using hE
  have e2 : (normE s.size l != 0) = true := by simpa using hE
  have Hgl := Lib.hid (show goL s.data.toList way false l = [] by unfold goL; rw [Hsz.out, HE.out, if_neg hE])
  obtain ⟨ao3, cp3, rfl, _⟩ := owns_reads hown
  generalize normE s.size l = E at *
  clear hown
  go_wp2_with fail
  go_ret2
  exact ⟨none, 0, by rw [Hgl.out, HE.out]; rfl, by rw [Hgl.out]; exact World.ownsRow_nil _ _ _ _, y3⟩
theorem refGo_left (s : ByteArray) (ao : Option Addr) (cap : Nat) (l : List (Int × Int)) (w : World) (hs : s.size ≤ 65536) (hr : Reads w 2 ao l.length (prCells l)) (hn : l.length ≤ 64) :
  Calls Tryz.prog 65 #[.string s, .int .i64 1, .bool false, .slice ao l.length cap] w (GoPost 47 (goL s.data.toList 1 false l) (goE s.size 1 l) w) := by
 have h3 : (1 : Int) ≤ 1 := by omega
 have h4 : (1 : Int) ≤ 10 := by omega
 have hsz : s.data.toList.length = s.size := toList_length s
 have hn1 := Lib.hid (fun v hv => refNorm_any s.size ao cap l v hv hn)
 have hst := Lib.hid (fun (q : Nat) (hq : q ≤ s.size) v => refStep_yes s q 1 v hs hq h3 h4)
 have HE := Lib.hid (show goE s.size 1 l = normE s.size l by unfold goE; rw [if_pos ⟨h3, h4⟩])
 have Hr := Lib.hid hr
 have j1 : decide (1 < 1) = false := decide_eq_false (by omega)
 have j2 : ¬ 10 < 1 := by omega
 have j3 : decide (10 < 1) = false := decide_eq_false (by omega)
 have Hsz := Lib.hid hsz
 clear hr hsz
 go_enter Tryz.func65, Tryz.ntmps65
 go_wp2_with fail
 refine (hn1.out _ Hr.out).mono ?_
 rintro e w3 ⟨v, rfl, hown, y3⟩
 by_cases hE : normE s.size l = 0
 ·have Hgl := Lib.hid (show goL s.data.toList 1 false l = normL s.size ((normL s.size l).map (turned s.data.toList 1 false)) by
   unfold goL; rw [Hsz.out, HE.out, if_pos hE])
  have Hag := Lib.hid (show normE s.size ((normL s.size l).map (turned s.data.toList 1 false)) = 0 by
   have := go_again (t := s.data.toList) (way := 1) (ext := false) (l := l) (by rw [Hsz.out]; exact hE)
   rwa [Hsz.out] at this)
  have Hin := Lib.hid (normL_in (n := s.size) (l := l))
  have hpos : 0 < (normL s.size l).length := by rw [normL_ok hE]; exact orderN_pos (normE_ok hE).1
  have hM : (normL s.size l).length ≤ 64 := Nat.le_trans (normL_len _ _) hn
  have HE0 := Lib.hid hE
  rw [hE]
  clear hE
  generalize normL s.size l = L at *
  obtain ⟨M, hMM⟩ : ∃ M, M = L.length := ⟨_, rfl⟩
  rw [← hMM] at hown hpos hM
  have HM := Lib.hid hMM
  obtain ⟨g, cp, rfl⟩ := owns_some hown hpos
  have Ho3 := Lib.hid hown
  clear hown hMM
  go_wp2_with fail
  go_loopw [12, 13] (fun v i wr => ∃ k : Nat, k ≤ M ∧ i = .int .i64 k ∧ Hid (wr.ownsRow w3.heap.size 47 2 v k (prCells ((L.take k).map (turned s.data.toList 1 false)))) ∧ Ext w3 wr) (fun _ i _ => M - (intOf i).toNat)
  case atStart => exact ⟨0, by omega, rfl, Lib.hid (World.ownsRow_nil _ _ _ _), Mod.refl _ _⟩
  case round =>
   obtain ⟨k, hk, rfl, HO, hxr⟩ := hrel
   by_cases hlt : k < M
   ·have hlt' : (k : Int) < (M : Int) := by omega
    have hk0 : (0 : Int) ≤ (k : Int) := by omega
    have hk1 : (k : Int) ≤ 64 := by omega
    have hLk : L[k]? = some (L[k]'(by rw [← HM.out]; exact hlt)) := List.getElem?_eq_getElem _
    have hmem := Hin.out _ (List.getElem_mem (l := L) (by rw [← HM.out]; exact hlt))
    have hts := List.take_succ_eq_append_getElem (l := L) (i := k) (by rw [← HM.out]; exact hlt)
    generalize L[k]'(by rw [← HM.out]; exact hlt) = x at *
    rw [mayB_span] at hmem
    obtain ⟨a, b⟩ := x
    simp only at hmem
    obtain ⟨m1, m2, m3, m4⟩ := hmem
    obtain ⟨q, rfl⟩ := Int.eq_ofNat_of_zero_le m2
    have hq : q ≤ s.size := by omega
    obtain ⟨c0, c1⟩ := owns_cell (ownsRow_mod Ho3.out hxr (fun _ _ f => f)) hLk
    have hgl := (owns_block (ownsRow_mod Ho3.out hxr (fun _ _ f => f))).2
    have Hts := Lib.hid hts
    have Hst := Lib.hid (fun v => hst.out q hq v)
    clear hLk hts
    by_cases hab : a = (q : Int)
    ·have b1 : decide ((spanI (a, (q : Int))).1 < (spanI (a, (q : Int))).2) = false := by rw [hab]; simp [spanI]
     have HT := Lib.hid (show toN s.data.toList 1 false (a, (q : Int)) = (stepN s.data.toList q 1 : Nat) by unfold toN; rw [if_pos (Or.inr (Or.inl hab))]; rfl)
     generalize stepN s.data.toList q 1 = U at *
     clear hab
     have HF := Lib.hid (show turned s.data.toList 1 false (a, (q : Int)) = (((U : Nat) : Int), ((U : Nat) : Int)) by unfold turned; rw [HT.out]; rfl)
     go_wp2_with fail
     refine (refSpan_any (a, (q : Int)) _).mono ?_
     rintro e w4 ⟨rfl, y4⟩
     have hxa := (hxr.alloc (.cells #[.int .i64 a, .int .i64 (q : Nat)] 47)).ext_trans y4
     have hbx := (Blk.new wr 47 #[.int .i64 a, .int .i64 (q : Nat)]).mod y4 (fun f => f)
     have hmx := (((Mod.refl (fun _ => False) wr).alloc (.cells #[.int .i64 a, .int .i64 (q : Nat)] 47)).ext_trans y4).alloc (.cells #[.int .i64 (spanI (a, (q : Int))).1, .int .i64 (spanI (a, (q : Int))).2] 49)
     have q0 : w4.cell? ⟨wr.heap.size, 0, none⟩ = some (.int .i64 a) := hbx.cell 0
     have q1 : w4.cell? ⟨wr.heap.size, 1, none⟩ = some (.int .i64 (q : Nat)) := hbx.cell 1
     have qlt := hbx.lt
     clear c0 c1 hgl y4
     go_wp2_with fail
     refine (Hst.out _).mono ?_
     rintro e w5 ⟨rfl, y5⟩
     have hb5 := (hbx.alloc (.cells #[.int .i64 (spanI (a, (q : Int))).1, .int .i64 (spanI (a, (q : Int))).2] 49)).mod y5 (fun f => f)
     have hb6 := (Blk.new w4 49 #[.int .i64 (spanI (a, (q : Int))).1, .int .i64 (spanI (a, (q : Int))).2]).mod y5 (fun f => f)
     have hm5 := hmx.ext_trans y5
     have hx5 := (hxa.alloc (.cells #[.int .i64 (spanI (a, (q : Int))).1, .int .i64 (spanI (a, (q : Int))).2] 49)).ext_trans y5
     clear q0 q1 qlt hbx y5 hmx hxa
     have q0 : w5.cell? ⟨wr.heap.size, 0, none⟩ = some (.int .i64 a) := hb5.cell 0
     have q1 : w5.cell? ⟨wr.heap.size, 1, none⟩ = some (.int .i64 (q : Nat)) := hb5.cell 1
     have f0 := hb5.free 0
     have f1 := hb5.free 1
     have q2 : w5.cell? ⟨w4.heap.size, 0, none⟩ = some (.int .i64 (spanI (a, (q : Int))).1) := hb6.cell 0
     have q3 : w5.cell? ⟨w4.heap.size, 1, none⟩ = some (.int .i64 (spanI (a, (q : Int))).2) := hb6.cell 1
     have qlt := hb5.lt
     have qlt2 := hb6.lt
     have hxm : Mod (· = wr.heap.size) wr ((w5.setCell ⟨wr.heap.size, 0, none⟩ (.int .i64 ((U : Nat) : Int))).setCell ⟨wr.heap.size, 1, none⟩ (.int .i64 ((U : Nat) : Int))) := ((hm5.any (S := (· = wr.heap.size))).setCell (p := ⟨wr.heap.size, 0, none⟩) (fun _ => rfl) _).setCell (p := ⟨wr.heap.size, 1, none⟩) (fun _ => rfl) _
     have hxf : Ext w3 ((w5.setCell ⟨wr.heap.size, 0, none⟩ (.int .i64 ((U : Nat) : Int))).setCell ⟨wr.heap.size, 1, none⟩ (.int .i64 ((U : Nat) : Int))) := hx5.trans (((Mod.refl (· = wr.heap.size) w5).setCell (p := ⟨wr.heap.size, 0, none⟩) (fun _ => rfl) _).setCell (p := ⟨wr.heap.size, 1, none⟩) (fun _ => rfl) _) (fun i hi e => by have := hxr.size; omega)
     have Hom := Lib.hid (ownsRow_mod HO.out hxm (fun i hi e => absurd (HO.out.lt i hi).2 (by omega)))
     clear hb5 hb6 hx5 hm5 hxm
     go_wp2_with (at_builtin; refine wpList_append_reads rfl _ _ 32 rfl w3.heap.size 47 _ 2 16 Tryz.info47 Tryz.underlying32 rfl (by decide) _ k _ rfl (Hom.out.alloc _) _ 1 1 [.int .i64 ((U : Nat) : Int), .int .i64 ((U : Nat) : Int)] rfl ?_ (two_cells ((U : Nat) : Int) ((U : Nat) : Int)) (by unfold maxLen; omega) (by omega) ?_ ?_)
     ·have := Reads.new ((w5.setCell ⟨wr.heap.size, 0, none⟩ (.int .i64 ((U : Nat) : Int))).setCell ⟨wr.heap.size, 1, none⟩ (.int .i64 ((U : Nat) : Int))) 47 #[.int .i64 ((U : Nat) : Int), .int .i64 ((U : Nat) : Int)] 2 1 rfl
      simpa using this
     ·have := hxf.size; simp at this ⊢; omega
     ·intro v' w7 hown hm7 hbk
      have hx7 := (hxf.alloc _).over hm7 (fun i hi => (Hom.out.lt i hi).1)
      have Hown := Lib.hid hown
      clear hm7 hbk hown hxf
      go_wp2_with fail
      go_roundw
      case rel => exact ⟨k + 1, by omega, by go_num, Lib.hid (by rw [Hts.out, List.map_append, prCells_append, List.map_cons, List.map_nil, HF.out, List.map_take]; exact Hown.out), hx7⟩
      case measure => simp [intOf]; omega
    ·have b1 : decide ((spanI (a, (q : Int))).1 < (spanI (a, (q : Int))).2) = true := decide_eq_true (by simp only [spanI]; omega)
     have HT := Lib.hid (show toN s.data.toList 1 false (a, (q : Int)) = (spanI (a, (q : Int))).1 by unfold toN; rw [if_neg (by simp; exact hab)]; rfl)
     generalize stepN s.data.toList q 1 = U at *
     clear hab
     have HF := Lib.hid (show turned s.data.toList 1 false (a, (q : Int)) = ((spanI (a, (q : Int))).1, (spanI (a, (q : Int))).1) by unfold turned; rw [HT.out]; rfl)
     go_wp2_with fail
     refine (refSpan_any (a, (q : Int)) _).mono ?_
     rintro e w4 ⟨rfl, y4⟩
     have hxa := (hxr.alloc (.cells #[.int .i64 a, .int .i64 (q : Nat)] 47)).ext_trans y4
     have hbx := (Blk.new wr 47 #[.int .i64 a, .int .i64 (q : Nat)]).mod y4 (fun f => f)
     have hmx := (((Mod.refl (fun _ => False) wr).alloc (.cells #[.int .i64 a, .int .i64 (q : Nat)] 47)).ext_trans y4).alloc (.cells #[.int .i64 (spanI (a, (q : Int))).1, .int .i64 (spanI (a, (q : Int))).2] 49)
     have q0 : w4.cell? ⟨wr.heap.size, 0, none⟩ = some (.int .i64 a) := hbx.cell 0
     have q1 : w4.cell? ⟨wr.heap.size, 1, none⟩ = some (.int .i64 (q : Nat)) := hbx.cell 1
     have qlt := hbx.lt
     clear c0 c1 hgl y4
     go_wp2_with fail
     refine (Hst.out _).mono ?_
     rintro e w5 ⟨rfl, y5⟩
     have hb5 := (hbx.alloc (.cells #[.int .i64 (spanI (a, (q : Int))).1, .int .i64 (spanI (a, (q : Int))).2] 49)).mod y5 (fun f => f)
     have hb6 := (Blk.new w4 49 #[.int .i64 (spanI (a, (q : Int))).1, .int .i64 (spanI (a, (q : Int))).2]).mod y5 (fun f => f)
     have hm5 := hmx.ext_trans y5
     have hx5 := (hxa.alloc (.cells #[.int .i64 (spanI (a, (q : Int))).1, .int .i64 (spanI (a, (q : Int))).2] 49)).ext_trans y5
     clear q0 q1 qlt hbx y5 hmx hxa
     have q0 : w5.cell? ⟨wr.heap.size, 0, none⟩ = some (.int .i64 a) := hb5.cell 0
     have q1 : w5.cell? ⟨wr.heap.size, 1, none⟩ = some (.int .i64 (q : Nat)) := hb5.cell 1
     have f0 := hb5.free 0
     have f1 := hb5.free 1
     have q2 : w5.cell? ⟨w4.heap.size, 0, none⟩ = some (.int .i64 (spanI (a, (q : Int))).1) := hb6.cell 0
     have q3 : w5.cell? ⟨w4.heap.size, 1, none⟩ = some (.int .i64 (spanI (a, (q : Int))).2) := hb6.cell 1
     have qlt := hb5.lt
     have qlt2 := hb6.lt
     have hxm : Mod (· = wr.heap.size) wr ((w5.setCell ⟨wr.heap.size, 0, none⟩ (.int .i64 (spanI (a, (q : Int))).1)).setCell ⟨wr.heap.size, 1, none⟩ (.int .i64 (spanI (a, (q : Int))).1)) := ((hm5.any (S := (· = wr.heap.size))).setCell (p := ⟨wr.heap.size, 0, none⟩) (fun _ => rfl) _).setCell (p := ⟨wr.heap.size, 1, none⟩) (fun _ => rfl) _
     have hxf : Ext w3 ((w5.setCell ⟨wr.heap.size, 0, none⟩ (.int .i64 (spanI (a, (q : Int))).1)).setCell ⟨wr.heap.size, 1, none⟩ (.int .i64 (spanI (a, (q : Int))).1)) := hx5.trans (((Mod.refl (· = wr.heap.size) w5).setCell (p := ⟨wr.heap.size, 0, none⟩) (fun _ => rfl) _).setCell (p := ⟨wr.heap.size, 1, none⟩) (fun _ => rfl) _) (fun i hi e => by have := hxr.size; omega)
     have Hom := Lib.hid (ownsRow_mod HO.out hxm (fun i hi e => absurd (HO.out.lt i hi).2 (by omega)))
     clear hb5 hb6 hx5 hm5 hxm
     go_wp2_with (at_builtin; refine wpList_append_reads rfl _ _ 32 rfl w3.heap.size 47 _ 2 16 Tryz.info47 Tryz.underlying32 rfl (by decide) _ k _ rfl (Hom.out.alloc _) _ 1 1 [.int .i64 (spanI (a, (q : Int))).1, .int .i64 (spanI (a, (q : Int))).1] rfl ?_ (two_cells (spanI (a, (q : Int))).1 (spanI (a, (q : Int))).1) (by unfold maxLen; omega) (by omega) ?_ ?_)
     ·have := Reads.new ((w5.setCell ⟨wr.heap.size, 0, none⟩ (.int .i64 (spanI (a, (q : Int))).1)).setCell ⟨wr.heap.size, 1, none⟩ (.int .i64 (spanI (a, (q : Int))).1)) 47 #[.int .i64 (spanI (a, (q : Int))).1, .int .i64 (spanI (a, (q : Int))).1] 2 1 rfl
      simpa using this
     ·have := hxf.size; simp at this ⊢; omega
     ·intro v' w7 hown hm7 hbk
      have hx7 := (hxf.alloc _).over hm7 (fun i hi => (Hom.out.lt i hi).1)
      have Hown := Lib.hid hown
      clear hm7 hbk hown hxf
      go_wp2_with fail
      go_roundw
      case rel => exact ⟨k + 1, by omega, by go_num, Lib.hid (by rw [Hts.out, List.map_append, prCells_append, List.map_cons, List.map_nil, HF.out, List.map_take]; exact Hown.out), hx7⟩
      case measure => simp [intOf]; omega
   ·have hlt' : ¬ (k : Int) < (M : Int) := by omega
    obtain rfl : k = M := by omega
    have HO2 := HO.out
    rw [HM.out, List.take_of_length_le (Nat.le_refl _)] at HO2
    obtain ⟨ao2, c2, rfl, hr2⟩ := owns_reads HO2
    have hn2 := refNorm_any s.size ao2 c2 (L.map (turned s.data.toList 1 false)) _ (by rw [List.length_map]; exact hr2) (by rw [List.length_map, ← HM.out]; exact hM)
    rw [List.length_map, ← HM.out] at hn2
    rw [← HM.out]
    have HN2 := Lib.hid hn2
    clear hn2 hr2 HO2
    go_wp2_with fail
    refine HN2.out.mono ?_
    rintro e w9 ⟨v9, rfl, hown9, y9⟩
    rw [Hag.out]
    obtain ⟨ao9, c9, rfl, _⟩ := owns_reads hown9
    have HR9 := Lib.hid (ownsRow_base hown9 (y3.ext_trans hxr).size)
    clear hown9
    go_wp2_with fail
    go_ret2
    exact ⟨ao9, c9, by rw [Hgl.out, HE.out, HE0.out]; rfl, by rw [Hgl.out]; exact HR9.out, y3.ext_trans (hxr.ext_trans y9)⟩
 ·have e1 : (normE s.size l == 0) = false := by simpa using hE
  have e2 : (normE s.size l != 0) = true := by simpa using hE
  have Hgl := Lib.hid (show goL s.data.toList 1 false l = [] by unfold goL; rw [Hsz.out, HE.out, if_neg hE])
  obtain ⟨ao3, cp3, rfl, _⟩ := owns_reads hown
  generalize normE s.size l = E at *
  clear hown
  go_wp2_with fail
  go_ret2
  exact ⟨none, 0, by rw [Hgl.out, HE.out]; rfl, by rw [Hgl.out]; exact World.ownsRow_nil _ _ _ _, y3⟩
theorem refGo_right (s : ByteArray) (ao : Option Addr) (cap : Nat) (l : List (Int × Int)) (w : World) (hs : s.size ≤ 65536) (hr : Reads w 2 ao l.length (prCells l)) (hn : l.length ≤ 64) :
  Calls Tryz.prog 65 #[.string s, .int .i64 2, .bool false, .slice ao l.length cap] w (GoPost 47 (goL s.data.toList 2 false l) (goE s.size 2 l) w) := by
 have h3 : (1 : Int) ≤ 2 := by omega
 have h4 : (2 : Int) ≤ 10 := by omega
 have hsz : s.data.toList.length = s.size := toList_length s
 have hn1 := Lib.hid (fun v hv => refNorm_any s.size ao cap l v hv hn)
 have hst := Lib.hid (fun (q : Nat) (hq : q ≤ s.size) v => refStep_yes s q 2 v hs hq h3 h4)
 have HE := Lib.hid (show goE s.size 2 l = normE s.size l by unfold goE; rw [if_pos ⟨h3, h4⟩])
 have Hr := Lib.hid hr
 have j1 : decide (2 < 1) = false := decide_eq_false (by omega)
 have j2 : ¬ 10 < 2 := by omega
 have j3 : decide (10 < 2) = false := decide_eq_false (by omega)
 have Hsz := Lib.hid hsz
 clear hr hsz
 go_enter Tryz.func65, Tryz.ntmps65
 go_wp2_with fail
 refine (hn1.out _ Hr.out).mono ?_
 rintro e w3 ⟨v, rfl, hown, y3⟩
 by_cases hE : normE s.size l = 0
 ·have Hgl := Lib.hid (show goL s.data.toList 2 false l = normL s.size ((normL s.size l).map (turned s.data.toList 2 false)) by
   unfold goL; rw [Hsz.out, HE.out, if_pos hE])
  have Hag := Lib.hid (show normE s.size ((normL s.size l).map (turned s.data.toList 2 false)) = 0 by
   have := go_again (t := s.data.toList) (way := 2) (ext := false) (l := l) (by rw [Hsz.out]; exact hE)
   rwa [Hsz.out] at this)
  have Hin := Lib.hid (normL_in (n := s.size) (l := l))
  have hpos : 0 < (normL s.size l).length := by rw [normL_ok hE]; exact orderN_pos (normE_ok hE).1
  have hM : (normL s.size l).length ≤ 64 := Nat.le_trans (normL_len _ _) hn
  have HE0 := Lib.hid hE
  rw [hE]
  clear hE
  generalize normL s.size l = L at *
  obtain ⟨M, hMM⟩ : ∃ M, M = L.length := ⟨_, rfl⟩
  rw [← hMM] at hown hpos hM
  have HM := Lib.hid hMM
  obtain ⟨g, cp, rfl⟩ := owns_some hown hpos
  have Ho3 := Lib.hid hown
  clear hown hMM
  go_wp2_with fail
  go_loopw [12, 13] (fun v i wr => ∃ k : Nat, k ≤ M ∧ i = .int .i64 k ∧ Hid (wr.ownsRow w3.heap.size 47 2 v k (prCells ((L.take k).map (turned s.data.toList 2 false)))) ∧ Ext w3 wr) (fun _ i _ => M - (intOf i).toNat)
  case atStart => exact ⟨0, by omega, rfl, Lib.hid (World.ownsRow_nil _ _ _ _), Mod.refl _ _⟩
  case round =>
   obtain ⟨k, hk, rfl, HO, hxr⟩ := hrel
   by_cases hlt : k < M
   ·have hlt' : (k : Int) < (M : Int) := by omega
    have hk0 : (0 : Int) ≤ (k : Int) := by omega
    have hk1 : (k : Int) ≤ 64 := by omega
    have hLk : L[k]? = some (L[k]'(by rw [← HM.out]; exact hlt)) := List.getElem?_eq_getElem _
    have hmem := Hin.out _ (List.getElem_mem (l := L) (by rw [← HM.out]; exact hlt))
    have hts := List.take_succ_eq_append_getElem (l := L) (i := k) (by rw [← HM.out]; exact hlt)
    generalize L[k]'(by rw [← HM.out]; exact hlt) = x at *
    rw [mayB_span] at hmem
    obtain ⟨a, b⟩ := x
    simp only at hmem
    obtain ⟨m1, m2, m3, m4⟩ := hmem
    obtain ⟨q, rfl⟩ := Int.eq_ofNat_of_zero_le m2
    have hq : q ≤ s.size := by omega
    obtain ⟨c0, c1⟩ := owns_cell (ownsRow_mod Ho3.out hxr (fun _ _ f => f)) hLk
    have hgl := (owns_block (ownsRow_mod Ho3.out hxr (fun _ _ f => f))).2
    have Hts := Lib.hid hts
    have Hst := Lib.hid (fun v => hst.out q hq v)
    clear hLk hts
    by_cases hab : a = (q : Int)
    ·have b1 : decide ((spanI (a, (q : Int))).1 < (spanI (a, (q : Int))).2) = false := by rw [hab]; simp [spanI]
     have HT := Lib.hid (show toN s.data.toList 2 false (a, (q : Int)) = (stepN s.data.toList q 2 : Nat) by unfold toN; rw [if_pos (Or.inr (Or.inl hab))]; rfl)
     generalize stepN s.data.toList q 2 = U at *
     clear hab
     have HF := Lib.hid (show turned s.data.toList 2 false (a, (q : Int)) = (((U : Nat) : Int), ((U : Nat) : Int)) by unfold turned; rw [HT.out]; rfl)
     go_wp2_with fail
     refine (refSpan_any (a, (q : Int)) _).mono ?_
     rintro e w4 ⟨rfl, y4⟩
     have hxa := (hxr.alloc (.cells #[.int .i64 a, .int .i64 (q : Nat)] 47)).ext_trans y4
     have hbx := (Blk.new wr 47 #[.int .i64 a, .int .i64 (q : Nat)]).mod y4 (fun f => f)
     have hmx := (((Mod.refl (fun _ => False) wr).alloc (.cells #[.int .i64 a, .int .i64 (q : Nat)] 47)).ext_trans y4).alloc (.cells #[.int .i64 (spanI (a, (q : Int))).1, .int .i64 (spanI (a, (q : Int))).2] 49)
     have q0 : w4.cell? ⟨wr.heap.size, 0, none⟩ = some (.int .i64 a) := hbx.cell 0
     have q1 : w4.cell? ⟨wr.heap.size, 1, none⟩ = some (.int .i64 (q : Nat)) := hbx.cell 1
     have qlt := hbx.lt
     clear c0 c1 hgl y4
     go_wp2_with fail
     refine (Hst.out _).mono ?_
     rintro e w5 ⟨rfl, y5⟩
     have hb5 := (hbx.alloc (.cells #[.int .i64 (spanI (a, (q : Int))).1, .int .i64 (spanI (a, (q : Int))).2] 49)).mod y5 (fun f => f)
     have hb6 := (Blk.new w4 49 #[.int .i64 (spanI (a, (q : Int))).1, .int .i64 (spanI (a, (q : Int))).2]).mod y5 (fun f => f)
     have hm5 := hmx.ext_trans y5
     have hx5 := (hxa.alloc (.cells #[.int .i64 (spanI (a, (q : Int))).1, .int .i64 (spanI (a, (q : Int))).2] 49)).ext_trans y5
     clear q0 q1 qlt hbx y5 hmx hxa
     have q0 : w5.cell? ⟨wr.heap.size, 0, none⟩ = some (.int .i64 a) := hb5.cell 0
     have q1 : w5.cell? ⟨wr.heap.size, 1, none⟩ = some (.int .i64 (q : Nat)) := hb5.cell 1
     have f0 := hb5.free 0
     have f1 := hb5.free 1
     have q2 : w5.cell? ⟨w4.heap.size, 0, none⟩ = some (.int .i64 (spanI (a, (q : Int))).1) := hb6.cell 0
     have q3 : w5.cell? ⟨w4.heap.size, 1, none⟩ = some (.int .i64 (spanI (a, (q : Int))).2) := hb6.cell 1
     have qlt := hb5.lt
     have qlt2 := hb6.lt
     have hxm : Mod (· = wr.heap.size) wr ((w5.setCell ⟨wr.heap.size, 0, none⟩ (.int .i64 ((U : Nat) : Int))).setCell ⟨wr.heap.size, 1, none⟩ (.int .i64 ((U : Nat) : Int))) := ((hm5.any (S := (· = wr.heap.size))).setCell (p := ⟨wr.heap.size, 0, none⟩) (fun _ => rfl) _).setCell (p := ⟨wr.heap.size, 1, none⟩) (fun _ => rfl) _
     have hxf : Ext w3 ((w5.setCell ⟨wr.heap.size, 0, none⟩ (.int .i64 ((U : Nat) : Int))).setCell ⟨wr.heap.size, 1, none⟩ (.int .i64 ((U : Nat) : Int))) := hx5.trans (((Mod.refl (· = wr.heap.size) w5).setCell (p := ⟨wr.heap.size, 0, none⟩) (fun _ => rfl) _).setCell (p := ⟨wr.heap.size, 1, none⟩) (fun _ => rfl) _) (fun i hi e => by have := hxr.size; omega)
     have Hom := Lib.hid (ownsRow_mod HO.out hxm (fun i hi e => absurd (HO.out.lt i hi).2 (by omega)))
     clear hb5 hb6 hx5 hm5 hxm
     go_wp2_with (at_builtin; refine wpList_append_reads rfl _ _ 32 rfl w3.heap.size 47 _ 2 16 Tryz.info47 Tryz.underlying32 rfl (by decide) _ k _ rfl (Hom.out.alloc _) _ 1 1 [.int .i64 ((U : Nat) : Int), .int .i64 ((U : Nat) : Int)] rfl ?_ (two_cells ((U : Nat) : Int) ((U : Nat) : Int)) (by unfold maxLen; omega) (by omega) ?_ ?_)
     ·have := Reads.new ((w5.setCell ⟨wr.heap.size, 0, none⟩ (.int .i64 ((U : Nat) : Int))).setCell ⟨wr.heap.size, 1, none⟩ (.int .i64 ((U : Nat) : Int))) 47 #[.int .i64 ((U : Nat) : Int), .int .i64 ((U : Nat) : Int)] 2 1 rfl
      simpa using this
     ·have := hxf.size; simp at this ⊢; omega
     ·intro v' w7 hown hm7 hbk
      have hx7 := (hxf.alloc _).over hm7 (fun i hi => (Hom.out.lt i hi).1)
      have Hown := Lib.hid hown
      clear hm7 hbk hown hxf
      go_wp2_with fail
      go_roundw
      case rel => exact ⟨k + 1, by omega, by go_num, Lib.hid (by rw [Hts.out, List.map_append, prCells_append, List.map_cons, List.map_nil, HF.out, List.map_take]; exact Hown.out), hx7⟩
      case measure => simp [intOf]; omega
    ·have b1 : decide ((spanI (a, (q : Int))).1 < (spanI (a, (q : Int))).2) = true := decide_eq_true (by simp only [spanI]; omega)
     have HT := Lib.hid (show toN s.data.toList 2 false (a, (q : Int)) = (spanI (a, (q : Int))).2 by unfold toN; rw [if_neg (by simp; exact hab)]; rfl)
     generalize stepN s.data.toList q 2 = U at *
     clear hab
     have HF := Lib.hid (show turned s.data.toList 2 false (a, (q : Int)) = ((spanI (a, (q : Int))).2, (spanI (a, (q : Int))).2) by unfold turned; rw [HT.out]; rfl)
     go_wp2_with fail
     refine (refSpan_any (a, (q : Int)) _).mono ?_
     rintro e w4 ⟨rfl, y4⟩
     have hxa := (hxr.alloc (.cells #[.int .i64 a, .int .i64 (q : Nat)] 47)).ext_trans y4
     have hbx := (Blk.new wr 47 #[.int .i64 a, .int .i64 (q : Nat)]).mod y4 (fun f => f)
     have hmx := (((Mod.refl (fun _ => False) wr).alloc (.cells #[.int .i64 a, .int .i64 (q : Nat)] 47)).ext_trans y4).alloc (.cells #[.int .i64 (spanI (a, (q : Int))).1, .int .i64 (spanI (a, (q : Int))).2] 49)
     have q0 : w4.cell? ⟨wr.heap.size, 0, none⟩ = some (.int .i64 a) := hbx.cell 0
     have q1 : w4.cell? ⟨wr.heap.size, 1, none⟩ = some (.int .i64 (q : Nat)) := hbx.cell 1
     have qlt := hbx.lt
     clear c0 c1 hgl y4
     go_wp2_with fail
     refine (Hst.out _).mono ?_
     rintro e w5 ⟨rfl, y5⟩
     have hb5 := (hbx.alloc (.cells #[.int .i64 (spanI (a, (q : Int))).1, .int .i64 (spanI (a, (q : Int))).2] 49)).mod y5 (fun f => f)
     have hb6 := (Blk.new w4 49 #[.int .i64 (spanI (a, (q : Int))).1, .int .i64 (spanI (a, (q : Int))).2]).mod y5 (fun f => f)
     have hm5 := hmx.ext_trans y5
     have hx5 := (hxa.alloc (.cells #[.int .i64 (spanI (a, (q : Int))).1, .int .i64 (spanI (a, (q : Int))).2] 49)).ext_trans y5
     clear q0 q1 qlt hbx y5 hmx hxa
     have q0 : w5.cell? ⟨wr.heap.size, 0, none⟩ = some (.int .i64 a) := hb5.cell 0
     have q1 : w5.cell? ⟨wr.heap.size, 1, none⟩ = some (.int .i64 (q : Nat)) := hb5.cell 1
     have f0 := hb5.free 0
     have f1 := hb5.free 1
     have q2 : w5.cell? ⟨w4.heap.size, 0, none⟩ = some (.int .i64 (spanI (a, (q : Int))).1) := hb6.cell 0
     have q3 : w5.cell? ⟨w4.heap.size, 1, none⟩ = some (.int .i64 (spanI (a, (q : Int))).2) := hb6.cell 1
     have qlt := hb5.lt
     have qlt2 := hb6.lt
     have hxm : Mod (· = wr.heap.size) wr ((w5.setCell ⟨wr.heap.size, 0, none⟩ (.int .i64 (spanI (a, (q : Int))).2)).setCell ⟨wr.heap.size, 1, none⟩ (.int .i64 (spanI (a, (q : Int))).2)) := ((hm5.any (S := (· = wr.heap.size))).setCell (p := ⟨wr.heap.size, 0, none⟩) (fun _ => rfl) _).setCell (p := ⟨wr.heap.size, 1, none⟩) (fun _ => rfl) _
     have hxf : Ext w3 ((w5.setCell ⟨wr.heap.size, 0, none⟩ (.int .i64 (spanI (a, (q : Int))).2)).setCell ⟨wr.heap.size, 1, none⟩ (.int .i64 (spanI (a, (q : Int))).2)) := hx5.trans (((Mod.refl (· = wr.heap.size) w5).setCell (p := ⟨wr.heap.size, 0, none⟩) (fun _ => rfl) _).setCell (p := ⟨wr.heap.size, 1, none⟩) (fun _ => rfl) _) (fun i hi e => by have := hxr.size; omega)
     have Hom := Lib.hid (ownsRow_mod HO.out hxm (fun i hi e => absurd (HO.out.lt i hi).2 (by omega)))
     clear hb5 hb6 hx5 hm5 hxm
     go_wp2_with (at_builtin; refine wpList_append_reads rfl _ _ 32 rfl w3.heap.size 47 _ 2 16 Tryz.info47 Tryz.underlying32 rfl (by decide) _ k _ rfl (Hom.out.alloc _) _ 1 1 [.int .i64 (spanI (a, (q : Int))).2, .int .i64 (spanI (a, (q : Int))).2] rfl ?_ (two_cells (spanI (a, (q : Int))).2 (spanI (a, (q : Int))).2) (by unfold maxLen; omega) (by omega) ?_ ?_)
     ·have := Reads.new ((w5.setCell ⟨wr.heap.size, 0, none⟩ (.int .i64 (spanI (a, (q : Int))).2)).setCell ⟨wr.heap.size, 1, none⟩ (.int .i64 (spanI (a, (q : Int))).2)) 47 #[.int .i64 (spanI (a, (q : Int))).2, .int .i64 (spanI (a, (q : Int))).2] 2 1 rfl
      simpa using this
     ·have := hxf.size; simp at this ⊢; omega
     ·intro v' w7 hown hm7 hbk
      have hx7 := (hxf.alloc _).over hm7 (fun i hi => (Hom.out.lt i hi).1)
      have Hown := Lib.hid hown
      clear hm7 hbk hown hxf
      go_wp2_with fail
      go_roundw
      case rel => exact ⟨k + 1, by omega, by go_num, Lib.hid (by rw [Hts.out, List.map_append, prCells_append, List.map_cons, List.map_nil, HF.out, List.map_take]; exact Hown.out), hx7⟩
      case measure => simp [intOf]; omega
   ·have hlt' : ¬ (k : Int) < (M : Int) := by omega
    obtain rfl : k = M := by omega
    have HO2 := HO.out
    rw [HM.out, List.take_of_length_le (Nat.le_refl _)] at HO2
    obtain ⟨ao2, c2, rfl, hr2⟩ := owns_reads HO2
    have hn2 := refNorm_any s.size ao2 c2 (L.map (turned s.data.toList 2 false)) _ (by rw [List.length_map]; exact hr2) (by rw [List.length_map, ← HM.out]; exact hM)
    rw [List.length_map, ← HM.out] at hn2
    rw [← HM.out]
    have HN2 := Lib.hid hn2
    clear hn2 hr2 HO2
    go_wp2_with fail
    refine HN2.out.mono ?_
    rintro e w9 ⟨v9, rfl, hown9, y9⟩
    rw [Hag.out]
    obtain ⟨ao9, c9, rfl, _⟩ := owns_reads hown9
    have HR9 := Lib.hid (ownsRow_base hown9 (y3.ext_trans hxr).size)
    clear hown9
    go_wp2_with fail
    go_ret2
    exact ⟨ao9, c9, by rw [Hgl.out, HE.out, HE0.out]; rfl, by rw [Hgl.out]; exact HR9.out, y3.ext_trans (hxr.ext_trans y9)⟩
 ·have e1 : (normE s.size l == 0) = false := by simpa using hE
  have e2 : (normE s.size l != 0) = true := by simpa using hE
  have Hgl := Lib.hid (show goL s.data.toList 2 false l = [] by unfold goL; rw [Hsz.out, HE.out, if_neg hE])
  obtain ⟨ao3, cp3, rfl, _⟩ := owns_reads hown
  generalize normE s.size l = E at *
  clear hown
  go_wp2_with fail
  go_ret2
  exact ⟨none, 0, by rw [Hgl.out, HE.out]; rfl, by rw [Hgl.out]; exact World.ownsRow_nil _ _ _ _, y3⟩
theorem refGo_any (s : ByteArray) (ao : Option Addr) (cap : Nat) (l : List (Int × Int)) (way : Int) (ext : Bool) (w : World) (hs : s.size ≤ 65536) (hr : Reads w 2 ao l.length (prCells l)) (hn : l.length ≤ 64) :
  Calls Tryz.prog 65 #[.string s, .int .i64 way, .bool ext, .slice ao l.length cap] w (GoPost 47 (goL s.data.toList way ext l) (goE s.size way l) w) := by
 by_cases hw : 1 ≤ way ∧ way ≤ 10
 ·cases ext with
  | true => exact refGo_ext s ao cap l way w hs hr hn hw.1 hw.2
  | false =>
   by_cases h2 : 2 < way
   ·exact refGo_far s ao cap l way w hs hr hn hw.1 hw.2 h2
   ·by_cases h1 : way = 1
    ·subst h1; exact refGo_left s ao cap l w hs hr hn
    ·obtain rfl : way = 2 := by omega
     exact refGo_right s ao cap l w hs hr hn
 ·have e1 : goE s.size way l = 2 := by unfold goE; rw [if_neg hw]
  have e2 : goL s.data.toList way ext l = [] := by unfold goL goE; rw [if_neg hw]; rfl
  rw [e1, e2]
  exact refGo_way s way ext ao l.length cap w hw
end Go.Proofs.YthlmgoagnfkhdaaGreat

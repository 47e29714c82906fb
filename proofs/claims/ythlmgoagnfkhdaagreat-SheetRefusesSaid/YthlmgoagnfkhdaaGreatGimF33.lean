/- motion.Go of any selections. Conditions: a rope of at most 65536 bytes, less than 20 selections. -/
import Derived.Test.YthlmgoagnfkhdaaGreatGimF32
import Derived.Test.YthlmgoagnfkhdaaGreatGimF25
set_option maxHeartbeats 6400000
set_option maxRecDepth 1000000
set_option linter.unusedVariables false
set_option linter.unusedSimpArgs false
namespace Go.Proofs.YthlmgoagnfkhdaaGreat
open Go.RowKit Go.Gim
def GoPost (T : TypeId) (res : List (Int × Int)) (err : Int) (w : World) (e : Ending) (w' : World) : Prop :=
 ∃ ao cap, e = .returned (.tuple #[.slice ao res.length cap, .int .i64 err]) ∧ w'.ownsRow w.heap.size T 2 (.slice ao res.length cap) res.length (prCells res) ∧ Ext w w'
theorem go_way (r : Addr) (way : Int) (x : Bool) (ao : Option Addr) (n cap : Nat) (w : World) (h : ¬ (1 ≤ way ∧ way ≤ 10)) :
  Calls Tryz.prog 60 #[.agg #[.pointer (some r)], .int .i64 way, .bool x, .slice ao n cap] w (GoPost 47 [] 2 w) := by
 have hx0 : Ext w (w.alloc (.cells #[.pointer (some r)] 42)) := (Mod.refl _ w).alloc _
 have hm := may_no (some r) way (w.alloc (.cells #[.pointer (some r)] 42)) h
 clear h
 go_enter Tryz.func60, Tryz.ntmps60
 go_wp2_with fail
 refine hm.mono ?_
 rintro e w1 ⟨rfl, y1⟩
 go_wp2_with fail
 go_ret2
 exact ⟨none, 0, rfl, World.ownsRow_nil _ _ _ _, hx0.ext_trans y1⟩
theorem owns_reads {w : World} {B n : Nat} {T : TypeId} {v : Value} {l : List (Int × Int)} (h : w.ownsRow B T 2 v n (prCells l)) : ∃ ao c, v = .slice ao n c ∧ Reads w 2 ao n (prCells l) := by
 obtain ⟨ao, c, rfl, _, _⟩ := ownsRow_shape h
 exact ⟨ao, c, rfl, Reads.own h⟩
theorem go_ext (R : Rp) (s : ByteArray) (ao : Option Addr) (cap : Nat) (l : List (Int × Int)) (way : Int) (w : World) (hR : RopeAt w R) (ht : R.text = s.data.toList) (hr : Reads w 2 ao l.length (prCells l)) (hn : l.length ≤ 19) (h3 : 1 ≤ way) (h4 : way ≤ 10) :
  Calls Tryz.prog 60 #[.agg #[.pointer (some ⟨R.rb, 0, none⟩)], .int .i64 way, .bool true, .slice ao l.length cap] w (GoPost 47 (goL s.data.toList way true l) (goE s.size way l) w) := by
 have hx0 : Ext w (w.alloc (.cells #[.pointer (some ⟨R.rb, 0, none⟩)] 42)) := (Mod.refl _ w).alloc _
 have h0 := hR.ext hx0
 have hz := size_text ht
 have hsz := hR.size
 have hss : s.size ≤ 65536 := by omega
 have hm := may_yes ⟨R.rb, 0, none⟩ way (w.alloc (.cells #[.pointer (some ⟨R.rb, 0, none⟩)] 42)) h3 h4
 have hln := fun v (hv : RopeAt v R) => len_any R v hv
 rw [hz] at hln
 have htx := fun v (hv : RopeAt v R) => text_rope R v hv
 rw [bs_eq ht] at htx
 have hst := fun (q : Nat) (hq : q ≤ s.size) v (hv : RopeAt v R) => stepIn_any R s q way v hv ht hq h3 h4
 have Hl := Lib.hid hln
 have Ht := Lib.hid htx
 have Hs := Lib.hid hst
 have HE := Lib.hid (show goE s.size way l = normE s.size l by unfold goE; rw [if_pos ⟨h3, h4⟩])
 have Hn := Lib.hid (fun v hv => norm_any s.size ao cap l v hv hn)
 have Hr := Lib.hid hr
 clear hln htx hst ht hr hR hz hsz
 go_enter Tryz.func60, Tryz.ntmps60
 go_wp2_with fail
 refine hm.mono ?_
 rintro e w1 ⟨rfl, y1⟩
 have c := box_cell y1
 go_wp2_with fail
 refine (Hl.out _ (h0.ext y1)).mono ?_
 rintro e w2 ⟨rfl, rfl⟩
 go_wp2_with fail
 refine (Hn.out _ ((Hr.out.mod hx0 (fun _ _ f => f)).mod y1 (fun _ _ f => f))).mono ?_
 rintro e w3 ⟨v, rfl, hown, y3⟩
 have hx3 := y1.ext_trans y3
 have c3 := box_cell hx3
 clear c
 by_cases hE : normE s.size l = 0
 ·have Hgl := Lib.hid (show goL s.data.toList way true l = normL s.size ((normL s.size l).map (turned s.data.toList way true)) by
   unfold goL; rw [toList_length, HE.out, if_pos hE])
  have Hag := Lib.hid (show normE s.size ((normL s.size l).map (turned s.data.toList way true)) = 0 by
   have := go_again (t := s.data.toList) (way := way) (ext := true) (l := l) (by rw [toList_length]; exact hE)
   rwa [toList_length] at this)
  have Hin := Lib.hid (normL_in (n := s.size) (l := l))
  have hpos : 0 < (normL s.size l).length := by rw [normL_ok hE]; exact orderN_pos (normE_ok hE).1
  have hM : (normL s.size l).length ≤ 19 := Nat.le_trans (normL_len _ _) hn
  have HE0 := Lib.hid hE
  rw [hE]
  clear hE
  generalize normL s.size l = L at *
  obtain ⟨M, hMM⟩ : ∃ M, M = L.length := ⟨_, rfl⟩
  rw [← hMM] at hown hpos hM
  have HM := Lib.hid hMM
  obtain ⟨g, cp, rfl⟩ := owns_some hown hpos
  have hgB : w.heap.size + 1 ≤ g := by have h1 := (owns_block hown).1; have h2 := y1.size; simp at h2; omega
  have Ho3 := Lib.hid (ownsRow_base hown (b' := 0) (Nat.zero_le _))
  have Hn2 := Lib.hid (fun v hv => norm_any s.size (some ⟨g, 0, none⟩) cp (L.map (turned s.data.toList way true)) v hv (by rw [List.length_map, ← hMM]; exact hM))
  clear hown y3 hMM
  go_wp2_with fail
  refine (Ht.out _ (h0.ext hx3)).mono ?_
  rintro e w4 ⟨rfl, y4⟩
  have hx4 := hx3.ext_trans y4
  have Ho4 := Lib.hid (ownsRow_mod Ho3.out y4 (fun _ _ f => f))
  clear hx3 y4 c3 Ho3 y1
  go_wp2_with fail
  go_loopw [39] (fun i wr => ∃ k : Nat, k ≤ M ∧ i = .int .i64 k ∧ Hid (wr.ownsRow 0 47 2 (.slice (some ⟨g, 0, none⟩) M cp) M (prCells (halfway (turned s.data.toList way true) L k))) ∧ Ext (w.alloc (.cells #[.pointer (some ⟨R.rb, 0, none⟩)] 42)) wr) (fun i _ => M - (intOf i).toNat)
  case atStart => exact ⟨0, by omega, rfl, Ho4, hx4⟩
  case round =>
   obtain ⟨k, hk, rfl, HO, hxr⟩ := hrel
   clear hx4 Ho4
   have cr := box_cell hxr
   have crl := World.block_lt_of_cell? wr _ cr
   by_cases hlt : k < M
   ·have hlt' : (k : Int) < (M : Int) := by omega
    have hk0 : (0 : Int) ≤ (k : Int) := by omega
    have hk1 : (k : Int) ≤ 19 := by omega
    have hLk : L[k]? = some (L[k]'(by rw [← HM.out]; exact hlt)) := List.getElem?_eq_getElem _
    have hmem := Hin.out _ (List.getElem_mem (l := L) (by rw [← HM.out]; exact hlt))
    generalize L[k]'(by rw [← HM.out]; exact hlt) = x at *
    rw [mayB_span] at hmem
    obtain ⟨a, b⟩ := x
    simp only at hmem
    obtain ⟨m1, m2, m3, m4⟩ := hmem
    obtain ⟨q, rfl⟩ := Int.eq_ofNat_of_zero_le m2
    have hq : q ≤ s.size := by omega
    obtain ⟨c0, c1⟩ := owns_cell HO.out (halfway_at _ hLk)
    have hgl := (owns_block HO.out).2
    have HLk := Lib.hid hLk
    have Hst := Lib.hid (fun v hv => Hs.out q hq v hv)
    clear hLk
    have HT := Lib.hid (show toN s.data.toList way true (a, (q : Int)) = (stepN s.data.toList q way : Nat) by unfold toN; rw [if_pos (Or.inl rfl)]; rfl)
    generalize stepN s.data.toList q way = U at *
    go_wp2_with fail
    refine (Hst.out _ (h0.ext (hxr.alloc (.cells #[.int .i64 a, .int .i64 (q : Nat)] 47)))).mono ?_
    rintro e w6 ⟨rfl, y6⟩
    have hx6 := (hxr.alloc (.cells #[.int .i64 a, .int .i64 (q : Nat)] 47)).ext_trans y6
    have HO6 := Lib.hid (ownsRow_mod (ownsRow_mod HO.out (show Ext wr (wr.alloc (.cells #[.int .i64 a, .int .i64 (q : Nat)] 47)) from (Mod.refl _ wr).alloc _) (fun _ _ f => f)) y6 (fun _ _ f => f))
    clear c0 c1 y6 cr crl hgl
    obtain ⟨c0, c1⟩ := owns_cell HO6.out (halfway_at _ HLk.out)
    have g0 := owns_free HO6.out (k * 2)
    have g1 := owns_free HO6.out (k * 2 + 1)
    have hgl := (owns_block HO6.out).2
    go_wp2_with fail
    go_roundw
    case rel =>
     have hs := owns_setB HO6.out (halfway_at (turned s.data.toList way true) HLk.out) (U : Nat)
     rw [show (((a, (q : Int)) : Int × Int).1, ((U : Nat) : Int)) = turned s.data.toList way true (a, (q : Int)) by unfold turned; rw [HT.out]; rfl, halfway_step _ HLk.out] at hs
     exact ⟨k + 1, by omega, by go_num, Lib.hid hs, hx6.setCell (p := ⟨g, k * 2 + 1, none⟩) (fun h => absurd h (by simp; omega)) _⟩
    case measure => simp [intOf]; omega
   ·have hlt' : ¬ (k : Int) < (M : Int) := by omega
    obtain rfl : k = M := by omega
    have HO2 := HO.out
    rw [HM.out, halfway_all, ← HM.out] at HO2
    have hr2 := Reads.own HO2
    have hn2 := Hn2.out _ (by rw [List.length_map, ← HM.out]; exact hr2)
    rw [List.length_map, ← HM.out] at hn2
    have HN2 := Lib.hid hn2
    clear hn2 hr2 HO2
    go_wp2_with fail
    refine (Hl.out _ (h0.ext hxr)).mono ?_
    rintro e w8 ⟨rfl, rfl⟩
    go_wp2_with fail
    refine HN2.out.mono ?_
    rintro e w9 ⟨v9, rfl, hown9, y9⟩
    rw [Hag.out]
    obtain ⟨ao9, c9, rfl, _⟩ := owns_reads hown9
    have HR9 := Lib.hid (ownsRow_base hown9 (hx0.ext_trans hxr).size)
    clear hown9
    go_wp2_with fail
    go_ret2
    exact ⟨ao9, c9, by rw [Hgl.out, HE.out, HE0.out]; rfl, by rw [Hgl.out]; exact HR9.out, hx0.ext_trans (hxr.ext_trans y9)⟩
 ·have e1 : (normE s.size l == 0) = false := by simpa using hE
  have e2 : (normE s.size l != 0) = true := by simpa using hE
  have Hgl := Lib.hid (show goL s.data.toList way true l = [] by unfold goL; rw [toList_length, HE.out, if_neg hE])
  obtain ⟨ao3, cp3, rfl, _⟩ := owns_reads hown
  generalize normE s.size l = E at *
  clear hown
  go_wp2_with fail
  go_ret2
  exact ⟨none, 0, by rw [Hgl.out, HE.out]; rfl, by rw [Hgl.out]; exact World.ownsRow_nil _ _ _ _, hx0.ext_trans hx3⟩
theorem go_far (R : Rp) (s : ByteArray) (ao : Option Addr) (cap : Nat) (l : List (Int × Int)) (way : Int) (w : World) (hR : RopeAt w R) (ht : R.text = s.data.toList) (hr : Reads w 2 ao l.length (prCells l)) (hn : l.length ≤ 19) (h3 : 1 ≤ way) (h4 : way ≤ 10) (hw2 : 2 < way) :
  Calls Tryz.prog 60 #[.agg #[.pointer (some ⟨R.rb, 0, none⟩)], .int .i64 way, .bool false, .slice ao l.length cap] w (GoPost 47 (goL s.data.toList way false l) (goE s.size way l) w) := by
 have hx0 : Ext w (w.alloc (.cells #[.pointer (some ⟨R.rb, 0, none⟩)] 42)) := (Mod.refl _ w).alloc _
 have h0 := hR.ext hx0
 have hz := size_text ht
 have hsz := hR.size
 have hss : s.size ≤ 65536 := by omega
 have hm := may_yes ⟨R.rb, 0, none⟩ way (w.alloc (.cells #[.pointer (some ⟨R.rb, 0, none⟩)] 42)) h3 h4
 have hln := fun v (hv : RopeAt v R) => len_any R v hv
 rw [hz] at hln
 have htx := fun v (hv : RopeAt v R) => text_rope R v hv
 rw [bs_eq ht] at htx
 have hst := fun (q : Nat) (hq : q ≤ s.size) v (hv : RopeAt v R) => stepIn_any R s q way v hv ht hq h3 h4
 have Hl := Lib.hid hln
 have Ht := Lib.hid htx
 have Hs := Lib.hid hst
 have HE := Lib.hid (show goE s.size way l = normE s.size l by unfold goE; rw [if_pos ⟨h3, h4⟩])
 have Hn := Lib.hid (fun v hv => norm_any s.size ao cap l v hv hn)
 have Hr := Lib.hid hr
 clear hln htx hst ht hr hR hz hsz
 go_enter Tryz.func60, Tryz.ntmps60
 go_wp2_with fail
 refine hm.mono ?_
 rintro e w1 ⟨rfl, y1⟩
 have c := box_cell y1
 go_wp2_with fail
 refine (Hl.out _ (h0.ext y1)).mono ?_
 rintro e w2 ⟨rfl, rfl⟩
 go_wp2_with fail
 refine (Hn.out _ ((Hr.out.mod hx0 (fun _ _ f => f)).mod y1 (fun _ _ f => f))).mono ?_
 rintro e w3 ⟨v, rfl, hown, y3⟩
 have hx3 := y1.ext_trans y3
 have c3 := box_cell hx3
 clear c
 by_cases hE : normE s.size l = 0
 ·have Hgl := Lib.hid (show goL s.data.toList way false l = normL s.size ((normL s.size l).map (turned s.data.toList way false)) by
   unfold goL; rw [toList_length, HE.out, if_pos hE])
  have Hag := Lib.hid (show normE s.size ((normL s.size l).map (turned s.data.toList way false)) = 0 by
   have := go_again (t := s.data.toList) (way := way) (ext := false) (l := l) (by rw [toList_length]; exact hE)
   rwa [toList_length] at this)
  have Hin := Lib.hid (normL_in (n := s.size) (l := l))
  have hpos : 0 < (normL s.size l).length := by rw [normL_ok hE]; exact orderN_pos (normE_ok hE).1
  have hM : (normL s.size l).length ≤ 19 := Nat.le_trans (normL_len _ _) hn
  have HE0 := Lib.hid hE
  rw [hE]
  clear hE
  generalize normL s.size l = L at *
  obtain ⟨M, hMM⟩ : ∃ M, M = L.length := ⟨_, rfl⟩
  rw [← hMM] at hown hpos hM
  have HM := Lib.hid hMM
  obtain ⟨g, cp, rfl⟩ := owns_some hown hpos
  have hgB : w.heap.size + 1 ≤ g := by have h1 := (owns_block hown).1; have h2 := y1.size; simp at h2; omega
  have Ho3 := Lib.hid (ownsRow_base hown (b' := 0) (Nat.zero_le _))
  have Hn2 := Lib.hid (fun v hv => norm_any s.size (some ⟨g, 0, none⟩) cp (L.map (turned s.data.toList way false)) v hv (by rw [List.length_map, ← hMM]; exact hM))
  clear hown y3 hMM
  go_wp2_with fail
  refine (Ht.out _ (h0.ext hx3)).mono ?_
  rintro e w4 ⟨rfl, y4⟩
  have hx4 := hx3.ext_trans y4
  have Ho4 := Lib.hid (ownsRow_mod Ho3.out y4 (fun _ _ f => f))
  clear hx3 y4 c3 Ho3 y1
  go_wp2_with fail
  go_loopw [39] (fun i wr => ∃ k : Nat, k ≤ M ∧ i = .int .i64 k ∧ Hid (wr.ownsRow 0 47 2 (.slice (some ⟨g, 0, none⟩) M cp) M (prCells (halfway (turned s.data.toList way false) L k))) ∧ Ext (w.alloc (.cells #[.pointer (some ⟨R.rb, 0, none⟩)] 42)) wr) (fun i _ => M - (intOf i).toNat)
  case atStart => exact ⟨0, by omega, rfl, Ho4, hx4⟩
  case round =>
   obtain ⟨k, hk, rfl, HO, hxr⟩ := hrel
   clear hx4 Ho4
   have cr := box_cell hxr
   have crl := World.block_lt_of_cell? wr _ cr
   by_cases hlt : k < M
   ·have hlt' : (k : Int) < (M : Int) := by omega
    have hk0 : (0 : Int) ≤ (k : Int) := by omega
    have hk1 : (k : Int) ≤ 19 := by omega
    have hLk : L[k]? = some (L[k]'(by rw [← HM.out]; exact hlt)) := List.getElem?_eq_getElem _
    have hmem := Hin.out _ (List.getElem_mem (l := L) (by rw [← HM.out]; exact hlt))
    generalize L[k]'(by rw [← HM.out]; exact hlt) = x at *
    rw [mayB_span] at hmem
    obtain ⟨a, b⟩ := x
    simp only at hmem
    obtain ⟨m1, m2, m3, m4⟩ := hmem
    obtain ⟨q, rfl⟩ := Int.eq_ofNat_of_zero_le m2
    have hq : q ≤ s.size := by omega
    obtain ⟨c0, c1⟩ := owns_cell HO.out (halfway_at _ hLk)
    have hgl := (owns_block HO.out).2
    have HLk := Lib.hid hLk
    have Hst := Lib.hid (fun v hv => Hs.out q hq v hv)
    clear hLk
    have b3 : decide (2 < way) = true := decide_eq_true hw2
    by_cases hab : a = (q : Int)
    ·have b1 : (a == (q : Int)) = true := by simpa using hab
     have b2 : decide (a = (q : Int)) = true := decide_eq_true hab
     clear hab
     have HT := Lib.hid (show toN s.data.toList way false (a, (q : Int)) = (stepN s.data.toList q way : Nat) by unfold toN; rw [if_pos (Or.inr (Or.inr hw2))]; rfl)
     generalize stepN s.data.toList q way = U at *
     go_wp2_with fail
     refine (Hst.out _ (h0.ext (hxr.alloc (.cells #[.int .i64 a, .int .i64 (q : Nat)] 47)))).mono ?_
     rintro e w6 ⟨rfl, y6⟩
     have hx6 := (hxr.alloc (.cells #[.int .i64 a, .int .i64 (q : Nat)] 47)).ext_trans y6
     have HO6 := Lib.hid (ownsRow_mod (ownsRow_mod HO.out (show Ext wr (wr.alloc (.cells #[.int .i64 a, .int .i64 (q : Nat)] 47)) from (Mod.refl _ wr).alloc _) (fun _ _ f => f)) y6 (fun _ _ f => f))
     clear c0 c1 y6 cr crl hgl
     obtain ⟨c0, c1⟩ := owns_cell HO6.out (halfway_at _ HLk.out)
     have g0 := owns_free HO6.out (k * 2)
     have g1 := owns_free HO6.out (k * 2 + 1)
     have hgl := (owns_block HO6.out).2
     go_wp2_with fail
     go_roundw
     case rel =>
      have hs := owns_setA (owns_setB HO6.out (halfway_at (turned s.data.toList way false) HLk.out) U) (x := (a, U)) (List.getElem?_set_self (by rw [halfway_len]; have := HM.out; omega)) U
      rw [List.set_set, show ((U, ((a, U) : Int × Int).2) : Int × Int) = turned s.data.toList way false (a, (q : Int)) by unfold turned; rw [HT.out]; rfl, halfway_step _ HLk.out] at hs
      exact ⟨k + 1, by omega, by go_num, Lib.hid hs, (hx6.setCell (p := ⟨g, k * 2 + 1, none⟩) (fun h => absurd h (by simp; omega)) _).setCell (p := ⟨g, k * 2, none⟩) (fun h => absurd h (by simp; omega)) _⟩
     case measure => simp [intOf]; omega
    ·have b1 : (a == (q : Int)) = false := by simpa using hab
     have b2 : decide (a = (q : Int)) = false := decide_eq_false hab
     clear hab
     have HT := Lib.hid (show toN s.data.toList way false (a, (q : Int)) = (stepN s.data.toList q way : Nat) by unfold toN; rw [if_pos (Or.inr (Or.inr hw2))]; rfl)
     generalize stepN s.data.toList q way = U at *
     go_wp2_with fail
     refine (Hst.out _ (h0.ext (hxr.alloc (.cells #[.int .i64 a, .int .i64 (q : Nat)] 47)))).mono ?_
     rintro e w6 ⟨rfl, y6⟩
     have hx6 := (hxr.alloc (.cells #[.int .i64 a, .int .i64 (q : Nat)] 47)).ext_trans y6
     have HO6 := Lib.hid (ownsRow_mod (ownsRow_mod HO.out (show Ext wr (wr.alloc (.cells #[.int .i64 a, .int .i64 (q : Nat)] 47)) from (Mod.refl _ wr).alloc _) (fun _ _ f => f)) y6 (fun _ _ f => f))
     clear c0 c1 y6 cr crl hgl
     obtain ⟨c0, c1⟩ := owns_cell HO6.out (halfway_at _ HLk.out)
     have g0 := owns_free HO6.out (k * 2)
     have g1 := owns_free HO6.out (k * 2 + 1)
     have hgl := (owns_block HO6.out).2
     go_wp2_with fail
     go_roundw
     case rel =>
      have hs := owns_setA (owns_setB HO6.out (halfway_at (turned s.data.toList way false) HLk.out) U) (x := (a, U)) (List.getElem?_set_self (by rw [halfway_len]; have := HM.out; omega)) U
      rw [List.set_set, show ((U, ((a, U) : Int × Int).2) : Int × Int) = turned s.data.toList way false (a, (q : Int)) by unfold turned; rw [HT.out]; rfl, halfway_step _ HLk.out] at hs
      exact ⟨k + 1, by omega, by go_num, Lib.hid hs, (hx6.setCell (p := ⟨g, k * 2 + 1, none⟩) (fun h => absurd h (by simp; omega)) _).setCell (p := ⟨g, k * 2, none⟩) (fun h => absurd h (by simp; omega)) _⟩
     case measure => simp [intOf]; omega
   ·have hlt' : ¬ (k : Int) < (M : Int) := by omega
    obtain rfl : k = M := by omega
    have HO2 := HO.out
    rw [HM.out, halfway_all, ← HM.out] at HO2
    have hr2 := Reads.own HO2
    have hn2 := Hn2.out _ (by rw [List.length_map, ← HM.out]; exact hr2)
    rw [List.length_map, ← HM.out] at hn2
    have HN2 := Lib.hid hn2
    clear hn2 hr2 HO2
    go_wp2_with fail
    refine (Hl.out _ (h0.ext hxr)).mono ?_
    rintro e w8 ⟨rfl, rfl⟩
    go_wp2_with fail
    refine HN2.out.mono ?_
    rintro e w9 ⟨v9, rfl, hown9, y9⟩
    rw [Hag.out]
    obtain ⟨ao9, c9, rfl, _⟩ := owns_reads hown9
    have HR9 := Lib.hid (ownsRow_base hown9 (hx0.ext_trans hxr).size)
    clear hown9
    go_wp2_with fail
    go_ret2
    exact ⟨ao9, c9, by rw [Hgl.out, HE.out, HE0.out]; rfl, by rw [Hgl.out]; exact HR9.out, hx0.ext_trans (hxr.ext_trans y9)⟩
 ·have e1 : (normE s.size l == 0) = false := by simpa using hE
  have e2 : (normE s.size l != 0) = true := by simpa using hE
  have Hgl := Lib.hid (show goL s.data.toList way false l = [] by unfold goL; rw [toList_length, HE.out, if_neg hE])
  obtain ⟨ao3, cp3, rfl, _⟩ := owns_reads hown
  generalize normE s.size l = E at *
  clear hown
  go_wp2_with fail
  go_ret2
  exact ⟨none, 0, by rw [Hgl.out, HE.out]; rfl, by rw [Hgl.out]; exact World.ownsRow_nil _ _ _ _, hx0.ext_trans hx3⟩
theorem go_left (R : Rp) (s : ByteArray) (ao : Option Addr) (cap : Nat) (l : List (Int × Int)) (w : World) (hR : RopeAt w R) (ht : R.text = s.data.toList) (hr : Reads w 2 ao l.length (prCells l)) (hn : l.length ≤ 19) :
  Calls Tryz.prog 60 #[.agg #[.pointer (some ⟨R.rb, 0, none⟩)], .int .i64 1, .bool false, .slice ao l.length cap] w (GoPost 47 (goL s.data.toList 1 false l) (goE s.size 1 l) w) := by
 have h3 : (1 : Int) ≤ 1 := by omega
 have h4 : (1 : Int) ≤ 10 := by omega
 have hx0 : Ext w (w.alloc (.cells #[.pointer (some ⟨R.rb, 0, none⟩)] 42)) := (Mod.refl _ w).alloc _
 have h0 := hR.ext hx0
 have hz := size_text ht
 have hsz := hR.size
 have hss : s.size ≤ 65536 := by omega
 have hm := may_yes ⟨R.rb, 0, none⟩ 1 (w.alloc (.cells #[.pointer (some ⟨R.rb, 0, none⟩)] 42)) h3 h4
 have hln := fun v (hv : RopeAt v R) => len_any R v hv
 rw [hz] at hln
 have htx := fun v (hv : RopeAt v R) => text_rope R v hv
 rw [bs_eq ht] at htx
 have hst := fun (q : Nat) (hq : q ≤ s.size) v (hv : RopeAt v R) => stepIn_any R s q 1 v hv ht hq h3 h4
 have Hl := Lib.hid hln
 have Ht := Lib.hid htx
 have Hs := Lib.hid hst
 have HE := Lib.hid (show goE s.size 1 l = normE s.size l by unfold goE; rw [if_pos ⟨h3, h4⟩])
 have Hn := Lib.hid (fun v hv => norm_any s.size ao cap l v hv hn)
 have Hr := Lib.hid hr
 clear hln htx hst ht hr hR hz hsz
 go_enter Tryz.func60, Tryz.ntmps60
 go_wp2_with fail
 refine hm.mono ?_
 rintro e w1 ⟨rfl, y1⟩
 have c := box_cell y1
 go_wp2_with fail
 refine (Hl.out _ (h0.ext y1)).mono ?_
 rintro e w2 ⟨rfl, rfl⟩
 go_wp2_with fail
 refine (Hn.out _ ((Hr.out.mod hx0 (fun _ _ f => f)).mod y1 (fun _ _ f => f))).mono ?_
 rintro e w3 ⟨v, rfl, hown, y3⟩
 have hx3 := y1.ext_trans y3
 have c3 := box_cell hx3
 clear c
 by_cases hE : normE s.size l = 0
 ·have Hgl := Lib.hid (show goL s.data.toList 1 false l = normL s.size ((normL s.size l).map (turned s.data.toList 1 false)) by
   unfold goL; rw [toList_length, HE.out, if_pos hE])
  have Hag := Lib.hid (show normE s.size ((normL s.size l).map (turned s.data.toList 1 false)) = 0 by
   have := go_again (t := s.data.toList) (way := 1) (ext := false) (l := l) (by rw [toList_length]; exact hE)
   rwa [toList_length] at this)
  have Hin := Lib.hid (normL_in (n := s.size) (l := l))
  have hpos : 0 < (normL s.size l).length := by rw [normL_ok hE]; exact orderN_pos (normE_ok hE).1
  have hM : (normL s.size l).length ≤ 19 := Nat.le_trans (normL_len _ _) hn
  have HE0 := Lib.hid hE
  rw [hE]
  clear hE
  generalize normL s.size l = L at *
  obtain ⟨M, hMM⟩ : ∃ M, M = L.length := ⟨_, rfl⟩
  rw [← hMM] at hown hpos hM
  have HM := Lib.hid hMM
  obtain ⟨g, cp, rfl⟩ := owns_some hown hpos
  have hgB : w.heap.size + 1 ≤ g := by have h1 := (owns_block hown).1; have h2 := y1.size; simp at h2; omega
  have Ho3 := Lib.hid (ownsRow_base hown (b' := 0) (Nat.zero_le _))
  have Hn2 := Lib.hid (fun v hv => norm_any s.size (some ⟨g, 0, none⟩) cp (L.map (turned s.data.toList 1 false)) v hv (by rw [List.length_map, ← hMM]; exact hM))
  clear hown y3 hMM
  go_wp2_with fail
  refine (Ht.out _ (h0.ext hx3)).mono ?_
  rintro e w4 ⟨rfl, y4⟩
  have hx4 := hx3.ext_trans y4
  have Ho4 := Lib.hid (ownsRow_mod Ho3.out y4 (fun _ _ f => f))
  clear hx3 y4 c3 Ho3 y1
  go_wp2_with fail
  go_loopw [39] (fun i wr => ∃ k : Nat, k ≤ M ∧ i = .int .i64 k ∧ Hid (wr.ownsRow 0 47 2 (.slice (some ⟨g, 0, none⟩) M cp) M (prCells (halfway (turned s.data.toList 1 false) L k))) ∧ Ext (w.alloc (.cells #[.pointer (some ⟨R.rb, 0, none⟩)] 42)) wr) (fun i _ => M - (intOf i).toNat)
  case atStart => exact ⟨0, by omega, rfl, Ho4, hx4⟩
  case round =>
   obtain ⟨k, hk, rfl, HO, hxr⟩ := hrel
   clear hx4 Ho4
   have cr := box_cell hxr
   have crl := World.block_lt_of_cell? wr _ cr
   by_cases hlt : k < M
   ·have hlt' : (k : Int) < (M : Int) := by omega
    have hk0 : (0 : Int) ≤ (k : Int) := by omega
    have hk1 : (k : Int) ≤ 19 := by omega
    have hLk : L[k]? = some (L[k]'(by rw [← HM.out]; exact hlt)) := List.getElem?_eq_getElem _
    have hmem := Hin.out _ (List.getElem_mem (l := L) (by rw [← HM.out]; exact hlt))
    generalize L[k]'(by rw [← HM.out]; exact hlt) = x at *
    rw [mayB_span] at hmem
    obtain ⟨a, b⟩ := x
    simp only at hmem
    obtain ⟨m1, m2, m3, m4⟩ := hmem
    obtain ⟨q, rfl⟩ := Int.eq_ofNat_of_zero_le m2
    have hq : q ≤ s.size := by omega
    obtain ⟨c0, c1⟩ := owns_cell HO.out (halfway_at _ hLk)
    have hgl := (owns_block HO.out).2
    have HLk := Lib.hid hLk
    have Hst := Lib.hid (fun v hv => Hs.out q hq v hv)
    clear hLk
    by_cases hab : a = (q : Int)
    ·have b1 : (a == (q : Int)) = true := by simpa using hab
     have b2 : decide (a = (q : Int)) = true := decide_eq_true hab
     have HT := Lib.hid (show toN s.data.toList 1 false (a, (q : Int)) = (stepN s.data.toList q 1 : Nat) by unfold toN; rw [if_pos (Or.inr (Or.inl hab))]; rfl)
     generalize stepN s.data.toList q 1 = U at *
     clear hab
     go_wp2_with fail
     refine (Hst.out _ (h0.ext (hxr.alloc (.cells #[.int .i64 a, .int .i64 (q : Nat)] 47)))).mono ?_
     rintro e w6 ⟨rfl, y6⟩
     have hx6 := (hxr.alloc (.cells #[.int .i64 a, .int .i64 (q : Nat)] 47)).ext_trans y6
     have HO6 := Lib.hid (ownsRow_mod (ownsRow_mod HO.out (show Ext wr (wr.alloc (.cells #[.int .i64 a, .int .i64 (q : Nat)] 47)) from (Mod.refl _ wr).alloc _) (fun _ _ f => f)) y6 (fun _ _ f => f))
     clear c0 c1 y6 cr crl hgl
     obtain ⟨c0, c1⟩ := owns_cell HO6.out (halfway_at _ HLk.out)
     have g0 := owns_free HO6.out (k * 2)
     have g1 := owns_free HO6.out (k * 2 + 1)
     have hgl := (owns_block HO6.out).2
     go_wp2_with fail
     go_roundw
     case rel =>
      have hs := owns_setA (owns_setB HO6.out (halfway_at (turned s.data.toList 1 false) HLk.out) U) (x := (a, U)) (List.getElem?_set_self (by rw [halfway_len]; have := HM.out; omega)) U
      rw [List.set_set, show ((U, ((a, U) : Int × Int).2) : Int × Int) = turned s.data.toList 1 false (a, (q : Int)) by unfold turned; rw [HT.out]; rfl, halfway_step _ HLk.out] at hs
      exact ⟨k + 1, by omega, by go_num, Lib.hid hs, (hx6.setCell (p := ⟨g, k * 2 + 1, none⟩) (fun h => absurd h (by simp; omega)) _).setCell (p := ⟨g, k * 2, none⟩) (fun h => absurd h (by simp; omega)) _⟩
     case measure => simp [intOf]; omega
    ·have b1 : (a == (q : Int)) = false := by simpa using hab
     have b2 : decide (a = (q : Int)) = false := decide_eq_false hab
     have HT := Lib.hid (show toN s.data.toList 1 false (a, (q : Int)) = (spanI (a, (q : Int))).1 by unfold toN; rw [if_neg (by simp; exact hab)]; rfl)
     have f0 := fun v => fld0 (spanI (a, (q : Int))).1 (spanI (a, (q : Int))).2 v
     have hsp := fun v => span_any (a, (q : Int)) v
     generalize spanI (a, (q : Int)) = V at *
     have Hsp := Lib.hid hsp
     clear hab hsp
     go_wp2_with fail
     refine (Hsp.out _).mono ?_
     rintro e w6 ⟨rfl, y6⟩
     generalize V.1 = U at *
     have hx6 := (hxr.alloc (.cells #[.int .i64 a, .int .i64 (q : Nat)] 47)).ext_trans y6
     have HO6 := Lib.hid (ownsRow_mod (ownsRow_mod HO.out (show Ext wr (wr.alloc (.cells #[.int .i64 a, .int .i64 (q : Nat)] 47)) from (Mod.refl _ wr).alloc _) (fun _ _ f => f)) y6 (fun _ _ f => f))
     clear c0 c1 y6 cr crl hgl
     obtain ⟨c0, c1⟩ := owns_cell HO6.out (halfway_at _ HLk.out)
     have g0 := owns_free HO6.out (k * 2)
     have g1 := owns_free HO6.out (k * 2 + 1)
     have hgl := (owns_block HO6.out).2
     go_wp2_with fail
     go_roundw
     case rel =>
      have hs := owns_setA (owns_setB HO6.out (halfway_at (turned s.data.toList 1 false) HLk.out) U) (x := (a, U)) (List.getElem?_set_self (by rw [halfway_len]; have := HM.out; omega)) U
      rw [List.set_set, show ((U, ((a, U) : Int × Int).2) : Int × Int) = turned s.data.toList 1 false (a, (q : Int)) by unfold turned; rw [HT.out]; rfl, halfway_step _ HLk.out] at hs
      exact ⟨k + 1, by omega, by go_num, Lib.hid hs, (hx6.setCell (p := ⟨g, k * 2 + 1, none⟩) (fun h => absurd h (by simp; omega)) _).setCell (p := ⟨g, k * 2, none⟩) (fun h => absurd h (by simp; omega)) _⟩
     case measure => simp [intOf]; omega
   ·have hlt' : ¬ (k : Int) < (M : Int) := by omega
    obtain rfl : k = M := by omega
    have HO2 := HO.out
    rw [HM.out, halfway_all, ← HM.out] at HO2
    have hr2 := Reads.own HO2
    have hn2 := Hn2.out _ (by rw [List.length_map, ← HM.out]; exact hr2)
    rw [List.length_map, ← HM.out] at hn2
    have HN2 := Lib.hid hn2
    clear hn2 hr2 HO2
    go_wp2_with fail
    refine (Hl.out _ (h0.ext hxr)).mono ?_
    rintro e w8 ⟨rfl, rfl⟩
    go_wp2_with fail
    refine HN2.out.mono ?_
    rintro e w9 ⟨v9, rfl, hown9, y9⟩
    rw [Hag.out]
    obtain ⟨ao9, c9, rfl, _⟩ := owns_reads hown9
    have HR9 := Lib.hid (ownsRow_base hown9 (hx0.ext_trans hxr).size)
    clear hown9
    go_wp2_with fail
    go_ret2
    exact ⟨ao9, c9, by rw [Hgl.out, HE.out, HE0.out]; rfl, by rw [Hgl.out]; exact HR9.out, hx0.ext_trans (hxr.ext_trans y9)⟩
 ·have e1 : (normE s.size l == 0) = false := by simpa using hE
  have e2 : (normE s.size l != 0) = true := by simpa using hE
  have Hgl := Lib.hid (show goL s.data.toList 1 false l = [] by unfold goL; rw [toList_length, HE.out, if_neg hE])
  obtain ⟨ao3, cp3, rfl, _⟩ := owns_reads hown
  generalize normE s.size l = E at *
  clear hown
  go_wp2_with fail
  go_ret2
  exact ⟨none, 0, by rw [Hgl.out, HE.out]; rfl, by rw [Hgl.out]; exact World.ownsRow_nil _ _ _ _, hx0.ext_trans hx3⟩
theorem go_right (R : Rp) (s : ByteArray) (ao : Option Addr) (cap : Nat) (l : List (Int × Int)) (w : World) (hR : RopeAt w R) (ht : R.text = s.data.toList) (hr : Reads w 2 ao l.length (prCells l)) (hn : l.length ≤ 19) :
  Calls Tryz.prog 60 #[.agg #[.pointer (some ⟨R.rb, 0, none⟩)], .int .i64 2, .bool false, .slice ao l.length cap] w (GoPost 47 (goL s.data.toList 2 false l) (goE s.size 2 l) w) := by
 have h3 : (1 : Int) ≤ 2 := by omega
 have h4 : (2 : Int) ≤ 10 := by omega
 have hx0 : Ext w (w.alloc (.cells #[.pointer (some ⟨R.rb, 0, none⟩)] 42)) := (Mod.refl _ w).alloc _
 have h0 := hR.ext hx0
 have hz := size_text ht
 have hsz := hR.size
 have hss : s.size ≤ 65536 := by omega
 have hm := may_yes ⟨R.rb, 0, none⟩ 2 (w.alloc (.cells #[.pointer (some ⟨R.rb, 0, none⟩)] 42)) h3 h4
 have hln := fun v (hv : RopeAt v R) => len_any R v hv
 rw [hz] at hln
 have htx := fun v (hv : RopeAt v R) => text_rope R v hv
 rw [bs_eq ht] at htx
 have hst := fun (q : Nat) (hq : q ≤ s.size) v (hv : RopeAt v R) => stepIn_any R s q 2 v hv ht hq h3 h4
 have Hl := Lib.hid hln
 have Ht := Lib.hid htx
 have Hs := Lib.hid hst
 have HE := Lib.hid (show goE s.size 2 l = normE s.size l by unfold goE; rw [if_pos ⟨h3, h4⟩])
 have Hn := Lib.hid (fun v hv => norm_any s.size ao cap l v hv hn)
 have Hr := Lib.hid hr
 clear hln htx hst ht hr hR hz hsz
 go_enter Tryz.func60, Tryz.ntmps60
 go_wp2_with fail
 refine hm.mono ?_
 rintro e w1 ⟨rfl, y1⟩
 have c := box_cell y1
 go_wp2_with fail
 refine (Hl.out _ (h0.ext y1)).mono ?_
 rintro e w2 ⟨rfl, rfl⟩
 go_wp2_with fail
 refine (Hn.out _ ((Hr.out.mod hx0 (fun _ _ f => f)).mod y1 (fun _ _ f => f))).mono ?_
 rintro e w3 ⟨v, rfl, hown, y3⟩
 have hx3 := y1.ext_trans y3
 have c3 := box_cell hx3
 clear c
 by_cases hE : normE s.size l = 0
 ·have Hgl := Lib.hid (show goL s.data.toList 2 false l = normL s.size ((normL s.size l).map (turned s.data.toList 2 false)) by
   unfold goL; rw [toList_length, HE.out, if_pos hE])
  have Hag := Lib.hid (show normE s.size ((normL s.size l).map (turned s.data.toList 2 false)) = 0 by
   have := go_again (t := s.data.toList) (way := 2) (ext := false) (l := l) (by rw [toList_length]; exact hE)
   rwa [toList_length] at this)
  have Hin := Lib.hid (normL_in (n := s.size) (l := l))
  have hpos : 0 < (normL s.size l).length := by rw [normL_ok hE]; exact orderN_pos (normE_ok hE).1
  have hM : (normL s.size l).length ≤ 19 := Nat.le_trans (normL_len _ _) hn
  have HE0 := Lib.hid hE
  rw [hE]
  clear hE
  generalize normL s.size l = L at *
  obtain ⟨M, hMM⟩ : ∃ M, M = L.length := ⟨_, rfl⟩
  rw [← hMM] at hown hpos hM
  have HM := Lib.hid hMM
  obtain ⟨g, cp, rfl⟩ := owns_some hown hpos
  have hgB : w.heap.size + 1 ≤ g := by have h1 := (owns_block hown).1; have h2 := y1.size; simp at h2; omega
  have Ho3 := Lib.hid (ownsRow_base hown (b' := 0) (Nat.zero_le _))
  have Hn2 := Lib.hid (fun v hv => norm_any s.size (some ⟨g, 0, none⟩) cp (L.map (turned s.data.toList 2 false)) v hv (by rw [List.length_map, ← hMM]; exact hM))
  clear hown y3 hMM
  go_wp2_with fail
  refine (Ht.out _ (h0.ext hx3)).mono ?_
  rintro e w4 ⟨rfl, y4⟩
  have hx4 := hx3.ext_trans y4
  have Ho4 := Lib.hid (ownsRow_mod Ho3.out y4 (fun _ _ f => f))
  clear hx3 y4 c3 Ho3 y1
  go_wp2_with fail
  go_loopw [39] (fun i wr => ∃ k : Nat, k ≤ M ∧ i = .int .i64 k ∧ Hid (wr.ownsRow 0 47 2 (.slice (some ⟨g, 0, none⟩) M cp) M (prCells (halfway (turned s.data.toList 2 false) L k))) ∧ Ext (w.alloc (.cells #[.pointer (some ⟨R.rb, 0, none⟩)] 42)) wr) (fun i _ => M - (intOf i).toNat)
  case atStart => exact ⟨0, by omega, rfl, Ho4, hx4⟩
  case round =>
   obtain ⟨k, hk, rfl, HO, hxr⟩ := hrel
   clear hx4 Ho4
   have cr := box_cell hxr
   have crl := World.block_lt_of_cell? wr _ cr
   by_cases hlt : k < M
   ·have hlt' : (k : Int) < (M : Int) := by omega
    have hk0 : (0 : Int) ≤ (k : Int) := by omega
    have hk1 : (k : Int) ≤ 19 := by omega
    have hLk : L[k]? = some (L[k]'(by rw [← HM.out]; exact hlt)) := List.getElem?_eq_getElem _
    have hmem := Hin.out _ (List.getElem_mem (l := L) (by rw [← HM.out]; exact hlt))
    generalize L[k]'(by rw [← HM.out]; exact hlt) = x at *
    rw [mayB_span] at hmem
    obtain ⟨a, b⟩ := x
    simp only at hmem
    obtain ⟨m1, m2, m3, m4⟩ := hmem
    obtain ⟨q, rfl⟩ := Int.eq_ofNat_of_zero_le m2
    have hq : q ≤ s.size := by omega
    obtain ⟨c0, c1⟩ := owns_cell HO.out (halfway_at _ hLk)
    have hgl := (owns_block HO.out).2
    have HLk := Lib.hid hLk
    have Hst := Lib.hid (fun v hv => Hs.out q hq v hv)
    clear hLk
    by_cases hab : a = (q : Int)
    ·have b1 : (a == (q : Int)) = true := by simpa using hab
     have b2 : decide (a = (q : Int)) = true := decide_eq_true hab
     have HT := Lib.hid (show toN s.data.toList 2 false (a, (q : Int)) = (stepN s.data.toList q 2 : Nat) by unfold toN; rw [if_pos (Or.inr (Or.inl hab))]; rfl)
     generalize stepN s.data.toList q 2 = U at *
     clear hab
     go_wp2_with fail
     refine (Hst.out _ (h0.ext (hxr.alloc (.cells #[.int .i64 a, .int .i64 (q : Nat)] 47)))).mono ?_
     rintro e w6 ⟨rfl, y6⟩
     have hx6 := (hxr.alloc (.cells #[.int .i64 a, .int .i64 (q : Nat)] 47)).ext_trans y6
     have HO6 := Lib.hid (ownsRow_mod (ownsRow_mod HO.out (show Ext wr (wr.alloc (.cells #[.int .i64 a, .int .i64 (q : Nat)] 47)) from (Mod.refl _ wr).alloc _) (fun _ _ f => f)) y6 (fun _ _ f => f))
     clear c0 c1 y6 cr crl hgl
     obtain ⟨c0, c1⟩ := owns_cell HO6.out (halfway_at _ HLk.out)
     have g0 := owns_free HO6.out (k * 2)
     have g1 := owns_free HO6.out (k * 2 + 1)
     have hgl := (owns_block HO6.out).2
     go_wp2_with fail
     go_roundw
     case rel =>
      have hs := owns_setA (owns_setB HO6.out (halfway_at (turned s.data.toList 2 false) HLk.out) U) (x := (a, U)) (List.getElem?_set_self (by rw [halfway_len]; have := HM.out; omega)) U
      rw [List.set_set, show ((U, ((a, U) : Int × Int).2) : Int × Int) = turned s.data.toList 2 false (a, (q : Int)) by unfold turned; rw [HT.out]; rfl, halfway_step _ HLk.out] at hs
      exact ⟨k + 1, by omega, by go_num, Lib.hid hs, (hx6.setCell (p := ⟨g, k * 2 + 1, none⟩) (fun h => absurd h (by simp; omega)) _).setCell (p := ⟨g, k * 2, none⟩) (fun h => absurd h (by simp; omega)) _⟩
     case measure => simp [intOf]; omega
    ·have b1 : (a == (q : Int)) = false := by simpa using hab
     have b2 : decide (a = (q : Int)) = false := decide_eq_false hab
     have HT := Lib.hid (show toN s.data.toList 2 false (a, (q : Int)) = (spanI (a, (q : Int))).2 by unfold toN; rw [if_neg (by simp; exact hab)]; rfl)
     have f0 := fun v => fld1 (spanI (a, (q : Int))).1 (spanI (a, (q : Int))).2 v
     have hsp := fun v => span_any (a, (q : Int)) v
     generalize spanI (a, (q : Int)) = V at *
     have Hsp := Lib.hid hsp
     clear hab hsp
     go_wp2_with fail
     refine (Hsp.out _).mono ?_
     rintro e w6 ⟨rfl, y6⟩
     generalize V.2 = U at *
     have hx6 := (hxr.alloc (.cells #[.int .i64 a, .int .i64 (q : Nat)] 47)).ext_trans y6
     have HO6 := Lib.hid (ownsRow_mod (ownsRow_mod HO.out (show Ext wr (wr.alloc (.cells #[.int .i64 a, .int .i64 (q : Nat)] 47)) from (Mod.refl _ wr).alloc _) (fun _ _ f => f)) y6 (fun _ _ f => f))
     clear c0 c1 y6 cr crl hgl
     obtain ⟨c0, c1⟩ := owns_cell HO6.out (halfway_at _ HLk.out)
     have g0 := owns_free HO6.out (k * 2)
     have g1 := owns_free HO6.out (k * 2 + 1)
     have hgl := (owns_block HO6.out).2
     go_wp2_with fail
     go_roundw
     case rel =>
      have hs := owns_setA (owns_setB HO6.out (halfway_at (turned s.data.toList 2 false) HLk.out) U) (x := (a, U)) (List.getElem?_set_self (by rw [halfway_len]; have := HM.out; omega)) U
      rw [List.set_set, show ((U, ((a, U) : Int × Int).2) : Int × Int) = turned s.data.toList 2 false (a, (q : Int)) by unfold turned; rw [HT.out]; rfl, halfway_step _ HLk.out] at hs
      exact ⟨k + 1, by omega, by go_num, Lib.hid hs, (hx6.setCell (p := ⟨g, k * 2 + 1, none⟩) (fun h => absurd h (by simp; omega)) _).setCell (p := ⟨g, k * 2, none⟩) (fun h => absurd h (by simp; omega)) _⟩
     case measure => simp [intOf]; omega
   ·have hlt' : ¬ (k : Int) < (M : Int) := by omega
    obtain rfl : k = M := by omega
    have HO2 := HO.out
    rw [HM.out, halfway_all, ← HM.out] at HO2
    have hr2 := Reads.own HO2
    have hn2 := Hn2.out _ (by rw [List.length_map, ← HM.out]; exact hr2)
    rw [List.length_map, ← HM.out] at hn2
    have HN2 := Lib.hid hn2
    clear hn2 hr2 HO2
    go_wp2_with fail
    refine (Hl.out _ (h0.ext hxr)).mono ?_
    rintro e w8 ⟨rfl, rfl⟩
    go_wp2_with fail
    refine HN2.out.mono ?_
    rintro e w9 ⟨v9, rfl, hown9, y9⟩
    rw [Hag.out]
    obtain ⟨ao9, c9, rfl, _⟩ := owns_reads hown9
    have HR9 := Lib.hid (ownsRow_base hown9 (hx0.ext_trans hxr).size)
    clear hown9
    go_wp2_with fail
    go_ret2
    exact ⟨ao9, c9, by rw [Hgl.out, HE.out, HE0.out]; rfl, by rw [Hgl.out]; exact HR9.out, hx0.ext_trans (hxr.ext_trans y9)⟩
 ·have e1 : (normE s.size l == 0) = false := by simpa using hE
  have e2 : (normE s.size l != 0) = true := by simpa using hE
  have Hgl := Lib.hid (show goL s.data.toList 2 false l = [] by unfold goL; rw [toList_length, HE.out, if_neg hE])
  obtain ⟨ao3, cp3, rfl, _⟩ := owns_reads hown
  generalize normE s.size l = E at *
  clear hown
  go_wp2_with fail
  go_ret2
  exact ⟨none, 0, by rw [Hgl.out, HE.out]; rfl, by rw [Hgl.out]; exact World.ownsRow_nil _ _ _ _, hx0.ext_trans hx3⟩
theorem go_any (R : Rp) (s : ByteArray) (ao : Option Addr) (cap : Nat) (l : List (Int × Int)) (way : Int) (ext : Bool) (w : World) (hR : RopeAt w R) (ht : R.text = s.data.toList) (hr : Reads w 2 ao l.length (prCells l)) (hn : l.length ≤ 19) :
  Calls Tryz.prog 60 #[.agg #[.pointer (some ⟨R.rb, 0, none⟩)], .int .i64 way, .bool ext, .slice ao l.length cap] w (GoPost 47 (goL s.data.toList way ext l) (goE s.size way l) w) := by
 by_cases hw : 1 ≤ way ∧ way ≤ 10
 ·cases ext with
  | true => exact go_ext R s ao cap l way w hR ht hr hn hw.1 hw.2
  | false =>
   by_cases h2 : 2 < way
   ·exact go_far R s ao cap l way w hR ht hr hn hw.1 hw.2 h2
   ·by_cases h1 : way = 1
    ·subst h1; exact go_left R s ao cap l w hR ht hr hn
    ·obtain rfl : way = 2 := by omega
     exact go_right R s ao cap l w hR ht hr hn
 ·have e1 : goE s.size way l = 2 := by unfold goE; rw [if_neg hw]
  have e2 : goL s.data.toList way ext l = [] := by unfold goL goE; rw [if_neg hw]; rfl
  rw [e1, e2]
  exact go_way _ way ext ao l.length cap w hw
end Go.Proofs.YthlmgoagnfkhdaaGreat

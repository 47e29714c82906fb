/- Where selections come to, plain. Conditions: none. -/
import Derived.Test.YthlmgoagnfkhdaaGreatGimG28
import Derived.Test.YthlmgoagnfkhdaaGreatGimG20
import Derived.Test.YthlmgoagnfkhdaaGreatGimG12
import Derived.Test.YthlmgoagnfkhdaaGreatGimG21
set_option maxHeartbeats 6400000
set_option maxRecDepth 1000000
set_option linter.unusedVariables false
set_option linter.unusedSimpArgs false
namespace Go.Gim
theorem mayB_span {x : Int × Int} {n : Int} : mayB (spanI x) n = true ↔ 0 ≤ x.1 ∧ 0 ≤ x.2 ∧ x.1 ≤ n ∧ x.2 ≤ n := by
 unfold mayB spanI; rw [decide_eq_true_eq]; simp only; omega
theorem mergeS_in (p : Int × Int → Prop) (hf : ∀ a b, p a → p b → p (fuse a b)) {out : List (Int × Int)} {s : Int × Int} (ho : ∀ x ∈ out, p x) (hs : p s) : ∀ x ∈ mergeS out s, p x := by
 unfold mergeS
 split
 ·rename_i a ha
  obtain ⟨l, rfl⟩ := List.getLast?_eq_some_iff.1 ha
  have hpa := ho a (by simp)
  split
  ·intro x hx
   rw [List.dropLast_concat] at hx
   rcases List.mem_append.1 hx with h | h
   ·exact ho x (List.mem_append_left _ h)
   ·rw [List.mem_singleton.1 h]; exact hf _ _ hpa hs
  ·intro x hx
   rcases List.mem_append.1 hx with h | h
   ·exact ho x h
   ·rw [List.mem_singleton.1 h]; exact hs
 ·intro x hx
  rcases List.mem_append.1 hx with h | h
  ·exact ho x h
  ·rw [List.mem_singleton.1 h]; exact hs
theorem merged_in (p : Int × Int → Prop) (hf : ∀ a b, p a → p b → p (fuse a b)) {l : List (Int × Int)} (h : ∀ x ∈ l, p x) : ∀ x ∈ merged l, p x := by
 have : ∀ (l out : List (Int × Int)), (∀ x ∈ out, p x) → (∀ x ∈ l, p x) → ∀ x ∈ l.foldl mergeS out, p x := by
  intro l
  induction l with
  | nil => intro out ho _; exact ho
  | cons y r ih =>
   intro out ho hl
   rw [List.foldl_cons]
   exact ih _ (mergeS_in p hf ho (hl y (by simp))) (fun x hx => hl x (by simp [hx]))
 exact this l [] (by simp) h
theorem orderN_in (p : Int × Int → Prop) (hf : ∀ a b, p a → p b → p (fuse a b)) {l : List (Int × Int)} (h : ∀ x ∈ l, p x) : ∀ x ∈ orderN l, p x :=
 merged_in p hf (fun x hx => h x ((sorted_mem lessS l x).1 hx))
theorem merged_pos {l : List (Int × Int)} (h : 0 < l.length) : 0 < (merged l).length := by
 obtain ⟨r, x, rfl⟩ : ∃ r x, l = r ++ [x] := ⟨l.dropLast, l.getLast (List.ne_nil_of_length_pos h), (List.dropLast_concat_getLast _).symm⟩
 unfold merged
 rw [List.foldl_append, List.foldl_cons, List.foldl_nil]; exact mergeS_pos _ _
theorem orderN_pos {l : List (Int × Int)} (h : 0 < l.length) : 0 < (orderN l).length := merged_pos (by rw [sorted_length]; exact h)
theorem may_fuse (n : Int) : ∀ a b, mayB (spanI a) n = true → mayB (spanI b) n = true → mayB (spanI (fuse a b)) n = true := by
 intro a b ha hb
 rw [mayB_span] at *
 unfold fuse spanI
 split <;> simp only <;> omega
theorem normE_ok {n : Int} {l : List (Int × Int)} (h : normE n l = 0) : 0 < l.length ∧ l.length ≤ 64 ∧ ∀ x ∈ l, mayB (spanI x) n = true := by
 unfold normE at h
 split at h
 ·cases h
 ·split at h
  ·cases h
  ·split at h
   ·rename_i h1 h2 h3
    exact ⟨by omega, by omega, List.all_eq_true.1 h3⟩
   ·cases h
theorem normE_yes {n : Int} {l : List (Int × Int)} (h0 : 0 < l.length) (h1 : l.length ≤ 64) (h : ∀ x ∈ l, mayB (spanI x) n = true) : normE n l = 0 := by
 rw [normE_in h0 h1, if_pos (List.all_eq_true.2 h)]
theorem normL_ok {n : Int} {l : List (Int × Int)} (h : normE n l = 0) : normL n l = orderN l := by unfold normL; rw [if_pos h]
theorem normL_in {n : Int} {l : List (Int × Int)} : ∀ x ∈ normL n l, mayB (spanI x) n = true := by
 unfold normL
 split
 ·rename_i h
  exact orderN_in _ (may_fuse n) (normE_ok h).2.2
 ·intro x hx; cases hx
def toN (t : List UInt8) (way : Int) (ext : Bool) (x : Int × Int) : Int :=
 if ext = true ∨ x.1 = x.2 ∨ 2 < way then (stepN t x.2.toNat way : Nat) else if way = 1 then (spanI x).1 else (spanI x).2
def turned (t : List UInt8) (way : Int) (ext : Bool) (x : Int × Int) : Int × Int := (if ext then x.1 else toN t way ext x, toN t way ext x)
def goE (n way : Int) (l : List (Int × Int)) : Int := if 1 ≤ way ∧ way ≤ 10 then normE n l else 2
def goL (t : List UInt8) (way : Int) (ext : Bool) (l : List (Int × Int)) : List (Int × Int) :=
 if goE t.length way l = 0 then normL t.length ((normL t.length l).map (turned t way ext)) else []
theorem turned_in {t : List UInt8} {way : Int} {ext : Bool} {x : Int × Int} (h : mayB (spanI x) t.length = true) : mayB (spanI (turned t way ext x)) t.length = true := by
 rw [mayB_span] at *
 have hs := stepN_le t x.2.toNat way (by omega)
 have ht : 0 ≤ toN t way ext x ∧ toN t way ext x ≤ t.length := by
  unfold toN spanI
  split
  ·omega
  ·split <;> simp only <;> omega
 unfold turned
 simp only
 split <;> omega
def halfway {α : Type} (f : α → α) (l : List α) (k : Nat) : List α := (l.take k).map f ++ l.drop k
theorem halfway_all {α : Type} (f : α → α) (l : List α) : halfway f l l.length = l.map f := by
 unfold halfway; rw [List.take_of_length_le (Nat.le_refl _), List.drop_of_length_le (Nat.le_refl _), List.append_nil]
theorem halfway_len {α : Type} (f : α → α) (l : List α) (k : Nat) : (halfway f l k).length = l.length := by
 unfold halfway; simp; omega
theorem halfway_at {α : Type} (f : α → α) {l : List α} {k : Nat} {x : α} (h : l[k]? = some x) : (halfway f l k)[k]? = some x := by
 obtain ⟨hk, rfl⟩ := List.getElem?_eq_some_iff.1 h
 unfold halfway
 rw [List.getElem?_append_right (by simp; omega)]
 simp [Nat.min_eq_left (Nat.le_of_lt hk)]
theorem halfway_step {α : Type} (f : α → α) {l : List α} {k : Nat} {x : α} (h : l[k]? = some x) : (halfway f l k).set k (f x) = halfway f l (k + 1) := by
 obtain ⟨hk, rfl⟩ := List.getElem?_eq_some_iff.1 h
 have hd : l.drop k = l[k] :: l.drop (k + 1) := List.drop_eq_getElem_cons hk
 unfold halfway
 rw [List.set_append_right _ _ (by simp; omega), List.take_succ_eq_append_getElem hk, List.map_append, hd]
 simp [Nat.min_eq_left (Nat.le_of_lt hk)]
 rw [hd]; rfl
theorem go_again {t : List UInt8} {way : Int} {ext : Bool} {l : List (Int × Int)} (h : normE t.length l = 0) : normE t.length ((normL t.length l).map (turned t way ext)) = 0 := by
 obtain ⟨h0, h1, _⟩ := normE_ok h
 have hl := normL_len t.length l
 refine normE_yes (by rw [List.length_map, normL_ok h]; exact orderN_pos h0) (by rw [List.length_map]; omega) ?_
 intro y hy
 obtain ⟨x, hx, rfl⟩ := List.mem_map.1 hy
 exact turned_in (normL_in x hx)
def goneS (t : List UInt8) (forth : Bool) (x : Int × Int) : Int × Int :=
 if x.1 = x.2 then (if forth then (x.2, (rightN t x.2.toNat : Nat)) else ((leftN t x.2.toNat : Nat), x.2)) else spanI x
def edOf (x : Int × Int) : Ed := ⟨x.1, x.2, ⟨#[]⟩⟩
def gonesL (t : List UInt8) (forth : Bool) (q : List (Int × Int)) : List (Int × Int) := (unionL (q.map (goneS t forth))).filter fullB
def erasedL (t : List UInt8) (forth : Bool) (q : List (Int × Int)) : List Ed := (gonesL t forth q).map edOf
theorem rightN_ge (l : List UInt8) (a : Nat) : a ≤ rightN l a := by
 unfold rightN
 split
 ·have := fwdN_ge inB l (a + 1); omega
 ·omega
theorem goneS_in {t : List UInt8} {forth : Bool} {x : Int × Int} (h : 0 ≤ x.1 ∧ 0 ≤ x.2 ∧ x.1 ≤ t.length ∧ x.2 ≤ t.length) : 0 ≤ (goneS t forth x).1 ∧ (goneS t forth x).1 ≤ (goneS t forth x).2 ∧ (goneS t forth x).2 ≤ t.length := by
 obtain ⟨p, q⟩ := x
 simp only at h
 unfold goneS
 simp only
 have h1 := rightN_ge t q.toNat
 have h2 := rightN_le t q.toNat (by omega)
 have h3 := leftN_le t q.toNat
 split
 ·split <;> (simp only; omega)
 ·unfold spanI; simp only; omega
theorem mayB_in {n : Int} {x : Int × Int} (h : mayB (spanI x) n = true) : 0 ≤ x.1 ∧ 0 ≤ x.2 ∧ x.1 ≤ n ∧ x.2 ≤ n := by
 rw [mayB_span] at h
 omega
def InT (n : Int) (q : List (Int × Int)) : Prop := ∀ x ∈ q, 0 ≤ x.1 ∧ 0 ≤ x.2 ∧ x.1 ≤ n ∧ x.2 ≤ n
theorem gones_in {t : List UInt8} {forth : Bool} {q : List (Int × Int)} (h : InT t.length q) : ∀ y ∈ q.map (goneS t forth), 0 ≤ y.1 ∧ y.1 ≤ y.2 ∧ y.2 ≤ t.length := by
 intro y hy
 obtain ⟨x, hx, rfl⟩ := List.mem_map.1 hy
 exact goneS_in (h x hx)
theorem gonesL_len (t : List UInt8) (forth : Bool) (q : List (Int × Int)) : (gonesL t forth q).length ≤ q.length := by
 unfold gonesL
 have h1 := List.length_filter_le fullB (unionL (q.map (goneS t forth)))
 have h2 := unionL_len (q.map (goneS t forth))
 rw [List.length_map] at h2
 omega
theorem erasedL_len (t : List UInt8) (forth : Bool) (q : List (Int × Int)) : (erasedL t forth q).length ≤ q.length := by
 unfold erasedL; rw [List.length_map]; exact gonesL_len t forth q
theorem gonesL_first {t : List UInt8} {forth : Bool} {q : List (Int × Int)} (h : InT t.length q) : unionL ((q.map (goneS t forth)).filter fullB) = gonesL t forth q :=
 (unionL_filter (fun y hy => (gones_in h y hy).2.1)).symm
end Go.Gim
namespace Go.Proofs.YthlmgoagnfkhdaaGreat
open Go.RowKit Go.Gim
def GoPost (T : TypeId) (res : List (Int × Int)) (err : Int) (w : World) (e : Ending) (w' : World) : Prop :=
 ∃ ao cap, e = .returned (.tuple #[.slice ao res.length cap, .int .i64 err]) ∧ w'.ownsRow w.heap.size T 2 (.slice ao res.length cap) res.length (prCells res) ∧ Ext w w'
theorem go_way (r : Addr) (way : Int) (x : Bool) (ao : Option Addr) (n cap : Nat) (w : World) (h : ¬ (1 ≤ way ∧ way ≤ 10)) :
  Calls Tryz.prog 60 #[.agg #[.pointer (some r)], .int .i64 way, .bool x, .slice ao n cap] w (GoPost 47 [] 2 w) := by
 have hx0 : Ext w (w.alloc (.cells #[.pointer (some r)] 42)) := (Mod.refl _ w).alloc _
 have hm := may_no (some r) way (w.alloc (.cells #[.pointer (some r)] 42)) h
 clear h
 go_enter Tryz.func60, Tryz.ntmps60
 go_wp2_with fail
 refine hm.mono ?_
 rintro e w1 ⟨rfl, y1⟩
 go_wp2_with fail
 go_ret2
 exact ⟨none, 0, rfl, World.ownsRow_nil _ _ _ _, hx0.ext_trans y1⟩
theorem owns_reads {w : World} {B n : Nat} {T : TypeId} {v : Value} {l : List (Int × Int)} (h : w.ownsRow B T 2 v n (prCells l)) : ∃ ao c, v = .slice ao n c ∧ Reads w 2 ao n (prCells l) := by
 obtain ⟨ao, c, rfl, _, _⟩ := ownsRow_shape h
 exact ⟨ao, c, rfl, Reads.own h⟩
theorem go_ext (R : Rp) (s : ByteArray) (ao : Option Addr) (cap : Nat) (l : List (Int × Int)) (way : Int) (w : World) (hR : RopeAt w R) (ht : R.text = s.data.toList) (hr : Reads w 2 ao l.length (prCells l)) (hn : l.length ≤ 19) (h3 : 1 ≤ way) (h4 : way ≤ 10) :
  Calls Tryz.prog 60 #[.agg #[.pointer (some ⟨R.rb, 0, none⟩)], .int .i64 way, .bool true, .slice ao l.length cap] w (GoPost 47 (goL s.data.toList way true l) (goE s.size way l) w) := by
 have hx0 : Ext w (w.alloc (.cells #[.pointer (some ⟨R.rb, 0, none⟩)] 42)) := (Mod.refl _ w).alloc _
 have h0 := hR.ext hx0
 have hz := size_text ht
 have hsz := hR.size
 have hss : s.size ≤ 65536 := by omega
 have hm := may_yes ⟨R.rb, 0, none⟩ way (w.alloc (.cells #[.pointer (some ⟨R.rb, 0, none⟩)] 42)) h3 h4
 have hln := fun v (hv : RopeAt v R) => len_any R v hv
 rw [hz] at hln
 have htx := fun v (hv : RopeAt v R) => text_rope R v hv
 rw [bs_eq ht] at htx
 have hst := fun (q : Nat) (hq : q ≤ s.size) v (hv : RopeAt v R) => stepIn_any R s q way v hv ht hq h3 h4
 have Hl := Lib.hid hln
 have Ht := Lib.hid htx
 have Hs := Lib.hid hst
 have HE := Lib.hid (show goE s.size way l = normE s.size l by unfold goE; rw [if_pos ⟨h3, h4⟩])
 have Hn := Lib.hid (fun v hv => norm_any s.size ao cap l v hv hn)
 have Hr := Lib.hid hr
 clear hln htx hst ht hr hR hz hsz
 go_enter Tryz.func60, Tryz.ntmps60
 go_wp2_with fail
 refine hm.mono ?_
 rintro e w1 ⟨rfl, y1⟩
 have c := box_cell y1
 go_wp2_with fail
 refine (Hl.out _ (h0.ext y1)).mono ?_
 rintro e w2 ⟨rfl, rfl⟩
 go_wp2_with fail
 refine (Hn.out _ ((Hr.out.mod hx0 (fun _ _ f => f)).mod y1 (fun _ _ f => f))).mono ?_
 rintro e w3 ⟨v, rfl, hown, y3⟩
 have hx3 := y1.ext_trans y3
 have c3 := box_cell hx3
 clear c
 by_cases hE : normE s.size l = 0
 ·have Hgl := Lib.hid (show goL s.data.toList way true l = normL s.size ((normL s.size l).map (turned s.data.toList way true)) by
   unfold goL; rw [toList_length, HE.out, if_pos hE])
  have Hag := Lib.hid (show normE s.size ((normL s.size l).map (turned s.data.toList way true)) = 0 by
   have := go_again (t := s.data.toList) (way := way) (ext := true) (l := l) (by rw [toList_length]; exact hE)
   rwa [toList_length] at this)
  have Hin := Lib.hid (normL_in (n := s.size) (l := l))
  have hpos : 0 < (normL s.size l).length := by rw [normL_ok hE]; exact orderN_pos (normE_ok hE).1
  have hM : (normL s.size l).length ≤ 19 := Nat.le_trans (normL_len _ _) hn
  have HE0 := Lib.hid hE
  rw [hE]
  clear hE
  generalize normL s.size l = L at *
  obtain ⟨M, hMM⟩ : ∃ M, M = L.length := ⟨_, rfl⟩
  rw [← hMM] at hown hpos hM
  have HM := Lib.hid hMM
  obtain ⟨g, cp, rfl⟩ := owns_some hown hpos
  have hgB : w.heap.size + 1 ≤ g := by have h1 := (owns_block hown).1; have h2 := y1.size; simp at h2; omega
  have Ho3 := Lib.hid (ownsRow_base hown (b' := 0) (Nat.zero_le _))
  have Hn2 := Lib.hid (fun v hv => norm_any s.size (some ⟨g, 0, none⟩) cp (L.map (turned s.data.toList way true)) v hv (by rw [List.length_map, ← hMM]; exact hM))
  clear hown y3 hMM
  go_wp2_with fail
  refine (Ht.out _ (h0.ext hx3)).mono ?_
  rintro e w4 ⟨rfl, y4⟩
  have hx4 := hx3.ext_trans y4
  have Ho4 := Lib.hid (ownsRow_mod Ho3.out y4 (fun _ _ f => f))
  clear hx3 y4 c3 Ho3 y1
  go_wp2_with fail
  go_loopw [39] (fun i wr => ∃ k : Nat, k ≤ M ∧ i = .int .i64 k ∧ Hid (wr.ownsRow 0 47 2 (.slice (some ⟨g, 0, none⟩) M cp) M (prCells (halfway (turned s.data.toList way true) L k))) ∧ Ext (w.alloc (.cells #[.pointer (some ⟨R.rb, 0, none⟩)] 42)) wr) (fun i _ => M - (intOf i).toNat)
  case atStart => exact ⟨0, by omega, rfl, Ho4, hx4⟩
  case round =>
   obtain ⟨k, hk, rfl, HO, hxr⟩ := hrel
   clear hx4 Ho4
   have cr := box_cell hxr
   have crl := World.block_lt_of_cell? wr _ cr
   by_cases hlt : k < M
   ·have hlt' : (k : Int) < (M : Int) := by omega
    have hk0 : (0 : Int) ≤ (k : Int) := by omega
    have hk1 : (k : Int) ≤ 19 := by omega
    have hLk : L[k]? = some (L[k]'(by rw [← HM.out]; exact hlt)) := List.getElem?_eq_getElem _
    have hmem := Hin.out _ (List.getElem_mem (l := L) (by rw [← HM.out]; exact hlt))
    generalize L[k]'(by rw [← HM.out]; exact hlt) = x at *
    rw [mayB_span] at hmem
    obtain ⟨a, b⟩ := x
    simp only at hmem
    obtain ⟨m1, m2, m3, m4⟩ := hmem
    obtain ⟨q, rfl⟩ := Int.eq_ofNat_of_zero_le m2
    have hq : q ≤ s.size := by omega
    obtain ⟨c0, c1⟩ := owns_cell HO.out (halfway_at _ hLk)
    have hgl := (owns_block HO.out).2
    have HLk := Lib.hid hLk
    have Hst := Lib.hid (fun v hv => Hs.out q hq v hv)
    clear hLk
    have HT := Lib.hid (show toN s.data.toList way true (a, (q : Int)) = (stepN s.data.toList q way : Nat) by unfold toN; rw [if_pos (Or.inl rfl)]; rfl)
    generalize stepN s.data.toList q way = U at *
    go_wp2_with fail
    refine (Hst.out _ (h0.ext (hxr.alloc (.cells #[.int .i64 a, .int .i64 (q : Nat)] 47)))).mono ?_
    rintro e w6 ⟨rfl, y6⟩
    have hx6 := (hxr.alloc (.cells #[.int .i64 a, .int .i64 (q : Nat)] 47)).ext_trans y6
    have HO6 := Lib.hid (ownsRow_mod (ownsRow_mod HO.out (show Ext wr (wr.alloc (.cells #[.int .i64 a, .int .i64 (q : Nat)] 47)) from (Mod.refl _ wr).alloc _) (fun _ _ f => f)) y6 (fun _ _ f => f))
    clear c0 c1 y6 cr crl hgl
    obtain ⟨c0, c1⟩ := owns_cell HO6.out (halfway_at _ HLk.out)
    have g0 := owns_free HO6.out (k * 2)
    have g1 := owns_free HO6.out (k * 2 + 1)
    have hgl := (owns_block HO6.out).2
    go_wp2_with fail
    go_roundw
    case rel =>
     have hs := owns_setB HO6.out (halfway_at (turned s.data.toList way true) HLk.out) (U : Nat)
     rw [show (((a, (q : Int)) : Int × Int).1, ((U : Nat) : Int)) = turned s.data.toList way true (a, (q : Int)) by unfold turned; rw [HT.out]; rfl, halfway_step _ HLk.out] at hs
     exact ⟨k + 1, by omega, by go_num, Lib.hid hs, hx6.setCell (p := ⟨g, k * 2 + 1, none⟩) (fun h => absurd h (by simp; omega)) _⟩
    case measure => simp [intOf]; omega
   ·have hlt' : ¬ (k : Int) < (M : Int) := by omega
    obtain rfl : k = M := by omega
    have HO2 := HO.out
    rw [HM.out, halfway_all, ← HM.out] at HO2
    have hr2 := Reads.own HO2
    have hn2 := Hn2.out _ (by rw [List.length_map, ← HM.out]; exact hr2)
    rw [List.length_map, ← HM.out] at hn2
    have HN2 := Lib.hid hn2
    clear hn2 hr2 HO2
    go_wp2_with fail
    refine (Hl.out _ (h0.ext hxr)).mono ?_
    rintro e w8 ⟨rfl, rfl⟩
    go_wp2_with fail
    refine HN2.out.mono ?_
    rintro e w9 ⟨v9, rfl, hown9, y9⟩
    rw [Hag.out]
    obtain ⟨ao9, c9, rfl, _⟩ := owns_reads hown9
    have HR9 := Lib.hid (ownsRow_base hown9 (hx0.ext_trans hxr).size)
    clear hown9
    go_wp2_with fail
    go_ret2
    exact ⟨ao9, c9, by rw [Hgl.out, HE.out, HE0.out]; rfl, by rw [Hgl.out]; exact HR9.out, hx0.ext_trans (hxr.ext_trans y9)⟩
 ·have e1 : (normE s.size l == 0) = false := by simpa using hE
  have e2 : (normE s.size l != 0) = true := by simpa using hE
  have Hgl := Lib.hid (show goL s.data.toList way true l = [] by unfold goL; rw [toList_length, HE.out, if_neg hE])
  obtain ⟨ao3, cp3, rfl, _⟩ := owns_reads hown
  generalize normE s.size l = E at *
  clear hown
  go_wp2_with fail
  go_ret2
  exact ⟨none, 0, by rw [Hgl.out, HE.out]; rfl, by rw [Hgl.out]; exact World.ownsRow_nil _ _ _ _, hx0.ext_trans hx3⟩
theorem go_far (R : Rp) (s : ByteArray) (ao : Option Addr) (cap : Nat) (l : List (Int × Int)) (way : Int) (w : World) (hR : RopeAt w R) (ht : R.text = s.data.toList) (hr : Reads w 2 ao l.length (prCells l)) (hn : l.length ≤ 19) (h3 : 1 ≤ way) (h4 : way ≤ 10) (hw2 : 2 < way) :
  Calls Tryz.prog 60 #[.agg #[.pointer (some ⟨R.rb, 0, none⟩)], .int .i64 way, .bool false, .slice ao l.length cap] w (GoPost 47 (goL s.data.toList way false l) (goE s.size way l) w) := by
 have hx0 : Ext w (w.alloc (.cells #[.pointer (some ⟨R.rb, 0, none⟩)] 42)) := (Mod.refl _ w).alloc _
 have h0 := hR.ext hx0
 have hz := size_text ht
 have hsz := hR.size
 have hss : s.size ≤ 65536 := by omega
 have hm := may_yes ⟨R.rb, 0, none⟩ way (w.alloc (.cells #[.pointer (some ⟨R.rb, 0, none⟩)] 42)) h3 h4
 have hln := fun v (hv : RopeAt v R) => len_any R v hv
 rw [hz] at hln
 have htx := fun v (hv : RopeAt v R) => text_rope R v hv
 rw [bs_eq ht] at htx
 have hst := fun (q : Nat) (hq : q ≤ s.size) v (hv : RopeAt v R) => stepIn_any R s q way v hv ht hq h3 h4
 have Hl := Lib.hid hln
 have Ht := Lib.hid htx
 have Hs := Lib.hid hst
 have HE := Lib.hid (show goE s.size way l = normE s.size l by unfold goE; rw [if_pos ⟨h3, h4⟩])
 have Hn := Lib.hid (fun v hv => norm_any s.size ao cap l v hv hn)
 have Hr := Lib.hid hr
 clear hln htx hst ht hr hR hz hsz
 go_enter Tryz.func60, Tryz.ntmps60
 go_wp2_with fail
 refine hm.mono ?_
 rintro e w1 ⟨rfl, y1⟩
 have c := box_cell y1
 go_wp2_with fail
 refine (Hl.out _ (h0.ext y1)).mono ?_
 rintro e w2 ⟨rfl, rfl⟩
 go_wp2_with fail
 refine (Hn.out _ ((Hr.out.mod hx0 (fun _ _ f => f)).mod y1 (fun _ _ f => f))).mono ?_
 rintro e w3 ⟨v, rfl, hown, y3⟩
 have hx3 := y1.ext_trans y3
 have c3 := box_cell hx3
 clear c
 by_cases hE : normE s.size l = 0
 ·have Hgl := Lib.hid (show goL s.data.toList way false l = normL s.size ((normL s.size l).map (turned s.data.toList way false)) by
   unfold goL; rw [toList_length, HE.out, if_pos hE])
  have Hag := Lib.hid (show normE s.size ((normL s.size l).map (turned s.data.toList way false)) = 0 by
   have := go_again (t := s.data.toList) (way := way) (ext := false) (l := l) (by rw [toList_length]; exact hE)
   rwa [toList_length] at this)
  have Hin := Lib.hid (normL_in (n := s.size) (l := l))
  have hpos : 0 < (normL s.size l).length := by rw [normL_ok hE]; exact orderN_pos (normE_ok hE).1
  have hM : (normL s.size l).length ≤ 19 := Nat.le_trans (normL_len _ _) hn
  have HE0 := Lib.hid hE
  rw [hE]
  clear hE
  generalize normL s.size l = L at *
  obtain ⟨M, hMM⟩ : ∃ M, M = L.length := ⟨_, rfl⟩
  rw [← hMM] at hown hpos hM
  have HM := Lib.hid hMM
  obtain ⟨g, cp, rfl⟩ := owns_some hown hpos
  have hgB : w.heap.size + 1 ≤ g := by have h1 := (owns_block hown).1; have h2 := y1.size; simp at h2; omega
  have Ho3 := Lib.hid (ownsRow_base hown (b' := 0) (Nat.zero_le _))
  have Hn2 := Lib.hid (fun v hv => norm_any s.size (some ⟨g, 0, none⟩) cp (L.map (turned s.data.toList way false)) v hv (by rw [List.length_map, ← hMM]; exact hM))
  clear hown y3 hMM
  go_wp2_with fail
  refine (Ht.out _ (h0.ext hx3)).mono ?_
  rintro e w4 ⟨rfl, y4⟩
  have hx4 := hx3.ext_trans y4
  have Ho4 := Lib.hid (ownsRow_mod Ho3.out y4 (fun _ _ f => f))
  clear hx3 y4 c3 Ho3 y1
  go_wp2_with fail
  go_loopw [39] (fun i wr => ∃ k : Nat, k ≤ M ∧ i = .int .i64 k ∧ Hid (wr.ownsRow 0 47 2 (.slice (some ⟨g, 0, none⟩) M cp) M (prCells (halfway (turned s.data.toList way false) L k))) ∧ Ext (w.alloc (.cells #[.pointer (some ⟨R.rb, 0, none⟩)] 42)) wr) (fun i _ => M - (intOf i).toNat)
  case atStart => exact ⟨0, by omega, rfl, Ho4, hx4⟩
  case round =>
   obtain ⟨k, hk, rfl, HO, hxr⟩ := hrel
   clear hx4 Ho4
   have cr := box_cell hxr
   have crl := World.block_lt_of_cell? wr _ cr
   by_cases hlt : k < M
   ·have hlt' : (k : Int) < (M : Int) := by omega
    have hk0 : (0 : Int) ≤ (k : Int) := by omega
    have hk1 : (k : Int) ≤ 19 := by omega
    have hLk : L[k]? = some (L[k]'(by rw [← HM.out]; exact hlt)) := List.getElem?_eq_getElem _
    have hmem := Hin.out _ (List.getElem_mem (l := L) (by rw [← HM.out]; exact hlt))
    generalize L[k]'(by rw [← HM.out]; exact hlt) = x at *
    rw [mayB_span] at hmem
    obtain ⟨a, b⟩ := x
    simp only at hmem
    obtain ⟨m1, m2, m3, m4⟩ := hmem
    obtain ⟨q, rfl⟩ := Int.eq_ofNat_of_zero_le m2
    have hq : q ≤ s.size := by omega
    obtain ⟨c0, c1⟩ := owns_cell HO.out (halfway_at _ hLk)
    have hgl := (owns_block HO.out).2
    have HLk := Lib.hid hLk
    have Hst := Lib.hid (fun v hv => Hs.out q hq v hv)
    clear hLk
    have b3 : decide (2 < way) = true := decide_eq_true hw2
    by_cases hab : a = (q : Int)
    ·have b1 : (a == (q : Int)) = true := by simpa using hab
     have b2 : decide (a = (q : Int)) = true := decide_eq_true hab
     clear hab
     have HT := Lib.hid (show toN s.data.toList way false (a, (q : Int)) = (stepN s.data.toList q way : Nat) by unfold toN; rw [if_pos (Or.inr (Or.inr hw2))]; rfl)
     generalize stepN s.data.toList q way = U at *
     go_wp2_with fail
     refine (Hst.out _ (h0.ext (hxr.alloc (.cells #[.int .i64 a, .int .i64 (q : Nat)] 47)))).mono ?_
     rintro e w6 ⟨rfl, y6⟩
     have hx6 := (hxr.alloc (.cells #[.int .i64 a, .int .i64 (q : Nat)] 47)).ext_trans y6
     have HO6 := Lib.hid (ownsRow_mod (ownsRow_mod HO.out (show Ext wr (wr.alloc (.cells #[.int .i64 a, .int .i64 (q : Nat)] 47)) from (Mod.refl _ wr).alloc _) (fun _ _ f => f)) y6 (fun _ _ f => f))
     clear c0 c1 y6 cr crl hgl
     obtain ⟨c0, c1⟩ := owns_cell HO6.out (halfway_at _ HLk.out)
     have g0 := owns_free HO6.out (k * 2)
     have g1 := owns_free HO6.out (k * 2 + 1)
     have hgl := (owns_block HO6.out).2
     go_wp2_with fail
     go_roundw
     case rel =>
      have hs := owns_setA (owns_setB HO6.out (halfway_at (turned s.data.toList way false) HLk.out) U) (x := (a, U)) (List.getElem?_set_self (by rw [halfway_len]; have := HM.out; omega)) U
      rw [List.set_set, show ((U, ((a, U) : Int × Int).2) : Int × Int) = turned s.data.toList way false (a, (q : Int)) by unfold turned; rw [HT.out]; rfl, halfway_step _ HLk.out] at hs
      exact ⟨k + 1, by omega, by go_num, Lib.hid hs, (hx6.setCell (p := ⟨g, k * 2 + 1, none⟩) (fun h => absurd h (by simp; omega)) _).setCell (p := ⟨g, k * 2, none⟩) (fun h => absurd h (by simp; omega)) _⟩
     case measure => simp [intOf]; omega
    ·have b1 : (a == (q : Int)) = false := by simpa using hab
     have b2 : decide (a = (q : Int)) = false := decide_eq_false hab
     clear hab
     have HT := Lib.hid (show toN s.data.toList way false (a, (q : Int)) = (stepN s.data.toList q way : Nat) by unfold toN; rw [if_pos (Or.inr (Or.inr hw2))]; rfl)
     generalize stepN s.data.toList q way = U at *
     go_wp2_with fail
     refine (Hst.out _ (h0.ext (hxr.alloc (.cells #[.int .i64 a, .int .i64 (q : Nat)] 47)))).mono ?_
     rintro e w6 ⟨rfl, y6⟩
     have hx6 := (hxr.alloc (.cells #[.int .i64 a, .int .i64 (q : Nat)] 47)).ext_trans y6
     have HO6 := Lib.hid (ownsRow_mod (ownsRow_mod HO.out (show Ext wr (wr.alloc (.cells #[.int .i64 a, .int .i64 (q : Nat)] 47)) from (Mod.refl _ wr).alloc _) (fun _ _ f => f)) y6 (fun _ _ f => f))
     clear c0 c1 y6 cr crl hgl
     obtain ⟨c0, c1⟩ := owns_cell HO6.out (halfway_at _ HLk.out)
     have g0 := owns_free HO6.out (k * 2)
     have g1 := owns_free HO6.out (k * 2 + 1)
     have hgl := (owns_block HO6.out).2
     go_wp2_with fail
     go_roundw
     case rel =>
      have hs := owns_setA (owns_setB HO6.out (halfway_at (turned s.data.toList way false) HLk.out) U) (x := (a, U)) (List.getElem?_set_self (by rw [halfway_len]; have := HM.out; omega)) U
      rw [List.set_set, show ((U, ((a, U) : Int × Int).2) : Int × Int) = turned s.data.toList way false (a, (q : Int)) by unfold turned; rw [HT.out]; rfl, halfway_step _ HLk.out] at hs
      exact ⟨k + 1, by omega, by go_num, Lib.hid hs, (hx6.setCell (p := ⟨g, k * 2 + 1, none⟩) (fun h => absurd h (by simp; omega)) _).setCell (p := ⟨g, k * 2, none⟩) (fun h => absurd h (by simp; omega)) _⟩
     case measure => simp [intOf]; omega
   ·have hlt' : ¬ (k : Int) < (M : Int) := by omega
    obtain rfl : k = M := by omega
    have HO2 := HO.out
    rw [HM.out, halfway_all, ← HM.out] at HO2
    have hr2 := Reads.own HO2
    have hn2 := Hn2.out _ (by rw [List.length_map, ← HM.out]; exact hr2)
    rw [List.length_map, ← HM.out] at hn2
    have HN2 := Lib.hid hn2
    clear hn2 hr2 HO2
    go_wp2_with fail
    refine (Hl.out _ (h0.ext hxr)).mono ?_
    rintro e w8 ⟨rfl, rfl⟩
    go_wp2_with fail
    refine HN2.out.mono ?_
    rintro e w9 ⟨v9, rfl, hown9, y9⟩
    rw [Hag.out]
    obtain ⟨ao9, c9, rfl, _⟩ := owns_reads hown9
    have HR9 := Lib.hid (ownsRow_base hown9 (hx0.ext_trans hxr).size)
    clear hown9
    go_wp2_with fail
    go_ret2
    exact ⟨ao9, c9, by rw [Hgl.out, HE.out, HE0.out]; rfl, by rw [Hgl.out]; exact HR9.out, hx0.ext_trans (hxr.ext_trans y9)⟩
 ·have e1 : (normE s.size l == 0) = false := by simpa using hE
  have e2 : (normE s.size l != 0) = true := by simpa using hE
  have Hgl := Lib.hid (show goL s.data.toList way false l = [] by unfold goL; rw [toList_length, HE.out, if_neg hE])
  obtain ⟨ao3, cp3, rfl, _⟩ := owns_reads hown
  generalize normE s.size l = E at *
  clear hown
  go_wp2_with fail
  go_ret2
  exact ⟨none, 0, by rw [Hgl.out, HE.out]; rfl, by rw [Hgl.out]; exact World.ownsRow_nil _ _ _ _, hx0.ext_trans hx3⟩
theorem go_left (R : Rp) (s : ByteArray) (ao : Option Addr) (cap : Nat) (l : List (Int × Int)) (w : World) (hR : RopeAt w R) (ht : R.text = s.data.toList) (hr : Reads w 2 ao l.length (prCells l)) (hn : l.length ≤ 19) :
  Calls Tryz.prog 60 #[.agg #[.pointer (some ⟨R.rb, 0, none⟩)], .int .i64 1, .bool false, .slice ao l.length cap] w (GoPost 47 (goL s.data.toList 1 false l) (goE s.size 1 l) w) := by
 have h3 : (1 : Int) ≤ 1 := by omega
 have h4 : (1 : Int) ≤ 10 := by omega
 have hx0 : Ext w (w.alloc (.cells #[.pointer (some ⟨R.rb, 0, none⟩)] 42)) := (Mod.refl _ w).alloc _
 have h0 := hR.ext hx0
 have hz := size_text ht
 have hsz := hR.size
 have hss : s.size ≤ 65536 := by omega
 have hm := may_yes ⟨R.rb, 0, none⟩ 1 (w.alloc (.cells #[.pointer (some ⟨R.rb, 0, none⟩)] 42)) h3 h4
 have hln := fun v (hv : RopeAt v R) => len_any R v hv
 rw [hz] at hln
 have htx := fun v (hv : RopeAt v R) => text_rope R v hv
 rw [bs_eq ht] at htx
 have hst := fun (q : Nat) (hq : q ≤ s.size) v (hv : RopeAt v R) => stepIn_any R s q 1 v hv ht hq h3 h4
 have Hl := Lib.hid hln
 have Ht := Lib.hid htx
 have Hs := Lib.hid hst
 have HE := Lib.hid (show goE s.size 1 l = normE s.size l by unfold goE; rw [if_pos ⟨h3, h4⟩])
 have Hn := Lib.hid (fun v hv => norm_any s.size ao cap l v hv hn)
 have Hr := Lib.hid hr
 clear hln htx hst ht hr hR hz hsz
 go_enter Tryz.func60, Tryz.ntmps60
 go_wp2_with fail
 refine hm.mono ?_
 rintro e w1 ⟨rfl, y1⟩
 have c := box_cell y1
 go_wp2_with fail
 refine (Hl.out _ (h0.ext y1)).mono ?_
 rintro e w2 ⟨rfl, rfl⟩
 go_wp2_with fail
 refine (Hn.out _ ((Hr.out.mod hx0 (fun _ _ f => f)).mod y1 (fun _ _ f => f))).mono ?_
 rintro e w3 ⟨v, rfl, hown, y3⟩
 have hx3 := y1.ext_trans y3
 have c3 := box_cell hx3
 clear c
 by_cases hE : normE s.size l = 0
 ·have Hgl := Lib.hid (show goL s.data.toList 1 false l = normL s.size ((normL s.size l).map (turned s.data.toList 1 false)) by
   unfold goL; rw [toList_length, HE.out, if_pos hE])
  have Hag := Lib.hid (show normE s.size ((normL s.size l).map (turned s.data.toList 1 false)) = 0 by
   have := go_again (t := s.data.toList) (way := 1) (ext := false) (l := l) (by rw [toList_length]; exact hE)
   rwa [toList_length] at this)
  have Hin := Lib.hid (normL_in (n := s.size) (l := l))
  have hpos : 0 < (normL s.size l).length := by rw [normL_ok hE]; exact orderN_pos (normE_ok hE).1
  have hM : (normL s.size l).length ≤ 19 := Nat.le_trans (normL_len _ _) hn
  have HE0 := Lib.hid hE
  rw [hE]
  clear hE
  generalize normL s.size l = L at *
  obtain ⟨M, hMM⟩ : ∃ M, M = L.length := ⟨_, rfl⟩
  rw [← hMM] at hown hpos hM
  have HM := Lib.hid hMM
  obtain ⟨g, cp, rfl⟩ := owns_some hown hpos
  have hgB : w.heap.size + 1 ≤ g := by have h1 := (owns_block hown).1; have h2 := y1.size; simp at h2; omega
  have Ho3 := Lib.hid (ownsRow_base hown (b' := 0) (Nat.zero_le _))
  have Hn2 := Lib.hid (fun v hv => norm_any s.size (some ⟨g, 0, none⟩) cp (L.map (turned s.data.toList 1 false)) v hv (by rw [List.length_map, ← hMM]; exact hM))
  clear hown y3 hMM
  go_wp2_with fail
  refine (Ht.out _ (h0.ext hx3)).mono ?_
  rintro e w4 ⟨rfl, y4⟩
  have hx4 := hx3.ext_trans y4
  have Ho4 := Lib.hid (ownsRow_mod Ho3.out y4 (fun _ _ f => f))
  clear hx3 y4 c3 Ho3 y1
  go_wp2_with fail
  go_loopw [39] (fun i wr => ∃ k : Nat, k ≤ M ∧ i = .int .i64 k ∧ Hid (wr.ownsRow 0 47 2 (.slice (some ⟨g, 0, none⟩) M cp) M (prCells (halfway (turned s.data.toList 1 false) L k))) ∧ Ext (w.alloc (.cells #[.pointer (some ⟨R.rb, 0, none⟩)] 42)) wr) (fun i _ => M - (intOf i).toNat)
  case atStart => exact ⟨0, by omega, rfl, Ho4, hx4⟩
  case round =>
   obtain ⟨k, hk, rfl, HO, hxr⟩ := hrel
   clear hx4 Ho4
   have cr := box_cell hxr
   have crl := World.block_lt_of_cell? wr _ cr
   by_cases hlt : k < M
   ·have hlt' : (k : Int) < (M : Int) := by omega
    have hk0 : (0 : Int) ≤ (k : Int) := by omega
    have hk1 : (k : Int) ≤ 19 := by omega
    have hLk : L[k]? = some (L[k]'(by rw [← HM.out]; exact hlt)) := List.getElem?_eq_getElem _
    have hmem := Hin.out _ (List.getElem_mem (l := L) (by rw [← HM.out]; exact hlt))
    generalize L[k]'(by rw [← HM.out]; exact hlt) = x at *
    rw [mayB_span] at hmem
    obtain ⟨a, b⟩ := x
    simp only at hmem
    obtain ⟨m1, m2, m3, m4⟩ := hmem
    obtain ⟨q, rfl⟩ := Int.eq_ofNat_of_zero_le m2
    have hq : q ≤ s.size := by omega
    obtain ⟨c0, c1⟩ := owns_cell HO.out (halfway_at _ hLk)
    have hgl := (owns_block HO.out).2
    have HLk := Lib.hid hLk
    have Hst := Lib.hid (fun v hv => Hs.out q hq v hv)
    clear hLk
    by_cases hab : a = (q : Int)
    ·have b1 : (a == (q : Int)) = true := by simpa using hab
     have b2 : decide (a = (q : Int)) = true := decide_eq_true hab
     have HT := Lib.hid (show toN s.data.toList 1 false (a, (q : Int)) = (stepN s.data.toList q 1 : Nat) by unfold toN; rw [if_pos (Or.inr (Or.inl hab))]; rfl)
     generalize stepN s.data.toList q 1 = U at *
     clear hab
     go_wp2_with fail
     refine (Hst.out _ (h0.ext (hxr.alloc (.cells #[.int .i64 a, .int .i64 (q : Nat)] 47)))).mono ?_
     rintro e w6 ⟨rfl, y6⟩
     have hx6 := (hxr.alloc (.cells #[.int .i64 a, .int .i64 (q : Nat)] 47)).ext_trans y6
     have HO6 := Lib.hid (ownsRow_mod (ownsRow_mod HO.out (show Ext wr (wr.alloc (.cells #[.int .i64 a, .int .i64 (q : Nat)] 47)) from (Mod.refl _ wr).alloc _) (fun _ _ f => f)) y6 (fun _ _ f => f))
     clear c0 c1 y6 cr crl hgl
     obtain ⟨c0, c1⟩ := owns_cell HO6.out (halfway_at _ HLk.out)
     have g0 := owns_free HO6.out (k * 2)
     have g1 := owns_free HO6.out (k * 2 + 1)
     have hgl := (owns_block HO6.out).2
     go_wp2_with fail
     go_roundw
     case rel =>
      have hs := owns_setA (owns_setB HO6.out (halfway_at (turned s.data.toList 1 false) HLk.out) U) (x := (a, U)) (List.getElem?_set_self (by rw [halfway_len]; have := HM.out; omega)) U
      rw [List.set_set, show ((U, ((a, U) : Int × Int).2) : Int × Int) = turned s.data.toList 1 false (a, (q : Int)) by unfold turned; rw [HT.out]; rfl, halfway_step _ HLk.out] at hs
      exact ⟨k + 1, by omega, by go_num, Lib.hid hs, (hx6.setCell (p := ⟨g, k * 2 + 1, none⟩) (fun h => absurd h (by simp; omega)) _).setCell (p := ⟨g, k * 2, none⟩) (fun h => absurd h (by simp; omega)) _⟩
     case measure => simp [intOf]; omega
    ·have b1 : (a == (q : Int)) = false := by simpa using hab
     have b2 : decide (a = (q : Int)) = false := decide_eq_false hab
     have HT := Lib.hid (show toN s.data.toList 1 false (a, (q : Int)) = (spanI (a, (q : Int))).1 by unfold toN; rw [if_neg (by simp; exact hab)]; rfl)
     have f0 := fun v => fld0 (spanI (a, (q : Int))).1 (spanI (a, (q : Int))).2 v
     have hsp := fun v => span_any (a, (q : Int)) v
     generalize spanI (a, (q : Int)) = V at *
     have Hsp := Lib.hid hsp
     clear hab hsp
     go_wp2_with fail
     refine (Hsp.out _).mono ?_
     rintro e w6 ⟨rfl, y6⟩
     generalize V.1 = U at *
     have hx6 := (hxr.alloc (.cells #[.int .i64 a, .int .i64 (q : Nat)] 47)).ext_trans y6
     have HO6 := Lib.hid (ownsRow_mod (ownsRow_mod HO.out (show Ext wr (wr.alloc (.cells #[.int .i64 a, .int .i64 (q : Nat)] 47)) from (Mod.refl _ wr).alloc _) (fun _ _ f => f)) y6 (fun _ _ f => f))
     clear c0 c1 y6 cr crl hgl
     obtain ⟨c0, c1⟩ := owns_cell HO6.out (halfway_at _ HLk.out)
     have g0 := owns_free HO6.out (k * 2)
     have g1 := owns_free HO6.out (k * 2 + 1)
     have hgl := (owns_block HO6.out).2
     go_wp2_with fail
     go_roundw
     case rel =>
      have hs := owns_setA (owns_setB HO6.out (halfway_at (turned s.data.toList 1 false) HLk.out) U) (x := (a, U)) (List.getElem?_set_self (by rw [halfway_len]; have := HM.out; omega)) U
      rw [List.set_set, show ((U, ((a, U) : Int × Int).2) : Int × Int) = turned s.data.toList 1 false (a, (q : Int)) by unfold turned; rw [HT.out]; rfl, halfway_step _ HLk.out] at hs
      exact ⟨k + 1, by omega, by go_num, Lib.hid hs, (hx6.setCell (p := ⟨g, k * 2 + 1, none⟩) (fun h => absurd h (by simp; omega)) _).setCell (p := ⟨g, k * 2, none⟩) (fun h => absurd h (by simp; omega)) _⟩
     case measure => simp [intOf]; omega
   ·have hlt' : ¬ (k : Int) < (M : Int) := by omega
    obtain rfl : k = M := by omega
    have HO2 := HO.out
    rw [HM.out, halfway_all, ← HM.out] at HO2
    have hr2 := Reads.own HO2
    have hn2 := Hn2.out _ (by rw [List.length_map, ← HM.out]; exact hr2)
    rw [List.length_map, ← HM.out] at hn2
    have HN2 := Lib.hid hn2
    clear hn2 hr2 HO2
    go_wp2_with fail
    refine (Hl.out _ (h0.ext hxr)).mono ?_
    rintro e w8 ⟨rfl, rfl⟩
    go_wp2_with fail
    refine HN2.out.mono ?_
    rintro e w9 ⟨v9, rfl, hown9, y9⟩
    rw [Hag.out]
    obtain ⟨ao9, c9, rfl, _⟩ := owns_reads hown9
    have HR9 := Lib.hid (ownsRow_base hown9 (hx0.ext_trans hxr).size)
    clear hown9
    go_wp2_with fail
    go_ret2
    exact ⟨ao9, c9, by rw [Hgl.out, HE.out, HE0.out]; rfl, by rw [Hgl.out]; exact HR9.out, hx0.ext_trans (hxr.ext_trans y9)⟩
 ·have e1 : (normE s.size l == 0) = false := by simpa using hE
  have e2 : (normE s.size l != 0) = true := by simpa using hE
  have Hgl := Lib.hid (show goL s.data.toList 1 false l = [] by unfold goL; rw [toList_length, HE.out, if_neg hE])
  obtain ⟨ao3, cp3, rfl, _⟩ := owns_reads hown
  generalize normE s.size l = E at *
  clear hown
  go_wp2_with fail
  go_ret2
  exact ⟨none, 0, by rw [Hgl.out, HE.out]; rfl, by rw [Hgl.out]; exact World.ownsRow_nil _ _ _ _, hx0.ext_trans hx3⟩
theorem go_right (R : Rp) (s : ByteArray) (ao : Option Addr) (cap : Nat) (l : List (Int × Int)) (w : World) (hR : RopeAt w R) (ht : R.text = s.data.toList) (hr : Reads w 2 ao l.length (prCells l)) (hn : l.length ≤ 19) :
  Calls Tryz.prog 60 #[.agg #[.pointer (some ⟨R.rb, 0, none⟩)], .int .i64 2, .bool false, .slice ao l.length cap] w (GoPost 47 (goL s.data.toList 2 false l) (goE s.size 2 l) w) := by
 have h3 : (1 : Int) ≤ 2 := by omega
 have h4 : (2 : Int) ≤ 10 := by omega
 have hx0 : Ext w (w.alloc (.cells #[.pointer (some ⟨R.rb, 0, none⟩)] 42)) := (Mod.refl _ w).alloc _
 have h0 := hR.ext hx0
 have hz := size_text ht
 have hsz := hR.size
 have hss : s.size ≤ 65536 := by omega
 have hm := may_yes ⟨R.rb, 0, none⟩ 2 (w.alloc (.cells #[.pointer (some ⟨R.rb, 0, none⟩)] 42)) h3 h4
 have hln := fun v (hv : RopeAt v R) => len_any R v hv
 rw [hz] at hln
 have htx := fun v (hv : RopeAt v R) => text_rope R v hv
 rw [bs_eq ht] at htx
 have hst := fun (q : Nat) (hq : q ≤ s.size) v (hv : RopeAt v R) => stepIn_any R s q 2 v hv ht hq h3 h4
 have Hl := Lib.hid hln
 have Ht := Lib.hid htx
 have Hs := Lib.hid hst
 have HE := Lib.hid (show goE s.size 2 l = normE s.size l by unfold goE; rw [if_pos ⟨h3, h4⟩])
 have Hn := Lib.hid (fun v hv => norm_any s.size ao cap l v hv hn)
 have Hr := Lib.hid hr
 clear hln htx hst ht hr hR hz hsz
 go_enter Tryz.func60, Tryz.ntmps60
 go_wp2_with fail
 refine hm.mono ?_
 rintro e w1 ⟨rfl, y1⟩
 have c := box_cell y1
 go_wp2_with fail
 refine (Hl.out _ (h0.ext y1)).mono ?_
 rintro e w2 ⟨rfl, rfl⟩
 go_wp2_with fail
 refine (Hn.out _ ((Hr.out.mod hx0 (fun _ _ f => f)).mod y1 (fun _ _ f => f))).mono ?_
 rintro e w3 ⟨v, rfl, hown, y3⟩
 have hx3 := y1.ext_trans y3
 have c3 := box_cell hx3
 clear c
 by_cases hE : normE s.size l = 0
 ·have Hgl := Lib.hid (show goL s.data.toList 2 false l = normL s.size ((normL s.size l).map (turned s.data.toList 2 false)) by
   unfold goL; rw [toList_length, HE.out, if_pos hE])
  have Hag := Lib.hid (show normE s.size ((normL s.size l).map (turned s.data.toList 2 false)) = 0 by
   have := go_again (t := s.data.toList) (way := 2) (ext := false) (l := l) (by rw [toList_length]; exact hE)
   rwa [toList_length] at this)
  have Hin := Lib.hid (normL_in (n := s.size) (l := l))
  have hpos : 0 < (normL s.size l).length := by rw [normL_ok hE]; exact orderN_pos (normE_ok hE).1
  have hM : (normL s.size l).length ≤ 19 := Nat.le_trans (normL_len _ _) hn
  have HE0 := Lib.hid hE
  rw [hE]
  clear hE
  generalize normL s.size l = L at *
  obtain ⟨M, hMM⟩ : ∃ M, M = L.length := ⟨_, rfl⟩
  rw [← hMM] at hown hpos hM
  have HM := Lib.hid hMM
  obtain ⟨g, cp, rfl⟩ := owns_some hown hpos
  have hgB : w.heap.size + 1 ≤ g := by have h1 := (owns_block hown).1; have h2 := y1.size; simp at h2; omega
  have Ho3 := Lib.hid (ownsRow_base hown (b' := 0) (Nat.zero_le _))
  have Hn2 := Lib.hid (fun v hv => norm_any s.size (some ⟨g, 0, none⟩) cp (L.map (turned s.data.toList 2 false)) v hv (by rw [List.length_map, ← hMM]; exact hM))
  clear hown y3 hMM
  go_wp2_with fail
  refine (Ht.out _ (h0.ext hx3)).mono ?_
  rintro e w4 ⟨rfl, y4⟩
  have hx4 := hx3.ext_trans y4
  have Ho4 := Lib.hid (ownsRow_mod Ho3.out y4 (fun _ _ f => f))
  clear hx3 y4 c3 Ho3 y1
  go_wp2_with fail
  go_loopw [39] (fun i wr => ∃ k : Nat, k ≤ M ∧ i = .int .i64 k ∧ Hid (wr.ownsRow 0 47 2 (.slice (some ⟨g, 0, none⟩) M cp) M (prCells (halfway (turned s.data.toList 2 false) L k))) ∧ Ext (w.alloc (.cells #[.pointer (some ⟨R.rb, 0, none⟩)] 42)) wr) (fun i _ => M - (intOf i).toNat)
  case atStart => exact ⟨0, by omega, rfl, Ho4, hx4⟩
  case round =>
   obtain ⟨k, hk, rfl, HO, hxr⟩ := hrel
   clear hx4 Ho4
   have cr := box_cell hxr
   have crl := World.block_lt_of_cell? wr _ cr
   by_cases hlt : k < M
   ·have hlt' : (k : Int) < (M : Int) := by omega
    have hk0 : (0 : Int) ≤ (k : Int) := by omega
    have hk1 : (k : Int) ≤ 19 := by omega
    have hLk : L[k]? = some (L[k]'(by rw [← HM.out]; exact hlt)) := List.getElem?_eq_getElem _
    have hmem := Hin.out _ (List.getElem_mem (l := L) (by rw [← HM.out]; exact hlt))
    generalize L[k]'(by rw [← HM.out]; exact hlt) = x at *
    rw [mayB_span] at hmem
    obtain ⟨a, b⟩ := x
    simp only at hmem
    obtain ⟨m1, m2, m3, m4⟩ := hmem
    obtain ⟨q, rfl⟩ := Int.eq_ofNat_of_zero_le m2
    have hq : q ≤ s.size := by omega
    obtain ⟨c0, c1⟩ := owns_cell HO.out (halfway_at _ hLk)
    have hgl := (owns_block HO.out).2
    have HLk := Lib.hid hLk
    have Hst := Lib.hid (fun v hv => Hs.out q hq v hv)
    clear hLk
    by_cases hab : a = (q : Int)
    ·have b1 : (a == (q : Int)) = true := by simpa using hab
     have b2 : decide (a = (q : Int)) = true := decide_eq_true hab
     have HT := Lib.hid (show toN s.data.toList 2 false (a, (q : Int)) = (stepN s.data.toList q 2 : Nat) by unfold toN; rw [if_pos (Or.inr (Or.inl hab))]; rfl)
     generalize stepN s.data.toList q 2 = U at *
     clear hab
     go_wp2_with fail
     refine (Hst.out _ (h0.ext (hxr.alloc (.cells #[.int .i64 a, .int .i64 (q : Nat)] 47)))).mono ?_
     rintro e w6 ⟨rfl, y6⟩
     have hx6 := (hxr.alloc (.cells #[.int .i64 a, .int .i64 (q : Nat)] 47)).ext_trans y6
     have HO6 := Lib.hid (ownsRow_mod (ownsRow_mod HO.out (show Ext wr (wr.alloc (.cells #[.int .i64 a, .int .i64 (q : Nat)] 47)) from (Mod.refl _ wr).alloc _) (fun _ _ f => f)) y6 (fun _ _ f => f))
     clear c0 c1 y6 cr crl hgl
     obtain ⟨c0, c1⟩ := owns_cell HO6.out (halfway_at _ HLk.out)
     have g0 := owns_free HO6.out (k * 2)
     have g1 := owns_free HO6.out (k * 2 + 1)
     have hgl := (owns_block HO6.out).2
     go_wp2_with fail
     go_roundw
     case rel =>
      have hs := owns_setA (owns_setB HO6.out (halfway_at (turned s.data.toList 2 false) HLk.out) U) (x := (a, U)) (List.getElem?_set_self (by rw [halfway_len]; have := HM.out; omega)) U
      rw [List.set_set, show ((U, ((a, U) : Int × Int).2) : Int × Int) = turned s.data.toList 2 false (a, (q : Int)) by unfold turned; rw [HT.out]; rfl, halfway_step _ HLk.out] at hs
      exact ⟨k + 1, by omega, by go_num, Lib.hid hs, (hx6.setCell (p := ⟨g, k * 2 + 1, none⟩) (fun h => absurd h (by simp; omega)) _).setCell (p := ⟨g, k * 2, none⟩) (fun h => absurd h (by simp; omega)) _⟩
     case measure => simp [intOf]; omega
    ·have b1 : (a == (q : Int)) = false := by simpa using hab
     have b2 : decide (a = (q : Int)) = false := decide_eq_false hab
     have HT := Lib.hid (show toN s.data.toList 2 false (a, (q : Int)) = (spanI (a, (q : Int))).2 by unfold toN; rw [if_neg (by simp; exact hab)]; rfl)
     have f0 := fun v => fld1 (spanI (a, (q : Int))).1 (spanI (a, (q : Int))).2 v
     have hsp := fun v => span_any (a, (q : Int)) v
     generalize spanI (a, (q : Int)) = V at *
     have Hsp := Lib.hid hsp
     clear hab hsp
     go_wp2_with fail
     refine (Hsp.out _).mono ?_
     rintro e w6 ⟨rfl, y6⟩
     generalize V.2 = U at *
     have hx6 := (hxr.alloc (.cells #[.int .i64 a, .int .i64 (q : Nat)] 47)).ext_trans y6
     have HO6 := Lib.hid (ownsRow_mod (ownsRow_mod HO.out (show Ext wr (wr.alloc (.cells #[.int .i64 a, .int .i64 (q : Nat)] 47)) from (Mod.refl _ wr).alloc _) (fun _ _ f => f)) y6 (fun _ _ f => f))
     clear c0 c1 y6 cr crl hgl
     obtain ⟨c0, c1⟩ := owns_cell HO6.out (halfway_at _ HLk.out)
     have g0 := owns_free HO6.out (k * 2)
     have g1 := owns_free HO6.out (k * 2 + 1)
     have hgl := (owns_block HO6.out).2
     go_wp2_with fail
     go_roundw
     case rel =>
      have hs := owns_setA (owns_setB HO6.out (halfway_at (turned s.data.toList 2 false) HLk.out) U) (x := (a, U)) (List.getElem?_set_self (by rw [halfway_len]; have := HM.out; omega)) U
      rw [List.set_set, show ((U, ((a, U) : Int × Int).2) : Int × Int) = turned s.data.toList 2 false (a, (q : Int)) by unfold turned; rw [HT.out]; rfl, halfway_step _ HLk.out] at hs
      exact ⟨k + 1, by omega, by go_num, Lib.hid hs, (hx6.setCell (p := ⟨g, k * 2 + 1, none⟩) (fun h => absurd h (by simp; omega)) _).setCell (p := ⟨g, k * 2, none⟩) (fun h => absurd h (by simp; omega)) _⟩
     case measure => simp [intOf]; omega
   ·have hlt' : ¬ (k : Int) < (M : Int) := by omega
    obtain rfl : k = M := by omega
    have HO2 := HO.out
    rw [HM.out, halfway_all, ← HM.out] at HO2
    have hr2 := Reads.own HO2
    have hn2 := Hn2.out _ (by rw [List.length_map, ← HM.out]; exact hr2)
    rw [List.length_map, ← HM.out] at hn2
    have HN2 := Lib.hid hn2
    clear hn2 hr2 HO2
    go_wp2_with fail
    refine (Hl.out _ (h0.ext hxr)).mono ?_
    rintro e w8 ⟨rfl, rfl⟩
    go_wp2_with fail
    refine HN2.out.mono ?_
    rintro e w9 ⟨v9, rfl, hown9, y9⟩
    rw [Hag.out]
    obtain ⟨ao9, c9, rfl, _⟩ := owns_reads hown9
    have HR9 := Lib.hid (ownsRow_base hown9 (hx0.ext_trans hxr).size)
    clear hown9
    go_wp2_with fail
    go_ret2
    exact ⟨ao9, c9, by rw [Hgl.out, HE.out, HE0.out]; rfl, by rw [Hgl.out]; exact HR9.out, hx0.ext_trans (hxr.ext_trans y9)⟩
 ·have e1 : (normE s.size l == 0) = false := by simpa using hE
  have e2 : (normE s.size l != 0) = true := by simpa using hE
  have Hgl := Lib.hid (show goL s.data.toList 2 false l = [] by unfold goL; rw [toList_length, HE.out, if_neg hE])
  obtain ⟨ao3, cp3, rfl, _⟩ := owns_reads hown
  generalize normE s.size l = E at *
  clear hown
  go_wp2_with fail
  go_ret2
  exact ⟨none, 0, by rw [Hgl.out, HE.out]; rfl, by rw [Hgl.out]; exact World.ownsRow_nil _ _ _ _, hx0.ext_trans hx3⟩
theorem go_any (R : Rp) (s : ByteArray) (ao : Option Addr) (cap : Nat) (l : List (Int × Int)) (way : Int) (ext : Bool) (w : World) (hR : RopeAt w R) (ht : R.text = s.data.toList) (hr : Reads w 2 ao l.length (prCells l)) (hn : l.length ≤ 19) :
  Calls Tryz.prog 60 #[.agg #[.pointer (some ⟨R.rb, 0, none⟩)], .int .i64 way, .bool ext, .slice ao l.length cap] w (GoPost 47 (goL s.data.toList way ext l) (goE s.size way l) w) := by
 by_cases hw : 1 ≤ way ∧ way ≤ 10
 ·cases ext with
  | true => exact go_ext R s ao cap l way w hR ht hr hn hw.1 hw.2
  | false =>
   by_cases h2 : 2 < way
   ·exact go_far R s ao cap l way w hR ht hr hn hw.1 hw.2 h2
   ·by_cases h1 : way = 1
    ·subst h1; exact go_left R s ao cap l w hR ht hr hn
    ·obtain rfl : way = 2 := by omega
     exact go_right R s ao cap l w hR ht hr hn
 ·have e1 : goE s.size way l = 2 := by unfold goE; rw [if_neg hw]
  have e2 : goL s.data.toList way ext l = [] := by unfold goL goE; rw [if_neg hw]; rfl
  rw [e1, e2]
  exact go_way _ way ext ao l.length cap w hw
theorem refSpan_any (x : Int × Int) (w : World) : Calls Tryz.prog 92 #[.agg #[.int .i64 x.1, .int .i64 x.2]] w fun e w' => e = .returned (.agg #[.int .i64 (spanI x).1, .int .i64 (spanI x).2]) ∧ Ext w w' := by
 obtain ⟨p, q⟩ := x
 simp only [spanI]
 by_cases h : p < q
 ·rw [show min p q = p by omega, show max p q = q by omega]
  have h1 : ¬ q < p := by omega
  have h4 : ¬ q ≤ p := by omega
  have h5 : p ≤ q := by omega
  go_enter Tryz.func92, Tryz.ntmps92
  go_wp2_with fail
  go_returns
  exact ⟨rfl, ((Mod.refl _ w).alloc _).alloc _⟩
 ·by_cases h0 : p = q
  ·subst h0
   rw [show min p p = p by omega, show max p p = p by omega]
   have h1 : p ≤ p := Int.le_refl _
   have h2 : ¬ p < p := by omega
   go_enter Tryz.func92, Tryz.ntmps92
   go_wp2_with fail
   go_returns
   exact ⟨rfl, ((Mod.refl _ w).alloc _).alloc _⟩
  ·have h1 : q < p := by omega
   have h2 : ¬ p ≤ q := by omega
   have h3 : q ≤ p := by omega
   rw [show min p q = q by omega, show max p q = p by omega]
   clear h h0
   go_enter Tryz.func92, Tryz.ntmps92
   go_wp2_with fail
   go_returns
   exact ⟨rfl, ((Mod.refl _ w).alloc _).alloc _⟩
theorem refTouch_any (x y : Int × Int) (w : World) : Calls Tryz.prog 135 #[.agg #[.int .i64 x.1, .int .i64 x.2], .agg #[.int .i64 y.1, .int .i64 y.2]] w fun e w' => e = .returned (.bool (touchB x y)) ∧ Ext w w' := by
 obtain ⟨a, b⟩ := x
 obtain ⟨c, d⟩ := y
 simp only [touchB]
 go_enter Tryz.func135, Tryz.ntmps135
 go_wp2_with fail
 all_goals
  go_ret
  exact ⟨ret_bool (by rw [decide_eq_decide]; omega), ((Mod.refl _ w).alloc _).alloc _⟩
theorem refMay_any (x : Int × Int) (n : Int) (w : World) : Calls Tryz.prog 95 #[.agg #[.int .i64 x.1, .int .i64 x.2], .int .i64 n] w fun e w' => e = .returned (.bool (mayB x n)) ∧ Ext w w' := by
 obtain ⟨p, q⟩ := x
 simp only [mayB]
 go_enter Tryz.func95, Tryz.ntmps95
 go_wp2_with fail
 all_goals
  go_ret
  exact ⟨ret_bool (by rw [Bool.eq_iff_iff]; simp; try omega), (Mod.refl _ w).alloc _⟩
theorem refLess_any (x y : Int × Int) (w : World) : Calls Tryz.prog 136 #[.agg #[.int .i64 x.1, .int .i64 x.2], .agg #[.int .i64 y.1, .int .i64 y.2]] w fun e w' => e = .returned (.bool (lessB x y)) ∧ Ext w w' := by
 obtain ⟨a, b⟩ := x
 obtain ⟨c, d⟩ := y
 simp only [lessB]
 by_cases h1 : a < c
 ·rw [decide_eq_true (Or.inl h1)]
  go_enter Tryz.func136, Tryz.ntmps136
  go_wp2_with fail
  go_ret
  exact ⟨rfl, ((Mod.refl _ w).alloc _).alloc _⟩
 ·by_cases h2 : a = c
  ·have e1 : decide (a < c ∨ a = c ∧ b < d) = decide (b < d) := by rw [decide_eq_decide]; omega
   rw [e1]
   have b2 : (a == c) = true := by simpa using h2
   have b1 : decide (a < c) = false := decide_eq_false h1
   clear h1 h2 e1
   go_enter Tryz.func136, Tryz.ntmps136
   go_wp2_with fail
   go_ret
   exact ⟨rfl, ((Mod.refl _ w).alloc _).alloc _⟩
  ·rw [decide_eq_false (by omega)]
   have b2 : (a == c) = false := by simpa using h2
   have b1 : decide (a < c) = false := decide_eq_false h1
   clear h1 h2
   go_enter Tryz.func136, Tryz.ntmps136
   go_wp2_with fail
   go_ret
   exact ⟨rfl, ((Mod.refl _ w).alloc _).alloc _⟩
def ofS (x : Int × Int) (back : Bool) : Int × Int := if back then (x.2, x.1) else (x.1, x.2)
theorem refOfS_any (x : Int × Int) (back : Bool) (w : World) : Calls Tryz.prog 137 #[.agg #[.int .i64 x.1, .int .i64 x.2], .bool back] w fun e w' => e = .returned (.agg #[.int .i64 (ofS x back).1, .int .i64 (ofS x back).2]) ∧ Ext w w' := by
 cases back with
 | true =>
  show Calls _ _ _ _ fun e w' => e = .returned (.agg #[.int .i64 x.2, .int .i64 x.1]) ∧ Ext w w'
  go_enter Tryz.func137, Tryz.ntmps137
  go_wp2_with fail
  go_returns
  exact ⟨rfl, ((Mod.refl _ w).alloc _).alloc _⟩
 | false =>
  show Calls _ _ _ _ fun e w' => e = .returned (.agg #[.int .i64 x.1, .int .i64 x.2]) ∧ Ext w w'
  go_enter Tryz.func137, Tryz.ntmps137
  go_wp2_with fail
  go_returns
  exact ⟨rfl, ((Mod.refl _ w).alloc _).alloc _⟩
end Go.Proofs.YthlmgoagnfkhdaaGreat

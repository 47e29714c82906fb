/- Variables set: vars.Set. Conditions: at most 100000 variables. -/
import Derived.Test.YtmecdhbiinpepaaDoorGimPackX
import Derived.Test.YtmecdhbiinpepaaDoorGimName
namespace Go.Gim
/-- What Set answers: a new row, the fault. -/
def SetPost (T : TypeId) (n v : ByteArray) (l : List Pv) (w : World) (e : Ending) (w' : World) : Prop :=
  ∃ r, e = .returned (.tuple #[r, .int .i64 (setE n v l)]) ∧ w'.ownsRow w.heap.size T 2 r (setL n v l).length (spCells (setL n v l)) ∧ Ext w w'
theorem setE_arg {n v : ByteArray} {l : List Pv} (h : nameL n.data.toList = false) : setE n v l = 2 := if_pos h
theorem setE_size {n v : ByteArray} {l : List Pv} (h : nameL n.data.toList = true) (h2 : 65536 < v.size) : setE n v l = 4 := by
  unfold setE; rw [if_neg (by rw [h]; decide), if_pos h2]
theorem setE_put {n v : ByteArray} {l : List Pv} (h : nameL n.data.toList = true) (h2 : ¬ 65536 < v.size) (h3 : idxV n l < l.length) : setE n v l = 0 ∧ setL n v l = l.set (idxV n l) (n, v) := by
  have : setE n v l = 0 := by unfold setE; rw [if_neg (by rw [h]; decide), if_neg h2, if_pos h3]
  exact ⟨this, by unfold setL putV; rw [if_pos this, if_pos h3]⟩
theorem setE_full {n v : ByteArray} {l : List Pv} (h : nameL n.data.toList = true) (h2 : ¬ 65536 < v.size) (h3 : ¬ idxV n l < l.length) (h4 : 64 ≤ l.length) : setE n v l = 7 := by
  unfold setE; rw [if_neg (by rw [h]; decide), if_neg h2, if_neg h3, if_pos h4]
theorem setE_add {n v : ByteArray} {l : List Pv} (h : nameL n.data.toList = true) (h2 : ¬ 65536 < v.size) (h3 : ¬ idxV n l < l.length) (h4 : ¬ 64 ≤ l.length) : setE n v l = 0 ∧ setL n v l = l ++ [(n, v)] := by
  have : setE n v l = 0 := by unfold setE; rw [if_neg (by rw [h]; decide), if_neg h2, if_neg h3, if_neg h4]
  exact ⟨this, by unfold setL putV; rw [if_pos this, if_neg h3]⟩
theorem setL_no {n v : ByteArray} {l : List Pv} (h : setE n v l ≠ 0) : setL n v l = [] := if_neg h
end Go.Gim
namespace Go.Proofs.YtmecdhbiinpepaaDoor
open Go.RowKit Go.Gim

set_option maxHeartbeats 1600000 in
set_option maxRecDepth 1000000 in
theorem vset_arg (n v : ByteArray) (r : Value) (l : List Pv) (w : World) (hn : n.size ≤ maxLen) (ha : nameL n.data.toList = false) :
    Calls Tryd.prog 23 #[.string n, .string v, r] w (SetPost 33 n v l w) := by
  have he := setE_arg (v := v) (l := l) ha
  unfold SetPost
  rw [setL_no (by rw [he]; decide), he]
  clear he
  unfold maxLen at hn
  go_enter Tryd.func23, Tryd.ntmps23
  go_wp2_with fail
  refine (name_any n _ (by omega)).mono ?_
  rintro e w1 ⟨rfl, rfl⟩
  go_wp2_with fail
  go_ret2
  exact ⟨_, rfl, World.ownsRow_nil _ _ _ _, (Mod.refl _ w).alloc _⟩
set_option maxHeartbeats 1600000 in
set_option maxRecDepth 1000000 in
theorem vset_size (n v : ByteArray) (r : Value) (l : List Pv) (w : World) (hn : n.size ≤ maxLen) (ha : nameL n.data.toList = true) (hv : 65536 < v.size) :
    Calls Tryd.prog 23 #[.string n, .string v, r] w (SetPost 33 n v l w) := by
  have he := setE_size (l := l) ha hv
  unfold SetPost
  rw [setL_no (by rw [he]; decide), he]
  clear he
  unfold maxLen at hn
  go_enter Tryd.func23, Tryd.ntmps23
  go_wp2_with fail
  refine (name_any n _ (by omega)).mono ?_
  rintro e w1 ⟨rfl, rfl⟩
  go_wp2_with fail
  go_ret2
  exact ⟨_, rfl, World.ownsRow_nil _ _ _ _, (Mod.refl _ w).alloc _⟩
set_option maxHeartbeats 1600000 in
set_option maxRecDepth 1000000 in
theorem vset_put (n v : ByteArray) (ao : Option Addr) (cap : Nat) (l : List Pv) (w : World) (hr : Reads w 2 ao l.length (spCells l)) (hl : l.length ≤ 100000)
    (hn : n.size ≤ maxLen) (ha : nameL n.data.toList = true) (hv : ¬ 65536 < v.size) (hk : idxV n l < l.length) :
    Calls Tryd.prog 23 #[.string n, .string v, .slice ao l.length cap] w (SetPost 33 n v l w) := by
  obtain ⟨he, hL⟩ := setE_put ha hv hk
  obtain ⟨x2, hx2⟩ := idxV_at hk
  unfold SetPost
  rw [hL, he, List.length_set]
  clear he hL
  unfold maxLen at hn
  have Hc := Lib.hid (fun w' h => copyV_any ao cap l w' h (by omega))
  have Hw := Lib.hid (fun ao' cap' c w' h hc => whereV_any n ao' cap' c l w' h (by omega) hc)
  have Hr := Lib.hid hr
  have Hx := Lib.hid hx2
  generalize hK : idxV n l = K at *
  obtain ⟨N, hN⟩ : ∃ N, N = l.length := ⟨_, rfl⟩
  have HN := Lib.hid hN
  rw [← hN] at hl hk ⊢
  clear hr hx2 hK
  go_enter Tryd.func23, Tryd.ntmps23
  go_wp2_with fail
  have hxa : Ext w (w.alloc (.cells #[.string n] 9)) := (Mod.refl _ w).alloc _
  have hba : Blk (w.alloc (.cells #[.string n] 9)) w.heap.size 9 #[.string n] := Blk.new _ _ _
  refine (name_any n _ (by omega)).mono ?_
  rintro e w1 ⟨rfl, rfl⟩
  go_wp2_with fail
  subst hN
  refine (Hc.out _ (Hr.out.mod hxa (fun _ _ f => f))).mono ?_
  rintro e u2 ⟨cv, rfl, hown, hx2⟩
  obtain ⟨g, cc, rfl⟩ := ownsS_some hown (by omega)
  have c0 : u2.cell? ⟨w.heap.size, 0, none⟩ = some (.string n) := (hx2.cell (by simp) (fun f => f)).trans (hba.cell 0)
  have Ho := Lib.hid hown
  have Hy := Lib.hid (hxa.ext_trans hx2)
  obtain ⟨B, hB⟩ : ∃ B, B = w.heap.size := ⟨_, rfl⟩
  have HB := Lib.hid hB
  have hbl := World.block_lt_of_cell? _ _ c0
  rw [← hB] at c0 hbl ⊢
  clear hown hx2 hba hxa hB
  go_wp2_with fail
  refine (Hw.out _ _ _ _ (Reads.own Ho.out) c0).mono ?_
  rintro e u3 ⟨rfl, hx3⟩
  have Ho3 := Lib.hid (ownsRow_mod Ho.out hx3 (fun _ _ f => f))
  have Hy3 := Lib.hid (Hy.out.ext_trans hx3)
  obtain ⟨d0, d1⟩ := ownsS_cell Ho3.out Hx.out
  have d2 := ownsS_free Ho3.out (K * 2 + 1)
  have hgl := World.block_lt_of_cell? _ _ d0
  have hK0 : (0 : Int) ≤ (K : Int) := by omega
  have hKN : (K : Int) < (l.length : Int) := by omega
  rw [if_pos hk]
  clear c0 hx3
  go_wp2_with fail
  go_ret2
  have hset := ownsS_setB Ho3.out Hx.out v
  have hge := (ownsS_block Ho3.out).1
  simp at hge
  have hge2 : w.heap.size ≤ g := by omega
  exact ⟨_, rfl, ownsRow_base hset (by simp), Hy3.out.setCell (fun f => absurd f (Nat.not_lt.2 hge2)) _⟩
set_option maxHeartbeats 1600000 in
set_option maxRecDepth 1000000 in
theorem vset_full (n v : ByteArray) (ao : Option Addr) (cap : Nat) (l : List Pv) (w : World) (hr : Reads w 2 ao l.length (spCells l)) (hl : l.length ≤ 100000)
    (hn : n.size ≤ maxLen) (ha : nameL n.data.toList = true) (hv : ¬ 65536 < v.size) (hk : ¬ idxV n l < l.length) (h64 : 64 ≤ l.length) :
    Calls Tryd.prog 23 #[.string n, .string v, .slice ao l.length cap] w (SetPost 33 n v l w) := by
  have he := setE_full ha hv hk h64
  unfold SetPost
  rw [setL_no (by rw [he]; decide), he]
  clear he
  have hi64 : (64 : Int) ≤ (l.length : Int) := by omega
  unfold maxLen at hn
  have Hc := Lib.hid (fun w' h => copyV_any ao cap l w' h (by omega))
  have Hw := Lib.hid (fun ao' cap' c w' h hc => whereV_any n ao' cap' c l w' h (by omega) hc)
  have Hr := Lib.hid hr
  clear hr
  go_enter Tryd.func23, Tryd.ntmps23
  go_wp2_with fail
  have hxa : Ext w (w.alloc (.cells #[.string n] 9)) := (Mod.refl _ w).alloc _
  have hba : Blk (w.alloc (.cells #[.string n] 9)) w.heap.size 9 #[.string n] := Blk.new _ _ _
  refine (name_any n _ (by omega)).mono ?_
  rintro e w1 ⟨rfl, rfl⟩
  go_wp2_with fail
  refine (Hc.out _ (Hr.out.mod hxa (fun _ _ f => f))).mono ?_
  rintro e u2 ⟨cv, rfl, hown, hx2⟩
  obtain ⟨ga, cc, rfl, hrd⟩ := ownsS_reads hown
  have c0 : u2.cell? ⟨w.heap.size, 0, none⟩ = some (.string n) := (hx2.cell (by simp) (fun f => f)).trans (hba.cell 0)
  have Ho := Lib.hid hown
  have Hy := Lib.hid (hxa.ext_trans hx2)
  obtain ⟨B, hB⟩ : ∃ B, B = w.heap.size := ⟨_, rfl⟩
  have HB := Lib.hid hB
  have hbl := World.block_lt_of_cell? _ _ c0
  rw [← hB] at c0 hbl ⊢
  clear hown hx2 hba hxa hB
  go_wp2_with fail
  refine (Hw.out _ _ _ _ hrd c0).mono ?_
  rintro e u3 ⟨rfl, hx3⟩
  have Ho3 := Lib.hid (ownsRow_mod Ho.out hx3 (fun _ _ f => f))
  have Hy3 := Lib.hid (Hy.out.ext_trans hx3)
  have c3 := (hx3.cell hbl (fun f => f)).trans c0
  have hbl3 := World.block_lt_of_cell? _ _ c3
  rw [if_neg hk]
  clear c0 hx3 hrd hbl
  go_wp2_with fail
  go_ret2
  exact ⟨_, rfl, World.ownsRow_nil _ _ _ _, Hy3.out⟩
set_option maxHeartbeats 1600000 in
set_option maxRecDepth 1000000 in
theorem vset_add (n v : ByteArray) (ao : Option Addr) (cap : Nat) (l : List Pv) (w : World) (hr : Reads w 2 ao l.length (spCells l)) (hl : l.length ≤ 100000)
    (hn : n.size ≤ maxLen) (ha : nameL n.data.toList = true) (hv : ¬ 65536 < v.size) (hk : ¬ idxV n l < l.length) (h64 : ¬ 64 ≤ l.length) :
    Calls Tryd.prog 23 #[.string n, .string v, .slice ao l.length cap] w (SetPost 33 n v l w) := by
  obtain ⟨he, hL⟩ := setE_add ha hv hk h64
  unfold SetPost
  rw [hL, he, List.length_append, List.length_singleton, spCells_append]
  clear he hL
  have hi64 : ¬ (64 : Int) ≤ (l.length : Int) := by omega
  unfold maxLen at hn
  have Hc := Lib.hid (fun w' h => copyV_any ao cap l w' h (by omega))
  have Hw := Lib.hid (fun ao' cap' c w' h hc => whereV_any n ao' cap' c l w' h (by omega) hc)
  have Hr := Lib.hid hr
  clear hr
  go_enter Tryd.func23, Tryd.ntmps23
  go_wp2_with fail
  have hxa : Ext w (w.alloc (.cells #[.string n] 9)) := (Mod.refl _ w).alloc _
  have hba : Blk (w.alloc (.cells #[.string n] 9)) w.heap.size 9 #[.string n] := Blk.new _ _ _
  refine (name_any n _ (by omega)).mono ?_
  rintro e w1 ⟨rfl, rfl⟩
  go_wp2_with fail
  refine (Hc.out _ (Hr.out.mod hxa (fun _ _ f => f))).mono ?_
  rintro e u2 ⟨cv, rfl, hown, hx2⟩
  obtain ⟨ga, cc, rfl, hrd⟩ := ownsS_reads hown
  have c0 : u2.cell? ⟨w.heap.size, 0, none⟩ = some (.string n) := (hx2.cell (by simp) (fun f => f)).trans (hba.cell 0)
  have Ho := Lib.hid hown
  have Hy := Lib.hid (hxa.ext_trans hx2)
  obtain ⟨B, hB⟩ : ∃ B, B = w.heap.size := ⟨_, rfl⟩
  have HB := Lib.hid hB
  have hbl := World.block_lt_of_cell? _ _ c0
  rw [← hB] at c0 hbl ⊢
  clear hown hx2 hba hxa hB
  go_wp2_with fail
  refine (Hw.out _ _ _ _ hrd c0).mono ?_
  rintro e u3 ⟨rfl, hx3⟩
  have Ho3 := Lib.hid (ownsRow_mod Ho.out hx3 (fun _ _ f => f))
  have Hy3 := Lib.hid (Hy.out.ext_trans hx3)
  have c3 := (hx3.cell hbl (fun f => f)).trans c0
  have hbl3 := World.block_lt_of_cell? _ _ c3
  rw [if_neg hk]
  clear c0 hx3 hrd hbl
  go_wp2_with (at_builtin; refine wpList_append_reads rfl _ _ 24 rfl (w.alloc (.cells #[.string n] 9)).heap.size 33 _ 2 32 Tryd.info33 Tryd.underlying24 rfl (by decide) _ l.length (spCells l) rfl (Ho3.out.alloc _) _ 1 1 [.string n, .string v] rfl ?hrd (two_strings n v) (by unfold maxLen; omega) (by omega) ?hbs ?_)
  case hrd =>
    have := Reads.new u3 33 #[.string n, .string v] 2 1 rfl
    simpa using this
  case hbs => have := Hy3.out.size; simp at this ⊢; omega
  intro v' w4 hown hm4 hbk
  have hx4 := (Hy3.out.alloc _).over hm4 (fun i hi => by have := (Ho3.out.lt i hi).1; simp at this; omega)
  have Hown := Lib.hid hown
  clear hm4 hbk hown
  go_wp2_with fail
  go_ret2
  exact ⟨_, rfl, ownsRow_base Hown.out (by simp), hx4⟩
theorem vset_any (n v : ByteArray) (ao : Option Addr) (cap : Nat) (l : List Pv) (w : World) (hr : Reads w 2 ao l.length (spCells l)) (hl : l.length ≤ 100000) (hn : n.size ≤ maxLen) :
    Calls Tryd.prog 23 #[.string n, .string v, .slice ao l.length cap] w (SetPost 33 n v l w) := by
  cases ha : nameL n.data.toList with
  | false => exact vset_arg n v _ l w hn ha
  | true =>
    by_cases hv : 65536 < v.size
    · exact vset_size n v _ l w hn ha hv
    · by_cases hk : idxV n l < l.length
      · exact vset_put n v ao cap l w hr hl hn ha hv hk
      · by_cases h64 : 64 ≤ l.length
        · exact vset_full n v ao cap l w hr hl hn ha hv hk h64
        · exact vset_add n v ao cap l w hr hl hn ha hv hk h64
end Go.Proofs.YtmecdhbiinpepaaDoor

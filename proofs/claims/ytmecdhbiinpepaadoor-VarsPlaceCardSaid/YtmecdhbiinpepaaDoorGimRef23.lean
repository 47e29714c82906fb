/- The document's variables: Set. Conditions: at most 100000 variables. -/
import Derived.Test.YtmecdhbiinpepaaDoorGimVarsSet
namespace Go.Proofs.YtmecdhbiinpepaaDoor
open Go.RowKit Go.Gim

set_option maxHeartbeats 1600000 in
set_option maxRecDepth 1000000 in
theorem refSetV_arg (n v : ByteArray) (r : Value) (l : List Pv) (w : World) (hn : n.size ≤ maxLen) (ha : nameL n.data.toList = false) :
    Calls Tryd.prog 24 #[.string n, .string v, r] w (SetPost 33 n v l w) := by
  have he := setE_arg (v := v) (l := l) ha
  unfold SetPost
  rw [setL_no (by rw [he]; decide), he]
  clear he
  unfold maxLen at hn
  go_enter Tryd.func24, Tryd.ntmps24
  go_wp2_with fail
  refine (refName_any n _ (by omega)).mono ?_
  rintro e w1 ⟨rfl, rfl⟩
  go_wp2_with fail
  go_ret2
  exact ⟨_, rfl, World.ownsRow_nil _ _ _ _, Mod.refl _ _⟩
set_option maxHeartbeats 1600000 in
set_option maxRecDepth 1000000 in
theorem refSetV_size (n v : ByteArray) (r : Value) (l : List Pv) (w : World) (hn : n.size ≤ maxLen) (ha : nameL n.data.toList = true) (hv : 65536 < v.size) :
    Calls Tryd.prog 24 #[.string n, .string v, r] w (SetPost 33 n v l w) := by
  have he := setE_size (l := l) ha hv
  unfold SetPost
  rw [setL_no (by rw [he]; decide), he]
  clear he
  unfold maxLen at hn
  go_enter Tryd.func24, Tryd.ntmps24
  go_wp2_with fail
  refine (refName_any n _ (by omega)).mono ?_
  rintro e w1 ⟨rfl, rfl⟩
  go_wp2_with fail
  go_ret2
  exact ⟨_, rfl, World.ownsRow_nil _ _ _ _, Mod.refl _ _⟩
set_option maxHeartbeats 1600000 in
set_option maxRecDepth 1000000 in
theorem refSetV_more (n v : ByteArray) (ao : Option Addr) (cap : Nat) (l : List Pv) (w : World) (hr : Reads w 2 ao l.length (spCells l)) (hl : l.length ≤ 100000)
    (hn : n.size ≤ maxLen) (ha : nameL n.data.toList = true) (hv : ¬ 65536 < v.size) :
    Calls Tryd.prog 24 #[.string n, .string v, .slice ao l.length cap] w (SetPost 33 n v l w) := by
  have Hput := Lib.hid (fun hk => setE_put (l := l) ha hv hk)
  have Hfull := Lib.hid (fun hk h4 => setE_full (l := l) ha hv hk h4)
  have Hadd := Lib.hid (fun hk h4 => setE_add (l := l) ha hv hk h4)
  unfold maxLen at hn
  have hle := idxV_le n l
  have hxe : Ext w (w.alloc (.cells #[] 33)) := (Mod.refl _ w).alloc _
  have Hr := Lib.hid (hr.mod hxe (fun _ _ f => f))
  clear hr
  go_enter Tryd.func24, Tryd.ntmps24
  go_wp2_with fail
  refine (refName_any n _ (by omega)).mono ?_
  rintro e w1 ⟨rfl, rfl⟩
  go_wp2_with (at_builtin; refine wpList_append_reads rfl _ _ 24 rfl w1.heap.size 33 _ 2 32 Tryd.info33 Tryd.underlying24 rfl (by decide) _ 0 [] rfl (World.ownsRow_lit w1 #[] 0 (Nat.le_refl _) (by unfold maxLen; omega) rfl) _ l.length cap (spCells l) rfl Hr.out (spCells_one l) (by unfold maxLen; omega) (by omega) (by simp) ?_)
  intro v' w4 hown hm4 hbk
  have hx4 : Ext w1 w4 := hxe.trans hm4 (fun i hi e => by cases e; exact absurd hi (Nat.lt_irrefl _))
  obtain ⟨ga, cc, rfl, hrd⟩ := ownsS_reads hown
  have Ho := Lib.hid hown
  have Hx4 := Lib.hid hx4
  have Hrd := Lib.hid hrd
  clear hm4 hbk hown hxe hx4 hrd
  go_wp2_with fail
  go_loop [9] (fun i => ∃ k : Nat, k ≤ l.length ∧ i = .int .i64 k ∧ Hid (idxV n (l.drop k) + k = idxV n l)) (fun i => l.length - (intOf i).toNat)
  case atStart => exact ⟨0, by omega, rfl, Lib.hid rfl⟩
  case round =>
    obtain ⟨k, hk, rfl, HG⟩ := hrel
    by_cases hlt : k < l.length
    · have hlt' : (k : Int) < (l.length : Int) := by omega
      have hk0 : (0 : Int) ≤ (k : Int) := by omega
      obtain ⟨b1, c1, he1⟩ := ownsS_some Ho.out (by omega)
      cases he1
      obtain ⟨x, hx⟩ : ∃ x, l[k]? = some x := ⟨_, List.getElem?_eq_getElem hlt⟩
      obtain ⟨c0, c1⟩ := ownsS_cell Ho.out hx
      have hd := idxV_drop n l k _ hx
      have HD := Lib.hid hd
      have Hx := Lib.hid hx
      obtain ⟨p, q⟩ := x
      have hbl := World.block_lt_of_cell? _ _ c0
      clear hd hx
      by_cases he : p = n
      · have b1 := str_eq he
        have HK := Lib.hid (show idxV n l = k by
          have h1 := HG.out
          rw [HD.out, if_pos he, Nat.zero_add] at h1
          exact h1.symm)
        have d2 := ownsS_free Ho.out (k * 2 + 1)
        subst he
        go_wp2_with fail
        go_ret2
        have hset := ownsS_setB Ho.out Hx.out v
        have hge := (ownsS_block Ho.out).1
        obtain ⟨e1, e2⟩ := Hput.out (by rw [HK.out]; exact hlt)
        unfold SetPost
        rw [e1, e2, HK.out, List.length_set]
        exact ⟨_, rfl, hset, Hx4.out.setCell (fun f => absurd f (Nat.not_lt.2 hge)) _⟩
      · have b1 := str_ne he
        have HV := Lib.hid (show idxV n (l.drop (k + 1)) + (k + 1) = idxV n l by rw [← HG.out, HD.out, if_neg he]; omega)
        go_wp2_with fail
        go_round
        case rel => exact ⟨k + 1, by omega, by go_num, HV⟩
        case measure => simp [intOf]; omega
    · have hlt' : ¬ (k : Int) < (l.length : Int) := by omega
      have HK := Lib.hid (show ¬ idxV n l < l.length by
        have h1 := HG.out
        rw [List.drop_of_length_le (by omega), show idxV n [] = 0 from rfl] at h1
        omega)
      by_cases h64 : 64 ≤ l.length
      · have hi64 : (64 : Int) ≤ (l.length : Int) := by omega
        go_wp2_with fail
        go_ret2
        have e1 := Hfull.out HK.out h64
        unfold SetPost
        rw [setL_no (by rw [e1]; decide), e1]
        exact ⟨_, rfl, World.ownsRow_nil _ _ _ _, Hx4.out⟩
      · have hi64 : ¬ (64 : Int) ≤ (l.length : Int) := by omega
        go_wp2_with (at_builtin; refine wpList_append_reads rfl _ _ 24 rfl w1.heap.size 33 _ 2 32 Tryd.info33 Tryd.underlying24 rfl (by decide) _ l.length (spCells l) rfl (Ho.out.alloc _) _ 1 1 [.string n, .string v] rfl ?hrd (two_strings n v) (by unfold maxLen; omega) (by omega) ?hbs ?_)
        case hrd =>
          have := Reads.new w4 33 #[.string n, .string v] 2 1 rfl
          simpa using this
        case hbs => have := Hx4.out.size; simp at this ⊢; omega
        intro v' w5 hown hm5 hbk
        have hx5 := (Hx4.out.alloc _).over hm5 (fun i hi => (Ho.out.lt i hi).1)
        have Hown := Lib.hid hown
        clear hm5 hbk hown
        go_wp2_with fail
        go_ret2
        obtain ⟨e1, e2⟩ := Hadd.out HK.out h64
        unfold SetPost
        rw [e1, e2, List.length_append, List.length_singleton, spCells_append]
        exact ⟨_, rfl, Hown.out, hx5⟩
theorem refSetV_any (n v : ByteArray) (ao : Option Addr) (cap : Nat) (l : List Pv) (w : World) (hr : Reads w 2 ao l.length (spCells l)) (hl : l.length ≤ 100000) (hn : n.size ≤ maxLen) :
    Calls Tryd.prog 24 #[.string n, .string v, .slice ao l.length cap] w (SetPost 33 n v l w) := by
  cases ha : nameL n.data.toList with
  | false => exact refSetV_arg n v _ l w hn ha
  | true =>
    by_cases hv : 65536 < v.size
    · exact refSetV_size n v _ l w hn ha hv
    · exact refSetV_more n v ao cap l w hr hl hn ha hv
end Go.Proofs.YtmecdhbiinpepaaDoor

/- Variables told: vars.Get, the document's Get; the first of a name; a copy. Conditions: at most 1000000 variables. -/
import Derived.Test.YtmecdhbiinpepaaDoorGimPackV
import Derived.Test.YtmecdhbiinpepaaDoorGimPackA
import Derived.Test.YtmecdhbiinpepaaDoorGimLaw
import Derived.Test.YtmecdhbiinpepaaDoorGimName
import Derived.Test.YtmecdhbiinpepaaDoorRows
namespace Go.Gim
/-- What Get answers. -/
def GotV (n : ByteArray) (l : List Pv) : Value := .tuple #[.string ((getV n l).getD ⟨#[]⟩), .bool (getV n l).isSome]
theorem gotV_some {n v : ByteArray} {l : List Pv} (h : getV n l = some v) : GotV n l = .tuple #[.string v, .bool true] := by unfold GotV; rw [h]; rfl
theorem gotV_none {n : ByteArray} {l : List Pv} (h : getV n l = none) : GotV n l = .tuple #[.string ⟨#[]⟩, .bool false] := by unfold GotV; rw [h]; rfl
/-- A new row of variables, with what came in. -/
def NewPvs (T : TypeId) (l : List Pv) (w : World) (e : Ending) (w' : World) : Prop :=
  ∃ v, e = .returned v ∧ w'.ownsRow w.heap.size T 2 v l.length (spCells l) ∧ Ext w w'
end Go.Gim
namespace Go.Proofs.YtmecdhbiinpepaaDoor
open Go.RowKit Go.Gim

set_option maxHeartbeats 1600000 in
set_option maxRecDepth 1000000 in
theorem vget_any (n : ByteArray) (ao : Option Addr) (cap : Nat) (l : List Pv) (w : World) (hr : Reads w 2 ao l.length (spCells l)) (hn : l.length ≤ 1000000) :
    Calls Tryd.prog 17 #[.string n, .slice ao l.length cap] w fun e w' => e = .returned (GotV n l) ∧ Ext w w' := by
  have Hr := Lib.hid hr
  obtain ⟨N, hN⟩ : ∃ N, N = l.length := ⟨_, rfl⟩
  have HN := Lib.hid hN
  rw [← hN] at hn ⊢
  clear hr hN
  go_enter Tryd.func17, Tryd.ntmps17
  go_wp2_with fail
  go_loopw [10] (fun i wr => ∃ k : Nat, k ≤ N ∧ i = .int .i64 k ∧ Hid (getV n (l.drop k) = getV n l) ∧ Ext w wr) (fun i _ => N - (intOf i).toNat)
  case atStart => exact ⟨0, by omega, rfl, Lib.hid rfl, Mod.refl _ _⟩
  case round =>
    obtain ⟨k, hk, rfl, HG, hx⟩ := hrel
    by_cases hlt : k < N
    · have hlt' : (k : Int) < (N : Int) := by omega
      have hk0 : (0 : Int) ≤ (k : Int) := by omega
      have hlk : k < l.length := by rw [← HN.out]; exact hlt
      obtain ⟨b1, o1, rfl⟩ := Hr.out.some (by omega)
      obtain ⟨c0, c1⟩ := reads_sp (Hr.out.mod hx (fun _ _ f => f)) (List.getElem?_eq_getElem hlk)
      have hd := getV_drop n l k _ (List.getElem?_eq_getElem hlk)
      generalize l[k] = x at *
      have HD := Lib.hid hd
      obtain ⟨p, q⟩ := x
      have hbl := World.block_lt_of_cell? _ _ c0
      clear hlk hd
      by_cases he : p = n
      · have b1 := str_eq he
        have HV := Lib.hid (show getV n l = some q by rw [← HG.out, HD.out]; exact if_pos he)
        go_wp2_with fail
        go_ret2
        exact ⟨by rw [gotV_some HV.out]; rfl, hx.alloc _⟩
      · have b1 := str_ne he
        have HV := Lib.hid (show getV n (l.drop (k + 1)) = getV n l by rw [← HG.out, HD.out]; exact (if_neg he).symm)
        go_wp2_with fail
        go_roundw
        case rel => exact ⟨k + 1, by omega, by go_num, HV, hx.alloc _⟩
        case measure => simp [intOf]; omega
    · have hlt' : ¬ (k : Int) < (N : Int) := by omega
      have HV := Lib.hid (show getV n l = none by rw [← HG.out, List.drop_of_length_le (by rw [← HN.out]; omega)]; rfl)
      go_wp2_with fail
      go_ret2
      exact ⟨by rw [gotV_none HV.out]; rfl, hx⟩

set_option maxHeartbeats 1600000 in
set_option maxRecDepth 1000000 in
theorem refGet_any (n : ByteArray) (ao : Option Addr) (cap : Nat) (l : List Pv) (w : World) (hr : Reads w 2 ao l.length (spCells l)) (hn : l.length ≤ 1000000) :
    Calls Tryd.prog 25 #[.string n, .slice ao l.length cap] w fun e w' => e = .returned (GotV n l) ∧ w' = w := by
  have Hr := Lib.hid hr
  obtain ⟨N, hN⟩ : ∃ N, N = l.length := ⟨_, rfl⟩
  have HN := Lib.hid hN
  rw [← hN] at hn ⊢
  clear hr hN
  go_enter Tryd.func25, Tryd.ntmps25
  go_wp2_with fail
  go_loop [6] (fun i => ∃ k : Nat, k ≤ N ∧ i = .int .i64 k ∧ Hid (getV n (l.drop k) = getV n l)) (fun i => N - (intOf i).toNat)
  case atStart => exact ⟨0, by omega, rfl, Lib.hid rfl⟩
  case round =>
    obtain ⟨k, hk, rfl, HG⟩ := hrel
    by_cases hlt : k < N
    · have hlt' : (k : Int) < (N : Int) := by omega
      have hk0 : (0 : Int) ≤ (k : Int) := by omega
      have hlk : k < l.length := by rw [← HN.out]; exact hlt
      obtain ⟨b1, o1, rfl⟩ := Hr.out.some (by omega)
      obtain ⟨c0, c1⟩ := reads_sp Hr.out (List.getElem?_eq_getElem hlk)
      have hd := getV_drop n l k _ (List.getElem?_eq_getElem hlk)
      generalize l[k] = x at *
      have HD := Lib.hid hd
      obtain ⟨p, q⟩ := x
      clear hlk hd
      by_cases he : p = n
      · have b1 := str_eq he
        have HV := Lib.hid (show getV n l = some q by rw [← HG.out, HD.out]; exact if_pos he)
        go_wp2_with fail
        go_ret2
        exact ⟨by rw [gotV_some HV.out]; rfl, rfl⟩
      · have b1 := str_ne he
        have HV := Lib.hid (show getV n (l.drop (k + 1)) = getV n l by rw [← HG.out, HD.out]; exact (if_neg he).symm)
        go_wp2_with fail
        go_round
        case rel => exact ⟨k + 1, by omega, by go_num, HV⟩
        case measure => simp [intOf]; omega
    · have hlt' : ¬ (k : Int) < (N : Int) := by omega
      have HV := Lib.hid (show getV n l = none by rw [← HG.out, List.drop_of_length_le (by rw [← HN.out]; omega)]; rfl)
      go_wp2_with fail
      go_ret2
      exact ⟨by rw [gotV_none HV.out]; rfl, rfl⟩

set_option maxHeartbeats 800000 in
set_option maxRecDepth 1000000 in
theorem sameName_any (x : Pv) (c : Nat) (n : ByteArray) (w : World) (hc : w.cell? ⟨c, 0, none⟩ = some (.string n)) :
    Calls Tryd.prog 50 #[.agg #[.string x.1, .string x.2], .pointer (some ⟨c, 0, none⟩)] w fun e w' => e = .returned (.bool (decide (x.1 = n))) ∧ Ext w w' := by
  obtain ⟨p, q⟩ := x
  have hbl := World.block_lt_of_cell? _ _ hc
  by_cases he : p = n
  · have b1 := str_eq he
    go_enter Tryd.func50, Tryd.ntmps50
    go_wp2_with fail
    go_ret
    exact ⟨rfl, (Mod.refl _ w).alloc _⟩
  · have b1 := str_ne he
    go_enter Tryd.func50, Tryd.ntmps50
    go_wp2_with fail
    go_ret
    exact ⟨rfl, (Mod.refl _ w).alloc _⟩

set_option maxHeartbeats 1600000 in
set_option maxRecDepth 1000000 in
theorem whereV_any (n : ByteArray) (ao : Option Addr) (cap c : Nat) (l : List Pv) (w : World) (hr : Reads w 2 ao l.length (spCells l)) (hn : l.length ≤ 1000000) (hc : w.cell? ⟨c, 0, none⟩ = some (.string n)) :
    Calls Tryd.prog 49 #[.slice ao l.length cap, .func (.func 50) #[] #[.pointer (some ⟨c, 0, none⟩)]] w fun e w' => e = .returned (.int .i64 (if idxV n l < l.length then (idxV n l : Int) else -1)) ∧ Ext w w' := by
  have Hr := Lib.hid hr
  have hcl := World.block_lt_of_cell? _ _ hc
  obtain ⟨N, hN⟩ : ∃ N, N = l.length := ⟨_, rfl⟩
  have HN := Lib.hid hN
  have HC := Lib.hid hc
  rw [← hN] at hn ⊢
  clear hr hN hc
  generalize hX : (if idxV n l < N then (idxV n l : Int) else -1) = X
  have HX := Lib.hid hX
  clear hX
  go_enter Tryd.func49, Tryd.ntmps49
  go_wp2_with fail
  go_loopw [8] (fun i wr => ∃ k : Nat, k ≤ N ∧ i = .int .i64 k ∧ Hid (idxV n (l.drop k) + k = idxV n l) ∧ Ext w wr) (fun i _ => N - (intOf i).toNat)
  case atStart => exact ⟨0, by omega, rfl, Lib.hid rfl, Mod.refl _ _⟩
  case round =>
    obtain ⟨k, hk, rfl, HG, hx⟩ := hrel
    by_cases hlt : k < N
    · have hlt' : (k : Int) < (N : Int) := by omega
      have hk0 : (0 : Int) ≤ (k : Int) := by omega
      have hlk : k < l.length := by rw [← HN.out]; exact hlt
      obtain ⟨b1, o1, rfl⟩ := Hr.out.some (by omega)
      obtain ⟨c0, c1⟩ := reads_sp (Hr.out.mod hx (fun _ _ f => f)) (List.getElem?_eq_getElem hlk)
      have hd := idxV_drop n l k _ (List.getElem?_eq_getElem hlk)
      generalize l[k] = x at *
      have HD := Lib.hid hd
      have hbl := World.block_lt_of_cell? _ _ c0
      have Hk := Lib.hid (sameName_any x c n wr ((hx.cell hcl (fun f => f)).trans HC.out))
      obtain ⟨p, q⟩ := x
      clear hlk hd
      go_wp2_with fail
      refine Hk.out.mono ?_
      rintro e w1 ⟨rfl, hx1⟩
      have hx2 := hx.ext_trans hx1
      by_cases he : p = n
      · have b1 : decide (p = n) = true := decide_eq_true he
        have HV := Lib.hid (show X = k by
          have h1 := HG.out
          rw [HD.out, if_pos he, Nat.zero_add] at h1
          rw [← HX.out, ← h1, if_pos hlt])
        clear he
        go_wp2_with fail
        go_ret
        exact ⟨by rw [HV.out]; rfl, hx2⟩
      · have b1 : decide (p = n) = false := decide_eq_false he
        have HV := Lib.hid (show idxV n (l.drop (k + 1)) + (k + 1) = idxV n l by rw [← HG.out, HD.out, if_neg he]; omega)
        clear he
        go_wp2_with fail
        go_roundw
        case rel => exact ⟨k + 1, by omega, by go_num, HV, hx2⟩
        case measure => simp [intOf]; omega
    · have hlt' : ¬ (k : Int) < (N : Int) := by omega
      have HV := Lib.hid (show X = -1 by
        have h1 := HG.out
        rw [List.drop_of_length_le (by rw [← HN.out]; omega), show idxV n [] = 0 from rfl] at h1
        rw [← HX.out, if_neg (by omega)])
      go_wp2_with fail
      go_ret
      exact ⟨by rw [HV.out]; rfl, hx⟩

theorem Tryd.info33 : (Tryd.prog.info? 33).map (fun i => (i.zero, i.size, i.bytes)) = some (some (.agg #[.string ⟨#[]⟩, .string ⟨#[]⟩]), 2, 32) := by kernel_rfl
set_option maxHeartbeats 1600000 in
set_option maxRecDepth 1000000 in
theorem copyV_some (b off cap : Nat) (l : List Pv) (w : World) (hr : Reads w 2 (some ⟨b, off, none⟩) l.length (spCells l)) (hn : l.length ≤ 1000000) (h0 : 0 < l.length) :
    Calls Tryd.prog 48 #[.slice (some ⟨b, off, none⟩) l.length cap] w (NewPvs 33 l w) := by
  have hnil := fun w' => Lib.run_eql_slice_nil (P := Tryd.prog) w' 24 33 (some ⟨b, off, none⟩) l.length cap 0 0 Tryd.underlying24
  have ha : Ext w (w.alloc (.cells #[] 33)) := (Mod.refl _ w).alloc _
  have hr2 := hr.mod ha (fun _ _ f => f)
  obtain ⟨N, hN⟩ : ∃ N, N = l.length := ⟨_, rfl⟩
  unfold NewPvs
  rw [← hN] at hn hr2 hnil h0 ⊢
  have j0 : ¬ N = 0 := by omega
  clear hN hr
  go_enter Tryd.func48, Tryd.ntmps48
  go_wp2_with (at_builtin; refine wpList_append_reads rfl _ _ 24 rfl w.heap.size 33 _ 2 32 Tryd.info33 Tryd.underlying24 rfl (by decide) _ 0 [] rfl (World.ownsRow_lit w #[] 0 (Nat.le_refl _) (by unfold maxLen; omega) rfl) _ N cap (spCells l) rfl hr2 (spCells_one l) (by unfold maxLen; omega) (by omega) (by simp) ?_)
  intro v' w4 hown hm4 hbk
  have hx4 : Ext w w4 := ha.trans hm4 (fun i hi e => by cases e; exact absurd hi (Nat.lt_irrefl _))
  have HO := Lib.hid hown
  clear hm4 hbk hown
  go_wp2_with fail
  go_ret
  exact ⟨_, rfl, by simpa using HO.out, hx4⟩
set_option maxHeartbeats 1600000 in
set_option maxRecDepth 1000000 in
theorem copyV_none (cap : Nat) (w : World) :
    Calls Tryd.prog 48 #[.slice none 0 cap] w (NewPvs 33 [] w) := by
  have hnil := fun w' => Lib.run_eql_slice_nil (P := Tryd.prog) w' 24 33 none 0 cap 0 0 Tryd.underlying24
  unfold NewPvs
  go_enter Tryd.func48, Tryd.ntmps48
  go_wp2_with fail
  go_ret
  exact ⟨_, rfl, World.ownsRow_nil _ _ _ _, Mod.refl _ _⟩
set_option maxHeartbeats 1600000 in
set_option maxRecDepth 1000000 in
theorem copyV_zero (a : Addr) (cap : Nat) (w : World) :
    Calls Tryd.prog 48 #[.slice (some a) 0 cap] w (NewPvs 33 [] w) := by
  have hnil := fun w' => Lib.run_eql_slice_nil (P := Tryd.prog) w' 24 33 (some a) 0 cap 0 0 Tryd.underlying24
  have ha : Ext w (w.alloc (.cells #[] 33)) := (Mod.refl _ w).alloc _
  have ho := World.ownsRow_lit (e := 33) (base := w.heap.size) (size := 2) w #[] 0 (Nat.le_refl _) (by unfold maxLen; omega) rfl
  unfold NewPvs
  go_enter Tryd.func48, Tryd.ntmps48
  go_wp2_with fail
  go_ret
  exact ⟨_, rfl, ho, ha⟩
theorem copyV_any (ao : Option Addr) (cap : Nat) (l : List Pv) (w : World) (hr : Reads w 2 ao l.length (spCells l)) (hn : l.length ≤ 1000000) :
    Calls Tryd.prog 48 #[.slice ao l.length cap] w (NewPvs 33 l w) := by
  cases ao with
  | none =>
    have h0 : l = [] := by
      by_cases h : 0 < l.length
      · obtain ⟨_, _, e⟩ := hr.some h; cases e
      · exact List.eq_nil_of_length_eq_zero (by omega)
    subst h0; exact copyV_none cap w
  | some a =>
    by_cases h0 : 0 < l.length
    · obtain ⟨b, off, e⟩ := hr.some h0
      cases e
      exact copyV_some b off cap l w hr hn h0
    · rw [List.eq_nil_of_length_eq_zero (show l.length = 0 by omega)]
      exact copyV_zero a cap w
end Go.Proofs.YtmecdhbiinpepaaDoor

/- The word at a place: vars.word. Conditions: texts of at most 65536 bytes. -/
namespace Go.Gim
/-- A byte of a word. -/
def wB (c : UInt8) : Bool := decide (97 ≤ c.toNat ∧ c.toNat ≤ 122 ∨ 65 ≤ c.toNat ∧ c.toNat ≤ 90 ∨ 48 ≤ c.toNat ∧ c.toNat ≤ 57 ∨ c.toNat = 95 ∨ 128 ≤ c.toNat)
def toW (l : List UInt8) (a : Nat) : Nat := a + ((l.drop a).takeWhile wB).length
def fromW (l : List UInt8) : Nat → Nat
  | 0 => 0
  | k + 1 => if wB (l.getD k 0) then fromW l k else k + 1
theorem toW_at (l : List UInt8) (a : Nat) (h : a < l.length) : toW l a = if wB l[a] = true then toW l (a + 1) else a := by
  unfold toW
  rw [List.drop_eq_getElem_cons h, List.takeWhile_cons]
  split
  · simp; omega
  · simp
theorem toW_over (l : List UInt8) (a : Nat) (h : l.length ≤ a) : toW l a = a := by
  unfold toW; rw [List.drop_of_length_le h]; simp
theorem toW_ge (l : List UInt8) (a : Nat) : a ≤ toW l a := by unfold toW; omega
theorem toW_le (l : List UInt8) (a : Nat) (h : a ≤ l.length) : toW l a ≤ l.length := by
  unfold toW
  have := (List.takeWhile_prefix (l := l.drop a) wB).length_le
  rw [List.length_drop] at this
  omega
theorem fromW_pos (l : List UInt8) (k : Nat) (h : k < l.length) : fromW l (k + 1) = if wB l[k] = true then fromW l k else k + 1 := by
  rw [fromW, List.getD_eq_getElem?_getD, List.getElem?_eq_getElem h]; rfl
theorem fromW_le (l : List UInt8) : ∀ a, fromW l a ≤ a
  | 0 => Nat.le_refl _
  | k + 1 => by unfold fromW; split; exact Nat.le_succ_of_le (fromW_le l k); exact Nat.le_refl _
theorem wB_or (c : UInt8) : wB c = (nbB c || decide (128 ≤ c.toNat)) := by
  unfold wB nbB
  rw [Bool.eq_iff_iff]
  simp
  omega
end Go.Gim
namespace Go.Proofs.YtmecdhbiinpepaaDoor
open Go.RowKit Go.Gim

set_option maxHeartbeats 800000 in
set_option maxRecDepth 1000000 in
theorem wordByteV_any (c : UInt8) (w : World) : Calls Tryd.prog 57 #[.int .u8 (c.toNat : Nat)] w fun e w' => e = .returned (.bool (wB c)) ∧ w' = w := by
  have hw := wB_or c
  generalize wB c = X at *
  have Hw := Lib.hid hw
  clear hw
  go_enter Tryd.func57, Tryd.ntmps57
  go_wp2_with fail
  refine (nameByte_any c _).mono ?_
  rintro e w1 ⟨rfl, rfl⟩
  cases hb : nbB c with
  | true =>
    have HX := Lib.hid (show X = true by rw [Hw.out, hb]; rfl)
    clear hb
    go_wp2_with fail
    go_ret
    exact ⟨by rw [HX.out]; rfl, rfl⟩
  | false =>
    have HX := Lib.hid (show X = decide (128 ≤ c.toNat) by rw [Hw.out, hb]; rfl)
    clear hb
    go_wp2_with fail
    go_ret
    exact ⟨by rw [HX.out]; exact ret_bool (decide_eq_decide.2 (by omega)), rfl⟩

set_option maxHeartbeats 3200000 in
set_option maxRecDepth 1000000 in
theorem vword_any (s : ByteArray) (a : Nat) (w : World) (ha : a ≤ s.size) (hs : s.size ≤ 65536) :
    Calls Tryd.prog 36 #[.string s, .int .i64 a] w fun e w' => e = .returned (.string (s.extract (fromW s.data.toList a) (toW s.data.toList a))) ∧ w' = w := by
  obtain ⟨F, hF⟩ : ∃ F, fromW s.data.toList a = F := ⟨_, rfl⟩
  obtain ⟨T, hT⟩ : ∃ T, toW s.data.toList a = T := ⟨_, rfl⟩
  have hT1 := toW_ge s.data.toList a
  have hT2 := toW_le s.data.toList a (by rw [toList_length]; exact ha)
  have hF1 := fromW_le s.data.toList a
  rw [toList_length] at hT2
  rw [hF] at hF1
  rw [hT] at hT1 hT2
  rw [hF, hT]
  have HVF := Lib.hid hF
  have HVT := Lib.hid hT
  clear hF hT
  go_enter Tryd.func36, Tryd.ntmps36
  go_wp2_with fail
  go_loop [5] (fun i => ∃ k : Nat, k ≤ a ∧ i = .int .i64 k ∧ Hid (fromW s.data.toList k = F)) (fun i => (intOf i).toNat)
  case atStart => exact ⟨a, by omega, rfl, HVF⟩
  case round =>
    obtain ⟨j, hj, rfl, HK⟩ := hrel
    by_cases hj0 : 0 < j
    · obtain ⟨k, rfl⟩ : ∃ k, j = k + 1 := ⟨j - 1, by omega⟩
      have hk1 : (k : Int) < (s.size : Int) := by omega
      have hk2 : (0 : Int) ≤ (k : Int) := by omega
      have hkt : k < s.size := by omega
      have hd := fromW_pos s.data.toList k (by rw [toList_length]; exact hkt)
      rw [toList_get s k hkt] at hd
      cases hin : wB s[k] with
      | true =>
        rw [hin, if_pos rfl] at hd
        have Hd := Lib.hid (hd.symm.trans HK.out)
        have Hin := Lib.hid hin
        clear hd hin
        go_wp2_with fail
        refine (wordByteV_any s[k] _).mono ?_
        rintro e w' ⟨rfl, rfl⟩
        rw [Hin.out]
        go_wp2_with fail
        go_round
        case rel => exact ⟨k, by omega, by go_num, Hd⟩
        case measure => simp [intOf] <;> omega
      | false =>
        rw [hin, if_neg (by decide)] at hd
        have Hd := Lib.hid (hd.symm.trans HK.out)
        have Hin := Lib.hid hin
        clear hd hin
        go_wp2_with fail
        refine (wordByteV_any s[k] _).mono ?_
        rintro e w' ⟨rfl, rfl⟩
        rw [Hin.out]
        go_wp2_with fail
        have HF := Lib.hid (show k + 1 = F from Hd.out)
        clear HK HVF
        go_loop [6] (fun i => ∃ k : Nat, a ≤ k ∧ k ≤ s.size ∧ i = .int .i64 k ∧ Hid (toW s.data.toList k = T)) (fun i => s.size - (intOf i).toNat)
        case atStart => exact ⟨a, by omega, ha, rfl, HVT⟩
        case round =>
          clear HVT
          obtain ⟨i, hi0, hi, rfl, HJ⟩ := hrel
          by_cases hlt : i < s.size
          · have hi1 : (i : Int) < (s.size : Int) := by omega
            have hi2 : (0 : Int) ≤ (i : Int) := by omega
            have hd := toW_at s.data.toList i (by rw [toList_length]; exact hlt)
            rw [toList_get s i hlt] at hd
            cases hin : wB s[i] with
            | true =>
              rw [hin, if_pos rfl] at hd
              have Hd := Lib.hid (hd.symm.trans HJ.out)
              have Hin := Lib.hid hin
              clear hd hin
              go_wp2_with fail
              refine (wordByteV_any s[i] _).mono ?_
              rintro e w' ⟨rfl, rfl⟩
              rw [Hin.out]
              go_wp2_with fail
              go_round
              case rel => exact ⟨i + 1, by omega, by omega, by go_num, Hd⟩
              case measure => simp [intOf]; omega
            | false =>
              rw [hin, if_neg (by decide)] at hd
              have Hd := Lib.hid (hd.symm.trans HJ.out)
              have Hin := Lib.hid hin
              clear hd hin
              go_wp2_with fail
              refine (wordByteV_any s[i] _).mono ?_
              rintro e w' ⟨rfl, rfl⟩
              rw [Hin.out]
              go_wp2_with fail
              go_ret
              exact ⟨by rw [← HF.out, ← Hd.out]; rfl, rfl⟩
          · have hi1 : ¬ (i : Int) < (s.size : Int) := by omega
            have Hd := Lib.hid (show i = T from (toW_over _ _ (by rw [toList_length]; omega)).symm.trans HJ.out)
            go_wp2_with fail
            go_ret
            exact ⟨by rw [← HF.out, ← Hd.out]; rfl, rfl⟩
    · obtain rfl : j = 0 := by omega
      have Hd := Lib.hid (show (0 : Nat) = F from HK.out)
      go_wp2_with fail
      have HF := Lib.hid (show 0 = F from Hd.out)
      clear HK HVF
      go_loop [6] (fun i => ∃ k : Nat, a ≤ k ∧ k ≤ s.size ∧ i = .int .i64 k ∧ Hid (toW s.data.toList k = T)) (fun i => s.size - (intOf i).toNat)
      case atStart => exact ⟨a, by omega, ha, rfl, HVT⟩
      case round =>
        clear HVT
        obtain ⟨i, hi0, hi, rfl, HJ⟩ := hrel
        by_cases hlt : i < s.size
        · have hi1 : (i : Int) < (s.size : Int) := by omega
          have hi2 : (0 : Int) ≤ (i : Int) := by omega
          have hd := toW_at s.data.toList i (by rw [toList_length]; exact hlt)
          rw [toList_get s i hlt] at hd
          cases hin : wB s[i] with
          | true =>
            rw [hin, if_pos rfl] at hd
            have Hd := Lib.hid (hd.symm.trans HJ.out)
            have Hin := Lib.hid hin
            clear hd hin
            go_wp2_with fail
            refine (wordByteV_any s[i] _).mono ?_
            rintro e w' ⟨rfl, rfl⟩
            rw [Hin.out]
            go_wp2_with fail
            go_round
            case rel => exact ⟨i + 1, by omega, by omega, by go_num, Hd⟩
            case measure => simp [intOf]; omega
          | false =>
            rw [hin, if_neg (by decide)] at hd
            have Hd := Lib.hid (hd.symm.trans HJ.out)
            have Hin := Lib.hid hin
            clear hd hin
            go_wp2_with fail
            refine (wordByteV_any s[i] _).mono ?_
            rintro e w' ⟨rfl, rfl⟩
            rw [Hin.out]
            go_wp2_with fail
            go_ret
            exact ⟨by rw [← HF.out, ← Hd.out]; rfl, rfl⟩
        · have hi1 : ¬ (i : Int) < (s.size : Int) := by omega
          have Hd := Lib.hid (show i = T from (toW_over _ _ (by rw [toList_length]; omega)).symm.trans HJ.out)
          go_wp2_with fail
          go_ret
          exact ⟨by rw [← HF.out, ← Hd.out]; rfl, rfl⟩
end Go.Proofs.YtmecdhbiinpepaaDoor

/- The pairs of a path: strings.LastIndexByte, the document's last, vars.file. Conditions: texts of at most 65536 bytes. -/
namespace Go.Gim
/-- Behind the last place of a byte below k; 0: there is none. -/
def lastN (l : List UInt8) (c : UInt8) : Nat → Nat
  | 0 => 0
  | k + 1 => if l.getD k 0 = c then k + 1 else lastN l c k
theorem lastN_pos (l : List UInt8) (c : UInt8) (k : Nat) (h : k < l.length) : lastN l c (k + 1) = if l[k] = c then k + 1 else lastN l c k := by
  rw [lastN, List.getD_eq_getElem?_getD, List.getElem?_eq_getElem h]; rfl
theorem lastN_le (l : List UInt8) (c : UInt8) : ∀ k, lastN l c k ≤ k
  | 0 => Nat.le_refl _
  | k + 1 => by unfold lastN; split; exact Nat.le_refl _; exact Nat.le_succ_of_le (lastN_le l c k)
/-- A path's file, the file's base, the directory. -/
def fileOf (p : ByteArray) : ByteArray := p.extract (lastN p.data.toList 47 p.size) p.size
def baseOf (f : ByteArray) : ByteArray := if 1 < lastN f.data.toList 46 f.size then f.extract 0 (lastN f.data.toList 46 f.size - 1) else f
def dirOf (p : ByteArray) : ByteArray := p.extract 0 (lastN p.data.toList 47 p.size - 1)
def fileL (p : ByteArray) : List Pv := [(⟨#[84, 77, 95, 70, 73, 76, 69, 78, 65, 77, 69]⟩, fileOf p), (⟨#[84, 77, 95, 70, 73, 76, 69, 78, 65, 77, 69, 95, 66, 65, 83, 69]⟩, baseOf (fileOf p)), (⟨#[84, 77, 95, 68, 73, 82, 69, 67, 84, 79, 82, 89]⟩, dirOf p)]
theorem byte_eq {a c : UInt8} : ((a.toNat : Int) == (c.toNat : Int)) = decide (a = c) := by
  rw [Bool.eq_iff_iff, beq_iff_eq, decide_eq_true_iff]
  constructor
  · intro h; exact UInt8.toNat.inj (by omega)
  · intro h; rw [h]
end Go.Gim
namespace Go.Proofs.YtmecdhbiinpepaaDoor
open Go.RowKit Go.Gim

set_option maxHeartbeats 1600000 in
set_option maxRecDepth 1000000 in
theorem lastIn_any (s : ByteArray) (c : UInt8) (w : World) (hs : s.size ≤ 65536) :
    Calls Tryd.prog 77 #[.string s, .int .u8 (c.toNat : Nat)] w fun e w' => e = .returned (.int .i64 ((lastN s.data.toList c s.size : Int) - 1)) ∧ w' = w := by
  obtain ⟨U, hU⟩ : ∃ U, lastN s.data.toList c s.size = U := ⟨_, rfl⟩
  rw [hU]
  have HU := Lib.hid hU
  clear hU
  go_enter Tryd.func77, Tryd.ntmps77
  go_wp2_with fail
  go_loop [5] (fun i => ∃ k : Nat, k ≤ s.size ∧ i = .int .i64 ((k : Int) - 1) ∧ Hid (lastN s.data.toList c k = U)) (fun i => (intOf i + 1).toNat)
  case atStart => exact ⟨s.size, by omega, by go_num, HU⟩
  case round =>
    obtain ⟨j, hj, rfl, HK⟩ := hrel
    by_cases hj0 : 0 < j
    · obtain ⟨k, rfl⟩ : ∃ k, j = k + 1 := ⟨j - 1, by omega⟩
      have e1 : ((k + 1 : Nat) : Int) - 1 = k := by omega
      rw [e1]
      have hk1 : (k : Int) < (s.size : Int) := by omega
      have hk2 : (0 : Int) ≤ (k : Int) := by omega
      have hkt : k < s.size := by omega
      have hd := lastN_pos s.data.toList c k (by rw [toList_length]; exact hkt)
      rw [toList_get s k hkt] at hd
      have hb := byte_eq (a := s[k]) (c := c)
      by_cases hin : s[k] = c
      · rw [if_pos hin] at hd
        rw [decide_eq_true hin] at hb
        have Hd := Lib.hid (hd.symm.trans HK.out)
        clear hd hin e1
        go_wp2_with fail
        go_ret
        exact ⟨ret_int (by rw [← Hd.out]; omega), rfl⟩
      · rw [if_neg hin] at hd
        rw [decide_eq_false hin] at hb
        have Hd := Lib.hid (hd.symm.trans HK.out)
        clear hd hin e1
        go_wp2_with fail
        go_round
        case rel => exact ⟨k, by omega, by go_num, Hd⟩
        case measure => simp [intOf] <;> omega
    · obtain rfl : j = 0 := by omega
      have Hd := Lib.hid (show (0 : Nat) = U from HK.out)
      go_wp2_with fail
      go_ret
      exact ⟨by rw [← Hd.out]; rfl, rfl⟩
set_option maxHeartbeats 1600000 in
set_option maxRecDepth 1000000 in
theorem lastByte_any (s : ByteArray) (c : UInt8) (w : World) (hs : s.size ≤ 65536) :
    Calls Tryd.prog 59 #[.string s, .int .u8 (c.toNat : Nat)] w fun e w' => e = .returned (.int .i64 ((lastN s.data.toList c s.size : Int) - 1)) ∧ w' = w := by
  go_enter Tryd.func59, Tryd.ntmps59
  go_wp2_with fail
  refine (lastIn_any s c _ hs).mono ?_
  rintro e w1 ⟨rfl, rfl⟩
  go_wp2_with fail
  go_ret
  exact ⟨rfl, rfl⟩
set_option maxHeartbeats 1600000 in
set_option maxRecDepth 1000000 in
theorem refLast_any (s : ByteArray) (c : UInt8) (w : World) (hs : s.size ≤ 65536) :
    Calls Tryd.prog 43 #[.string s, .int .u8 (c.toNat : Nat)] w fun e w' => e = .returned (.int .i64 ((lastN s.data.toList c s.size : Int) - 1)) ∧ w' = w := by
  obtain ⟨U, hU⟩ : ∃ U, lastN s.data.toList c s.size = U := ⟨_, rfl⟩
  rw [hU]
  have HU := Lib.hid hU
  clear hU
  go_enter Tryd.func43, Tryd.ntmps43
  go_wp2_with fail
  go_loop [5] (fun i => ∃ k : Nat, k ≤ s.size ∧ i = .int .i64 ((k : Int) - 1) ∧ Hid (lastN s.data.toList c k = U)) (fun i => (intOf i + 1).toNat)
  case atStart => exact ⟨s.size, by omega, by go_num, HU⟩
  case round =>
    obtain ⟨j, hj, rfl, HK⟩ := hrel
    by_cases hj0 : 0 < j
    · obtain ⟨k, rfl⟩ : ∃ k, j = k + 1 := ⟨j - 1, by omega⟩
      have e1 : ((k + 1 : Nat) : Int) - 1 = k := by omega
      rw [e1]
      have hk1 : (k : Int) < (s.size : Int) := by omega
      have hk2 : (0 : Int) ≤ (k : Int) := by omega
      have hkt : k < s.size := by omega
      have hd := lastN_pos s.data.toList c k (by rw [toList_length]; exact hkt)
      rw [toList_get s k hkt] at hd
      have hb := byte_eq (a := s[k]) (c := c)
      by_cases hin : s[k] = c
      · rw [if_pos hin] at hd
        rw [decide_eq_true hin] at hb
        have hb2 : ((s[k].toNat : Int) != (c.toNat : Int)) = false := by rw [bne, hb]; rfl
        have Hd := Lib.hid (hd.symm.trans HK.out)
        clear hd hin e1
        go_wp2_with fail
        go_ret
        exact ⟨ret_int (by rw [← Hd.out]; omega), rfl⟩
      · rw [if_neg hin] at hd
        rw [decide_eq_false hin] at hb
        have hb2 : ((s[k].toNat : Int) != (c.toNat : Int)) = true := by rw [bne, hb]; rfl
        have Hd := Lib.hid (hd.symm.trans HK.out)
        clear hd hin e1
        go_wp2_with fail
        go_round
        case rel => exact ⟨k, by omega, by go_num, Hd⟩
        case measure => simp [intOf] <;> omega
    · obtain rfl : j = 0 := by omega
      have Hd := Lib.hid (show (0 : Nat) = U from HK.out)
      go_wp2_with fail
      go_ret
      exact ⟨by rw [← Hd.out]; rfl, rfl⟩
set_option maxHeartbeats 1600000 in
set_option maxRecDepth 1000000 in
theorem vfile_at (p f b q : ByteArray) (c d : Int) (w : World) (hs : p.size ≤ 65536) (c0 : -1 ≤ c) (c1 : c < p.size) (d1 : d < f.size)
    (hc : ∀ w, Calls Tryd.prog 59 #[.string p, .int .u8 47] w fun e w' => e = .returned (.int .i64 c) ∧ w' = w) (hd : ∀ w, Calls Tryd.prog 59 #[.string f, .int .u8 46] w fun e w' => e = .returned (.int .i64 d) ∧ w' = w)
    (hf : p.extract (c + 1).toNat p.size = f) (hb : (if 0 < d then f.extract 0 d.toNat else f) = b) (hq : p.extract 0 (if 0 ≤ c then c.toNat else 0) = q) :
    Calls Tryd.prog 38 #[.string p] w (NewPvs 33 [(⟨#[84, 77, 95, 70, 73, 76, 69, 78, 65, 77, 69]⟩, f), (⟨#[84, 77, 95, 70, 73, 76, 69, 78, 65, 77, 69, 95, 66, 65, 83, 69]⟩, b), (⟨#[84, 77, 95, 68, 73, 82, 69, 67, 84, 79, 82, 89]⟩, q)] w) := by
  have Hc := Lib.hid hc
  have Hd := Lib.hid hd
  have Hf := Lib.hid hf
  have hfs : f.size ≤ 65536 := by rw [← hf, ByteArray.size_extract]; omega
  have e1 : IntKind.i64.wrap (c + 1) = c + 1 := IntWalk.i64_in _ (by omega)
  have i0 : (0 : Int) ≤ c + 1 := by omega
  have i1 : c + 1 ≤ (p.size : Int) := by omega
  clear hf hc hd
  unfold NewPvs
  by_cases h0 : 0 ≤ c <;> by_cases h1 : 0 < d
  all_goals
    first | rw [if_pos h0] at hq | rw [if_neg h0] at hq
    first | rw [if_pos h1] at hb | rw [if_neg h1] at hb
    have Hb := Lib.hid hb
    have Hq := Lib.hid hq
    have j0 : c ≤ (p.size : Int) := by omega
    have j1 : d ≤ (f.size : Int) := by omega
    have j2 : c < 0 ∨ 0 ≤ c := by omega
    clear hb hq
    go_enter Tryd.func38, Tryd.ntmps38
    go_wp2_with fail
    refine (Hc.out _).mono ?_
    rintro e w1 ⟨rfl, rfl⟩
    go_wp2_with fail
    rw [Hf.out]
    refine (Hd.out _).mono ?_
    rintro e w1 ⟨rfl, rfl⟩
    go_wp2_with fail
    have hb := Hb.out
    have hq := Hq.out
    try rw [show p.extract 0 0 = ByteArray.empty by simp] at hq
    subst hb hq
    go_ret
    exact ⟨_, rfl, World.ownsRow_lit w1 _ 3 (Nat.le_refl _) (by unfold maxLen; omega) rfl, (Mod.refl _ _).alloc _⟩
theorem vfile_any (p : ByteArray) (w : World) (hs : p.size ≤ 65536) :
    Calls Tryd.prog 38 #[.string p] w (NewPvs 33 (fileL p) w) := by
  have hk := lastN_le p.data.toList 47 p.size
  have hfs : (fileOf p).size ≤ 65536 := by unfold fileOf; rw [ByteArray.size_extract]; omega
  have hm := lastN_le (fileOf p).data.toList 46 (fileOf p).size
  refine vfile_at p (fileOf p) (baseOf (fileOf p)) (dirOf p) _ _ w hs ?_ ?_ ?_ (fun w => lastByte_any p 47 w hs) (fun w => lastByte_any (fileOf p) 46 w hfs) ?_ ?_ ?_
  · omega
  · omega
  · omega
  · unfold fileOf
    rw [show ((lastN p.data.toList 47 p.size : Int) - 1 + 1).toNat = lastN p.data.toList 47 p.size by omega]
  · unfold baseOf
    generalize lastN (fileOf p).data.toList 46 (fileOf p).size = M
    by_cases h : 1 < M
    · rw [if_pos h, if_pos (by omega), show ((M : Int) - 1).toNat = M - 1 by omega]
    · rw [if_neg h, if_neg (by omega)]
  · unfold dirOf
    generalize lastN p.data.toList 47 p.size = K
    congr 1
    split <;> omega
end Go.Proofs.YtmecdhbiinpepaaDoor

/- strconv.Itoa of a number below 100. Conditions: 0 to 99. -/
namespace Go.Gim
/-- A number's digits, below 100. -/
def itoaS (i : Nat) : ByteArray := if i < 10 then ⟨#[UInt8.ofNat (48 + i)]⟩ else ⟨#[UInt8.ofNat (48 + i / 10), UInt8.ofNat (48 + i % 10)]⟩
def digT : ByteArray := ⟨#[48, 49, 50, 51, 52, 53, 54, 55, 56, 57, 97, 98, 99, 100, 101, 102, 103, 104, 105, 106, 107, 108, 109, 110, 111, 112, 113, 114, 115, 116, 117, 118, 119, 120, 121, 122]⟩
def tabT : ByteArray := ⟨#[48, 48, 48, 49, 48, 50, 48, 51, 48, 52, 48, 53, 48, 54, 48, 55, 48, 56, 48, 57, 49, 48, 49, 49, 49, 50, 49, 51, 49, 52, 49, 53, 49, 54, 49, 55, 49, 56, 49, 57, 50, 48, 50, 49, 50, 50, 50, 51, 50, 52, 50, 53, 50, 54, 50, 55, 50, 56, 50, 57, 51, 48, 51, 49, 51, 50, 51, 51, 51, 52, 51, 53, 51, 54, 51, 55, 51, 56, 51, 57, 52, 48, 52, 49, 52, 50, 52, 51, 52, 52, 52, 53, 52, 54, 52, 55, 52, 56, 52, 57, 53, 48, 53, 49, 53, 50, 53, 51, 53, 52, 53, 53, 53, 54, 53, 55, 53, 56, 53, 57, 54, 48, 54, 49, 54, 50, 54, 51, 54, 52, 54, 53, 54, 54, 54, 55, 54, 56, 54, 57, 55, 48, 55, 49, 55, 50, 55, 51, 55, 52, 55, 53, 55, 54, 55, 55, 55, 56, 55, 57, 56, 48, 56, 49, 56, 50, 56, 51, 56, 52, 56, 53, 56, 54, 56, 55, 56, 56, 56, 57, 57, 48, 57, 49, 57, 50, 57, 51, 57, 52, 57, 53, 57, 54, 57, 55, 57, 56, 57, 57]⟩
theorem digT_at : ∀ i, i < 10 → digT.extract i (i + 1) = itoaS i := by decide +kernel
theorem tabT_at : ∀ i, i < 100 → 10 ≤ i → tabT.extract (i * 2) (i * 2 + 2) = itoaS i := by decide +kernel
end Go.Gim
namespace Go.Proofs.YtmecdhbiinpepaaDoor
open Go.RowKit Go.Gim

set_option maxHeartbeats 1600000 in
set_option maxRecDepth 1000000 in
theorem itoaSmall_any (i : Nat) (w : World) (hi : i < 100) : Calls Tryd.prog 84 #[.int .i64 i] w fun e w' => e = .returned (.string (itoaS i)) ∧ w' = w := by
  by_cases h : i < 10
  · have h1 : (i : Int) < 10 := by omega
    have h2 : (0 : Int) ≤ (i : Int) := by omega
    have h3 : (i : Int) + 1 ≤ 36 := by omega
    have h4 : (i : Int) ≤ (i : Int) + 1 := by omega
    go_enter Tryd.func84, Tryd.ntmps84
    go_wp2_with fail
    go_ret
    exact ⟨congrArg (fun b => Ending.returned (.string b)) (digT_at i h), rfl⟩
  · have h1 : ¬ (i : Int) < 10 := by omega
    go_enter Tryd.func84, Tryd.ntmps84
    go_wp2_with fail
    go_ret
    exact ⟨congrArg (fun b => Ending.returned (.string b)) (tabT_at i hi (by omega)), rfl⟩
set_option maxHeartbeats 1600000 in
set_option maxRecDepth 1000000 in
theorem itoa_any (i : Nat) (w : World) (hi : i < 100) : Calls Tryd.prog 37 #[.int .i64 i] w fun e w' => e = .returned (.string (itoaS i)) ∧ w' = w := by
  have h1 : (i : Int) < 100 := by omega
  have h2 : (0 : Int) ≤ (i : Int) := by omega
  have hf : ∀ w, Calls Tryd.prog 76 #[.int .i64 i, .int .i64 10] w fun e w' => e = .returned (.string (itoaS i)) ∧ w' = w := by
    intro w
    go_enter Tryd.func76, Tryd.ntmps76
    go_wp2_with fail
    refine (itoaSmall_any i _ hi).mono ?_
    rintro e w1 ⟨rfl, rfl⟩
    go_wp2_with fail
    go_ret
    exact ⟨rfl, rfl⟩
  have hg : ∀ w, Calls Tryd.prog 58 #[.int .i64 i] w fun e w' => e = .returned (.string (itoaS i)) ∧ w' = w := by
    intro w
    go_enter Tryd.func58, Tryd.ntmps58
    go_wp2_with fail
    refine (hf _).mono ?_
    rintro e w1 ⟨rfl, rfl⟩
    go_wp2_with fail
    go_ret
    exact ⟨rfl, rfl⟩
  go_enter Tryd.func37, Tryd.ntmps37
  go_wp2_with fail
  refine (hg _).mono ?_
  rintro e w1 ⟨rfl, rfl⟩
  go_wp2_with fail
  go_ret
  exact ⟨rfl, rfl⟩
end Go.Proofs.YtmecdhbiinpepaaDoor

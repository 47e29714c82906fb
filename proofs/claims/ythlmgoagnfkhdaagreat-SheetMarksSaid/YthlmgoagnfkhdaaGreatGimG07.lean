/- What package dice's functions compute: New, Next, Left, and what Low does. Conditions: at most 1000 numbers are handed in. -/
import Derived.Test.YthlmgoagnfkhdaaGreatGimG02
import Derived.Test.YthlmgoagnfkhdaaGreatGimG01
import Derived.Test.YthlmgoagnfkhdaaGreatRows
set_option maxHeartbeats 6400000
set_option maxRecDepth 1000000
set_option linter.unusedVariables false
set_option linter.unusedSimpArgs false
namespace Go.Proofs.YthlmgoagnfkhdaaGreat
open Go.RowKit Go.Gim
structure Dice where
 d : Nat
 sv : Value
 nums : List Int
 told : Nat
 last : Int
structure DiceAt (w : World) (D : Dice) : Prop where
 blk : Blk w D.d 102 #[D.sv, .int .i64 D.told, .int .u32 D.last]
 row : w.ownsRow 0 30 1 D.sv D.nums.length (D.nums.map (Value.int .u32))
 apart : D.sv.ownBlock ≠ some D.d
 told : D.told ≤ D.nums.length
 len : D.nums.length ≤ 1000
 wf : ∀ n ∈ D.nums, n ≤ 4294967295
def Dice.succ (n : Int) : Int := (n * 1664525 + 1013904223) % 4294967296
def Dice.tells (D : Dice) : Int := if D.told < D.nums.length then D.nums.getD D.told 0 else Dice.succ D.last
def Dice.then (D : Dice) : Dice := if D.told < D.nums.length then { D with told := D.told + 1, last := D.nums.getD D.told 0 } else { D with last := Dice.succ D.last }
theorem DiceAt.mod {S : Nat → Prop} {w w' : World} {D : Dice} (h : DiceAt w D) (hm : Mod S w w') (h1 : ¬ S D.d) (h2 : ∀ k, D.sv.ownBlock = some k → ¬ S k) : DiceAt w' D :=
 ⟨h.blk.mod hm h1, by
  have hr := h.row
  refine ⟨hr.1, ?_⟩
  rcases hr.2 with hn | ⟨g, cap, cur, hv, hb, hg, rest⟩
  ·exact .inl hn
  ·refine .inr ⟨g, cap, cur, hv, hb, ?_, rest⟩
   rw [hm.block g (Array.getElem?_eq_some_iff.1 hg).1 (h2 g (by rw [hv]; rfl))]
   exact hg, h.apart, h.told, h.len, h.wf⟩
theorem DiceAt.drewN {w : World} {D : Dice} (h : DiceAt w D) (n : Nat) : DiceAt (w.drewN n) D :=
 h.mod ((Mod.refl (fun _ => False) w).drewN n) (fun f => f) (fun _ _ f => f)
theorem DiceAt.ext {w w' : World} {D : Dice} (h : DiceAt w D) (hm : Ext w w') : DiceAt w' D := h.mod hm (fun f => f) (fun _ _ f => f)
theorem DiceAt.step {w w' : World} {D : Dice} (h : DiceAt w D) (t : Nat) (l : Int) (ht : t ≤ D.nums.length) (hm : Mod (· = D.d) w w')
  (hb : Blk w' D.d 102 #[D.sv, .int .i64 t, .int .u32 l]) : DiceAt w' { D with told := t, last := l } :=
 ⟨hb, by
  have hr := h.row
  refine ⟨hr.1, ?_⟩
  rcases hr.2 with hn | ⟨g, cap, cur, hv, hb, hg, rest⟩
  ·exact .inl hn
  ·refine .inr ⟨g, cap, cur, hv, hb, ?_, rest⟩
   rw [hm.block g (Array.getElem?_eq_some_iff.1 hg).1 (fun e => h.apart (by rw [hv]; simp only [Value.ownBlock]; rw [← e]))]
   exact hg, h.apart, ht, h.len, h.wf⟩
theorem next_in (b nb cap len k : Nat) (last n : Int) (w : World)
  (h0 : w.cell? ⟨b, 0, none⟩ = some (.slice (some ⟨nb, 0, none⟩) len cap)) (h1 : w.cell? ⟨b, 1, none⟩ = some (.int .i64 k)) (h2 : w.cell? ⟨b, 2, none⟩ = some (.int .u32 last))
  (f1 : w.frozen? ⟨b, 1, none⟩ = false) (f2 : w.frozen? ⟨b, 2, none⟩ = false) (hk : k < len) (_hl : len ≤ 1000) (hc : w.cell? ⟨nb, k, none⟩ = some (.int .u32 n)) :
  Calls Tryz.prog 143 #[.pointer (some ⟨b, 0, none⟩)] w fun e w' => e = .returned (.int .u32 n) ∧ ∃ m, w' = ((w.drewN m).setCell ⟨b, 2, none⟩ (.int .u32 n)).setCell ⟨b, 1, none⟩ (.int .i64 (k+1)) := by
 have hk' : (k : Int) < (len : Int) := by omega
 go_enter Tryz.func143, Tryz.ntmps143
 go_wp2
 go_quiet (fail)
 go_wp2
 go_region
 all_goals go_wp2
 go_ret
 exact ⟨rfl, _, rfl⟩
theorem next_out (b len cap k : Nat) (ao : Option Addr) (last : Int) (w : World)
  (h0 : w.cell? ⟨b, 0, none⟩ = some (.slice ao len cap)) (h1 : w.cell? ⟨b, 1, none⟩ = some (.int .i64 k)) (h2 : w.cell? ⟨b, 2, none⟩ = some (.int .u32 last))
  (f2 : w.frozen? ⟨b, 2, none⟩ = false) (hk : len ≤ k) (_hl : k ≤ 1000) :
  Calls Tryz.prog 143 #[.pointer (some ⟨b, 0, none⟩)] w fun e w' => e = .returned (.int .u32 (Dice.succ last)) ∧ ∃ m, w' = (w.drewN m).setCell ⟨b, 2, none⟩ (.int .u32 (Dice.succ last)) := by
 have hk' : ¬ ((k : Int) < (len : Int)) := by omega
 unfold Dice.succ
 go_enter Tryz.func143, Tryz.ntmps143
 go_wp2
 go_quiet (fail)
 go_wp2
 go_ret
 exact ⟨rfl, _, rfl⟩
theorem Dice.tells_le {D : Dice} (h : ∀ n ∈ D.nums, n ≤ 4294967295) : D.tells ≤ 4294967295 := by
 unfold Dice.tells
 split
 ·rename_i hk
  rw [show D.nums.getD D.told 0 = D.nums[D.told] from by simp [List.getD, hk]]
  exact h _ (List.getElem_mem hk)
 ·unfold Dice.succ; omega
theorem next_at (w : World) (D : Dice) (h : DiceAt w D) :
  Calls Tryz.prog 143 #[.pointer (some ⟨D.d, 0, none⟩)] w fun e w' => e = .returned (.int .u32 D.tells) ∧ DiceAt w' D.then ∧ Mod (· = D.d) w w' := by
 have h0 := h.blk.cell 0
 have h1 := h.blk.cell 1
 have h2 := h.blk.cell 2
 have f1 := h.blk.free 1
 have f2 := h.blk.free 2
 have ht := h.told
 have hl := h.len
 by_cases hk : D.told < D.nums.length
 ·rcases h.row.2 with ⟨_, hn⟩ | ⟨g, cap, cur, hv, hb, hg, hrest⟩
  ·omega
  ·have hc : w.cell? ⟨g, D.told, none⟩ = some (.int .u32 (D.nums.getD D.told 0)) := by
    have hr := h.row
    rw [hv] at hr
    rw [hr.cellAt D.told (by omega)]
    simp [List.getD, hk]
   refine (next_in D.d g cap D.nums.length D.told D.last _ w (by rw [h0, hv]; rfl) h1 h2 f1 f2 hk hl hc).mono ?_
   rintro e w' ⟨rfl, m, rfl⟩
   have hm : Mod (· = D.d) w (((w.drewN m).setCell ⟨D.d, 2, none⟩ (.int .u32 (D.nums.getD D.told 0))).setCell ⟨D.d, 1, none⟩ (.int .i64 (D.told+1))) :=
    (((Mod.refl (· = D.d) w).drewN m).setCell (p := ⟨D.d, 2, none⟩) (fun _ => rfl) _).setCell (p := ⟨D.d, 1, none⟩) (fun _ => rfl) _
   refine ⟨by simp only [Dice.tells, if_pos hk], ?_, hm⟩
   simp only [Dice.then, if_pos hk]
   exact h.step (D.told + 1) _ (by omega) hm (((h.blk.drewN m).set 2 _).set 1 _)
 ·obtain ⟨ao, cap, hv⟩ : ∃ ao cap, D.sv = .slice ao D.nums.length cap := by
   rcases h.row.2 with ⟨hv, hn⟩ | ⟨g, cap, cur, hv, _⟩
   ·exact ⟨none, 0, by rw [hv, hn]⟩
   ·exact ⟨_, cap, hv⟩
  refine (next_out D.d D.nums.length cap D.told ao D.last w (by rw [h0, hv]; rfl) h1 h2 f2 (by omega) (by omega)).mono ?_
  rintro e w' ⟨rfl, m, rfl⟩
  have hm : Mod (· = D.d) w ((w.drewN m).setCell ⟨D.d, 2, none⟩ (.int .u32 (Dice.succ D.last))) :=
   ((Mod.refl (· = D.d) w).drewN m).setCell (p := ⟨D.d, 2, none⟩) (fun _ => rfl) _
  refine ⟨by simp only [Dice.tells, if_neg hk], ?_, hm⟩
  simp only [Dice.then, if_neg hk]
  exact h.step D.told _ ht hm ((h.blk.drewN m).set 2 _)
def lowN (x : Int) (n : Nat) : Nat := (x % 18446744073709551616).toNat % n
theorem lowN_lt (x : Int) (n : Nat) (h : 0 < n) : lowN x n < n := Nat.mod_lt _ h
theorem lowN_eq (x : Int) (n : Nat) : (lowN x n : Int) = x % 18446744073709551616 % n := by
 unfold lowN
 rw [Int.natCast_emod, Int.toNat_of_nonneg (Int.emod_nonneg _ (by decide))]
theorem low_math (x n : Int) (h1 : 1 ≤ n) (h2 : n ≤ 1000000) : wrap64 ((IntKind.u64.wrap x).tmod n) = x % 18446744073709551616 % n := by
 have e : IntKind.u64.wrap x = x % 18446744073709551616 := by simp [IntKind.wrap, IntKind.bits, IntKind.signed]
 have h0 : 0 ≤ x % 18446744073709551616 := Int.emod_nonneg _ (by decide)
 rw [e, Int.tmod_eq_emod_of_nonneg h0]
 have ha := Int.emod_nonneg (x % 18446744073709551616) (show n ≠ 0 by omega)
 have hb := Int.emod_lt_of_pos (x % 18446744073709551616) (show 0 < n by omega)
 exact IntWalk.wrap64_in _ ⟨by omega, by omega⟩
theorem low_any (x n : Int) (w : World) (h1 : 1 ≤ n) (h2 : n ≤ 1000000) :
  Calls Tryz.prog 21 #[.int .i64 x, .int .i64 n] w fun e w' => e = .returned (.int .i64 (lowN x n.toNat)) ∧ w' = w := by
 have hb : (n == 0) = false := by simp; omega
 have hm := low_math x n h1 h2
 rw [lowN_eq, Int.toNat_of_nonneg (by omega)]
 have Hm := Lib.hid hm
 clear hm
 go_enter Tryz.func21, Tryz.ntmps21
 go_wp2
 go_ret
 exact ⟨ret_int Hm.out, rfl⟩
theorem Tryz.info30 : (Tryz.prog.info? 30).map (fun i => (i.zero, i.size, i.bytes)) = some (some (.int .u32 0), 1, 4) := by kernel_rfl
def NewDice (zs : List Int) (w : World) (e : Ending) (w' : World) : Prop :=
 ∃ d sv, e = .returned (.pointer (some ⟨d, 0, none⟩)) ∧ DiceAt w' ⟨d, sv, zs, 0, 0⟩ ∧ Ext w w' ∧ w.heap.size ≤ d ∧ (∀ k, sv.ownBlock = some k → w.heap.size ≤ k)
theorem newDice_mk {zs : List Int} {w w1 : World} {ao : Option Addr} {cap : Nat} (hl : zs.length ≤ 1000) (hw : ∀ n ∈ zs, n ≤ 4294967295) (hown : w1.ownsRow w.heap.size 30 1 (.slice ao zs.length cap) zs.length (zs.map (Value.int .u32))) (hgrow : Ext w w1) :
  NewDice zs w (.returned (.pointer (some ⟨w1.heap.size, 0, none⟩))) (w1.alloc (.cells #[.slice ao zs.length cap, .int .i64 0, .int .u32 0] 102)) := by
 have hlt : ∀ k, (Value.slice ao zs.length cap).ownBlock = some k → w.heap.size ≤ k ∧ k < w1.heap.size := hown.lt
 refine ⟨w1.heap.size, _, rfl, ⟨Blk.new _ _ _, ?_, ?_, Nat.zero_le _, hl, hw⟩, hgrow.alloc _, hgrow.size, fun k hk => (hlt k hk).1⟩
 ·have h2 := hown.alloc (.cells #[.slice ao zs.length cap, .int .i64 0, .int .u32 0] 102)
  refine ⟨h2.1, ?_⟩
  rcases h2.2 with hn | ⟨g, cap', cur, hv, hb, hg, rest⟩
  ·exact .inl hn
  ·exact .inr ⟨g, cap', cur, hv, Nat.zero_le _, hg, rest⟩
 ·intro hk
  have := (hlt _ hk).2
  exact absurd this (Nat.lt_irrefl _)
theorem new_any (w : World) (ao : Option Addr) (cap : Nat) (zs : List Int) (hl : zs.length ≤ 1000) (hw : ∀ n ∈ zs, n ≤ 4294967295)
  (hr : Reads w 1 ao zs.length (zs.map (Value.int .u32))) :
  Calls Tryz.prog 13 #[.slice ao zs.length cap] w (NewDice zs w) := by
 obtain ⟨i0, hi, hz0, hz1, hz2⟩ := info_parts Tryz.info30
 cases ao with
 | none =>
  obtain ⟨hr1, hr2⟩ := hr
  have hz : zs.length = 0 := by
   by_cases h : 0 < zs.length
   ·obtain ⟨b, off, h, _⟩ := hr2 h; cases h
   ·omega
  obtain rfl : zs = [] := List.length_eq_zero_iff.1 hz
  show Calls _ _ #[.slice none 0 cap] _ _
  clear hr1 hr2 hz hl
  go_enter Tryz.func13, Tryz.ntmps13
  go_wp2
  go_ret
  exact newDice_mk (zs := []) (by simp) (by simp) (World.ownsRow_nil w _ _ _) (Mod.refl _ _)
 | some ad =>
  have hc1 : ∀ j u, (zs.map (Value.int .u32))[j]? = some u → w.cell? (ad.add j) = some u := by
   intro j u hj
   obtain ⟨b, off, h, hc⟩ := hr.2 (by have := (List.getElem?_eq_some_iff.1 hj).1; simp at this; omega)
   cases h
   exact Reads.adds hc j u hj
  clear hr
  go_enter Tryz.func13, Tryz.ntmps13
  go_wp2_with (at_builtin; refine wpList_append_own _ rfl _ _ 74 rfl w.heap.size 30 i0 (.int .u32 0) 1 4 Tryz.underlying74 hi hz0 hz1 hz2 rfl (by decide) _ _ _ rfl (World.ownsRow_nil w _ _ _) ad zs.length cap (zs.map (.int .u32)) rfl ?c0 hc1 ?c2 ?c3 ?c4 ?c5 ?_)
  case c0 => simp
  case c2 => exact map_oneCell _ (fun _ => rfl) _
  case c3 => unfold maxLen; omega
  case c4 => omega
  case c5 => exact Nat.le_refl _
  intro v' w1 hown hgrow hnil
  clear hnil hc1
  obtain ⟨ao', cap', rfl, _, _⟩ := ownsRow_shape hown
  go_wp2
  go_ret
  exact newDice_mk hl hw hown ((Mod.refl _ w).grown hgrow (by simp [Value.ownBlock]))
theorem lead_any (c : UInt8) (w : World) : Calls Tryz.prog 166 #[.int .u8 c.toNat] w fun e w' => e = .returned (.bool (!inB c)) ∧ w' = w := by
 have hb : c.toNat < 256 := c.toNat_lt
 by_cases h1 : (c.toNat : Int) < 128
 ·have h : (!inB c) = true := by simp [inB]; omega
  rw [h]
  clear h
  go_enter Tryz.func166, Tryz.ntmps166
  go_wp2
  go_ret
  exact ⟨rfl, rfl⟩
 ·by_cases h2 : (191 : Int) < (c.toNat : Int)
  ·have h : (!inB c) = true := by simp [inB]; omega
   rw [h]
   clear h
   go_enter Tryz.func166, Tryz.ntmps166
   go_wp2
   go_ret
   exact ⟨rfl, rfl⟩
  ·have h : (!inB c) = false := by simp [inB]; omega
   rw [h]
   clear h
   go_enter Tryz.func166, Tryz.ntmps166
   go_wp2
   go_ret
   exact ⟨rfl, rfl⟩
theorem getD_of {α : Type} {l : List α} {j : Nat} {d : α} (h : j < l.length) : l[j]? = some (l.getD j d) := by simp [List.getD, h]
theorem ne_at {α : Type} [DecidableEq α] (d : α) : ∀ (xs ys : List α), xs.length = ys.length → xs ≠ ys → ∃ j, j < xs.length ∧ xs.getD j d ≠ ys.getD j d
 | [], [], _, h => absurd rfl h
 | x :: xs, y :: ys, hl, h => by
  by_cases hx : x = y
  ·subst hx
   obtain ⟨j, hj, hne⟩ := ne_at d xs ys (by simpa using hl) (fun e => h (by rw [e]))
   exact ⟨j + 1, by simpa using hj, by simpa [List.getD] using hne⟩
  ·exact ⟨0, by simp, by simpa [List.getD] using hx⟩
 | [], _ :: _, hl, _ => by simp at hl
 | _ :: _, [], hl, _ => by simp at hl
theorem ints_any (w : World) (ao bo : Option Addr) (cx cy : Nat) (xs ys : List Int) (h1 : Reads w 1 ao xs.length (xs.map (Value.int .i64))) (h2 : Reads w 1 bo ys.length (ys.map (Value.int .i64))) (hl : xs.length ≤ 1000000) (hl2 : ys.length ≤ 1000000) :
  Calls Tryz.prog 42 #[.slice ao xs.length cx, .slice bo ys.length cy] w fun e w' => e = .returned (.bool (decide (xs = ys))) ∧ ∃ m, w' = w.drewN m := by
 by_cases hn : xs.length = ys.length
 ·have hne : ((xs.length : Int) != (ys.length : Int)) = false := by simp [hn]
  have Hn := Lib.hid hn
  clear hn
  go_enter Tryz.func42, Tryz.ntmps42
  go_wp2_with fail
  go_loopw [5] (fun i wr => ∃ (k m : Nat), k ≤ xs.length ∧ i = .int .i64 k ∧ wr = w.drewN m ∧ ∀ j, j < k → xs.getD j 0 = ys.getD j 0) (fun i _ => xs.length - (intOf i).toNat)
  case atStart => exact ⟨0, 0, Nat.zero_le _, rfl, rfl, fun j hj => absurd hj (Nat.not_lt_zero _)⟩
  case round =>
   obtain ⟨k, m, hk, rfl, rfl, hs⟩ := hrel
   have Hs := Lib.hid hs
   clear hs
   by_cases hlt : k < xs.length
   ·have hlt2 : k < ys.length := by rw [← Hn.out]; exact hlt
    obtain ⟨b1, o1, rfl⟩ := h1.some (by omega)
    obtain ⟨b2, o2, rfl⟩ := h2.some (by omega)
    have c1 := h1.at (j := k) (v := (Value.int .i64) (xs.getD k 0)) (by rw [List.getElem?_map, getD_of hlt]; rfl)
    have c2 := h2.at (j := k) (v := (Value.int .i64) (ys.getD k 0)) (by rw [List.getElem?_map, getD_of hlt2]; rfl)
    have i1 : (k : Int) < (xs.length : Int) := by omega
    have i2 : (k : Int) < (ys.length : Int) := by omega
    by_cases he : xs.getD k 0 = ys.getD k 0
    ·rw [← he] at c2
     generalize hv : xs.getD k 0 = v at *
     have Hv : Hid (xs.getD k 0 = ys.getD k 0) := by rw [hv]; exact he
     clear he hv h1 h2
     go_wp2_with fail
     go_quiet (fail)
     go_wp2_with fail
     go_roundw
     case rel =>
      refine ⟨k + 1, _, by omega, by go_num, rfl, fun j hj => ?_⟩
      by_cases e : j = k
      ·rw [e]; exact Hv.out
      ·exact Hs.out j (by omega)
     case measure => simp [intOf]; omega
    ·generalize hv : xs.getD k 0 = v at *
     generalize hu : ys.getD k 0 = u at *
     have Hv : Hid (xs ≠ ys) := fun e => he (by rw [← hv, ← hu, e])
     have hb := (show (v == u) = false by simpa using he)
     clear h1 h2 hv hu he
     go_wp2_with fail
     go_quiet (fail)
     go_wp2_with fail
     go_ret
     exact ⟨ret_bool (decide_eq_false Hv.out).symm, _, World.drewN_drewN _ _ _⟩
   ·have i1 : ¬ ((k : Int) < (xs.length : Int)) := by omega
    have he : xs = ys := by
     apply Classical.byContradiction
     intro hne
     obtain ⟨j, hj, hjn⟩ := ne_at 0 xs ys Hn.out hne
     exact hjn (Hs.out j (by omega))
    have He := Lib.hid he
    clear he
    go_wp2_with fail
    go_ret
    exact ⟨ret_bool (decide_eq_true He.out).symm, _, rfl⟩
 ·have hne : ((xs.length : Int) != (ys.length : Int)) = true := by simp; omega
  have hd : decide (xs = ys) = false := decide_eq_false (fun e => hn (by rw [e]))
  rw [hd]
  clear hd hn
  go_enter Tryz.func42, Tryz.ntmps42
  go_wp2_with fail
  go_ret
  exact ⟨rfl, 0, rfl⟩
end Go.Proofs.YthlmgoagnfkhdaaGreat

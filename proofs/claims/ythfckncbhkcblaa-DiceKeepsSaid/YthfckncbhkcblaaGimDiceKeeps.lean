/- What becomes of the numbers behind New is nothing to the dice; a nil one tells 0, and none are left: the walk. Conditions: none. -/
import Derived.Test.YthfckncbhkcblaaGimDiceAwake
import Derived.Test.YthfckncbhkcblaaGimAppend
import Derived.Deep.RegionHeld3
namespace Go.Proofs.Ythfckncbhkcblaa
open Go.RowKit Go.Gim

set_option maxHeartbeats 1600000 in
set_option maxRecDepth 1000000 in
theorem diceKeeps_long (w : World) (ao : Option Addr) (len cap : Nat) (hl : 60 < len) (hm : len ≤ 9223372036854775807) :
    Calls Try.prog 6 #[.slice ao len cap] w fun e w' => e = .returned (.bool true) ∧ Ext w w' := by
  have hd : (60 : Int) < (len : Int) := by omega
  go_enter Try.func6, Try.ntmps6
  go_wp2_with fail
  refine (awake1_any _).mono ?_
  rintro e w' ⟨rfl, hx⟩
  go_wp2_with fail
  go_ret
  exact ⟨rfl, hx⟩

set_option maxHeartbeats 1600000 in
set_option maxRecDepth 1000000 in
theorem diceKeeps_any (w : World) (ao : Option Addr) (cap : Nat) (zs : List Int) (hl : zs.length ≤ 60)
    (hr : Reads w 1 ao zs.length (zs.map (Value.int .u32))) :
    Calls Try.prog 6 #[.slice ao zs.length cap] w fun e w' => e = .returned (.bool true) ∧ Ext w w' := by
  have hd : ¬ ((60 : Int) < (zs.length : Int)) := by omega
  go_enter Try.func6, Try.ntmps6
  have h0 := World.ownsRow_lit (base := w.heap.size) (e := 26) (size := 1) w #[] 0 (Nat.le_refl _) (by unfold maxLen; omega) rfl
  have hr0 := hr.alloc (.cells #[] 26)
  have hone := map_oneCell (Value.int .u32) (fun _ => rfl) zs
  have hb1 : 0 + zs.length ≤ maxLen := by unfold maxLen; omega
  have hb2 : (0 + zs.length) * 4 ≤ 140737488355328 := by omega
  have hb3 : w.heap.size ≤ (w.alloc (.cells #[] 26)).heap.size := by simp
  go_wp2_with (at_builtin; refine wpList_append_reads rfl _ _ 22 rfl w.heap.size 26 (.int .u32 0) 1 4 Try.info26 Try.underlying22 rfl (by decide) _ _ _ rfl h0 ao zs.length cap (zs.map (.int .u32)) rfl hr0 hone hb1 hb2 hb3 ?_)
  intro v' w1 hown hm _
  obtain ⟨ao', cap', rfl, _, hao⟩ := ownsRow_shape hown
  have hE1 : Ext w w1 := ((Mod.refl (fun _ => False) w).alloc _).trans hm (fun i hi e => by simp [Value.ownBlock] at e; omega)
  clear h0 hr0 hone hb1 hb2 hb3
  go_wp2_with fail
  refine (new_any _ _ _ zs (by omega) (Reads.own hown)).mono ?_
  rintro e w2 ⟨d, sv, rfl, hD, hx2, hd1, hs⟩
  have hown2 := ownsRow_mod hown hx2 (fun _ _ f => f)
  have hg : ∀ k, (Value.slice ao' zs.length cap').ownBlock = some k → w.heap.size ≤ k ∧ k < w1.heap.size := hown.lt
  have hE2 := hE1.ext_trans hx2
  clear hown hm
  go_wp2_with fail
  go_loopw [5] (fun i wr => ∃ (k : Nat) (ys : List Int), k ≤ zs.length ∧ i = .int .i64 k ∧ ys.length = zs.length ∧ wr.ownsRow w.heap.size 26 1 (.slice ao' zs.length cap') zs.length (ys.map (Value.int .u32)) ∧ DiceAt wr ⟨d, sv, zs, 0, 0⟩ ∧ Ext w wr) (fun i _ => zs.length - (intOf i).toNat)
  case atStart => exact ⟨0, zs, Nat.zero_le _, rfl, rfl, hown2, hD, hE2⟩
  case round =>
    obtain ⟨k, ys, hk, rfl, hys, hownr, hDr, hxr⟩ := hrel
    by_cases hlt : k < zs.length
    · obtain ⟨g, rfl⟩ := hao (by omega)
      have hgb := hg g rfl
      have hc := hownr.cellAt k (by omega)
      have hf := hownr.frozenAt k
      have hy : (ys.map (Value.int .u32))[k]? = some (.int .u32 (ys.getD k 0)) := by simp [List.getD, show k < ys.length by omega]
      rw [hy] at hc
      have hst := hownr.stored k (.int .u32 ((ys.getD k 0 + 1) % 4294967296))
      have hlt' : (k : Int) < (zs.length : Int) := by omega
      clear hy
      go_wp2_with fail
      go_roundw
      case rel =>
        have hm1 : ∀ v, Mod (fun i => i = g) wr (wr.setCell ⟨g, k, none⟩ v) := fun v => (Mod.refl (fun i => i = g) wr).setCell (p := ⟨g, k, none⟩) (fun _ => rfl) _
        refine ⟨k + 1, ys.set k ((ys[k] + 1) % 4294967296), by omega, by go_num, by simpa using hys, ?_, hDr.mod (hm1 _) ?_ ?_, hxr.trans (hm1 _) (fun i hi (e : i = g) => by omega)⟩
        · rw [List.map_set]; simpa [show k < ys.length by omega] using hst.1
        · intro (e : d = g); omega
        · intro j hj (e : j = g); have := hs j hj; omega
      case measure => simp [intOf]; omega
    · have hlt' : ¬ ((k : Int) < (zs.length : Int)) := by omega
      have hE3 : w.heap.size ≤ d := by have := hE1.size; omega
      clear hownr hown2 hE2 hE1 hx2
      go_wp2_with fail
      go_loopw [6] (fun i wq => ∃ (k : Nat) (L : Int), k ≤ zs.length ∧ i = .int .i64 k ∧ DiceAt wq ⟨d, sv, zs, k, L⟩ ∧ Ext w wq) (fun i _ => zs.length - (intOf i).toNat)
      case atStart => exact ⟨0, 0, Nat.zero_le _, rfl, hDr, hxr⟩
      case round =>
        clear hDr hxr hD
        obtain ⟨j, L, hj, rfl, hDq, hxq⟩ := hrel
        by_cases hl2 : j < zs.length
        · obtain ⟨b, off, rfl, hc⟩ := hr.2 (by omega)
          have hc1 : wr.cell? ⟨b, off + j, none⟩ = some (.int .u32 (zs.getD j 0)) := by
            have hu : w.cell? ⟨b, off + j, none⟩ = some (.int .u32 (zs.getD j 0)) := by
              rw [hc j (by simpa using hl2)]; simp [List.getD, hl2]
            rw [hxq.cell (p := ⟨b, off + j, none⟩) (World.block_lt_of_cell? w _ hu) (fun f => f)]; exact hu
          have hbd : b < w.heap.size := World.block_lt_of_cell? w _ (show w.cell? ⟨b, off, none⟩ = some (.int .u32 (zs.getD 0 0)) by
            have := hc 0 (by simp; omega)
            rw [Nat.add_zero] at this
            rw [this]; simp [List.getD, show 0 < zs.length by omega])
          clear hc hr
          have hl2' : (j : Int) < (zs.length : Int) := by omega
          have ht : Dice.tells ⟨d, sv, zs, j, L⟩ = zs.getD j 0 := by simp [Dice.tells, hl2]
          have hcell : ∀ w' : World, Mod (fun i => i = d) (wr.drewN 1) w' → w'.cell? ⟨b, off + j, none⟩ = some (.int .u32 (zs.getD j 0)) := fun w' h =>
            (h.cell (p := ⟨b, off + j, none⟩) (World.block_lt_of_cell? _ _ hc1) (fun e => by have e' : b = d := e; have := hE3; omega)).trans hc1
          go_wp2_with fail
          go_region_held3 (fun w' => w'.cell? ⟨b, off + j, none⟩ = some (.int .u32 (zs.getD j 0))) (first | exact hcell _ (by assumption) | go_keep)
            (first | (go_at_call 14; refine (next_at _ _ (hDq.drewN 1)).mono ?_; rintro e w' ⟨rfl, hD2, hm2⟩; rw [ht]))
          go_wp2_with fail
          go_roundw
          case rel =>
            refine ⟨j + 1, (Dice.then ⟨d, sv, zs, j, L⟩).last, by omega, by go_num, ?_, (hxq.drewN 1).trans hm2 (fun i hi (e : i = d) => by omega)⟩
            have e1 : Dice.then ⟨d, sv, zs, j, L⟩ = ⟨d, sv, zs, j + 1, (Dice.then ⟨d, sv, zs, j, L⟩).last⟩ := by simp [Dice.then, hl2]
            rw [e1] at hD2
            exact hD2
          case measure => simp [intOf]; omega
        · have hl2' : ¬ ((j : Int) < (zs.length : Int)) := by omega
          go_wp2_with fail
          refine (next_nil _).mono ?_
          rintro e w' ⟨rfl, rfl⟩
          go_wp2_with fail
          refine (left_nil _).mono ?_
          rintro e w' ⟨rfl, rfl⟩
          go_wp2_with fail
          refine (awake1_any _).mono ?_
          rintro e w3 ⟨rfl, hx3⟩
          go_wp2_with fail
          go_ret
          exact ⟨rfl, hxq.ext_trans hx3⟩

theorem diceKeeps_calls (w : World) (ao : Option Addr) (cap : Nat) (zs : List Int) (hr : Reads w 1 ao zs.length (zs.map (Value.int .u32))) (hm : zs.length ≤ maxLen) (_ : ∀ n ∈ zs, (Lit.int .u32 n).wf = true) :
    Calls Try.prog 6 #[.slice ao zs.length cap] w fun e w' => e = .returned (.bool true) ∧ Ext w w' := by
  by_cases h : zs.length ≤ 60
  · exact diceKeeps_any w ao cap zs h hr
  · exact diceKeeps_long w ao zs.length cap (by omega) (by unfold maxLen at hm; omega)

end Go.Proofs.Ythfckncbhkcblaa

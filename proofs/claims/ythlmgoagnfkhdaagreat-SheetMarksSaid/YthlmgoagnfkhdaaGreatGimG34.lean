/- The numbers of a table's ranges, rising: slices.Sorted(maps.Keys(m)). Conditions: at most 1000 ranges, their numbers rising. -/
import Derived.Test.YthlmgoagnfkhdaaGreatGimG33
import Derived.Test.YthlmgoagnfkhdaaGreatGimG06
set_option maxHeartbeats 6400000
set_option maxRecDepth 1000000
set_option linter.unusedVariables false
set_option linter.unusedSimpArgs false
namespace Go.Proofs
open Go.RowKit Go.Maps Go.Sort Go.Shelf Go.Gim
theorem Tryz.sortsA (m : Nat) : AnyZI.SortsIn Tryz.prog Tryz.sortedA_ren Fence.wide m :=
 ⟨fun blk off cap ss W hH hblk hsz => callsIn_wide.2 (AnyM.slices_Sort_int Tryz.sortA blk off cap ss W hH hblk hsz),
  fun p cap W => callsIn_wide.2 (AnyM.slices_Sort_int_none Tryz.sortA p cap W)⟩
end Go.Proofs
namespace Go.Proofs.YthlmgoagnfkhdaaGreat
open Go.RowKit Go.Maps Go.Sort Go.Shelf Go.Gim
theorem ids_any (tb mb : Nat) (last : Int) (L : Tb) (w : World) (hb : Blk w tb 120 #[.map (some mb), .int .i64 last]) (hm : MapIs Tryz.prog 3 w mb L) (hr : (idsR L).Pairwise (· < ·)) (hl : L.length ≤ 1000) :
  Calls Tryz.prog 41 #[.pointer (some ⟨tb, 0, none⟩)] w (inE.Out 3 (idsR L) w) := by
 obtain ⟨D0, hown, hT⟩ := hm
 have hmax : Maps.size D0 ≤ maxLen := by rw [hT.1]; unfold maxLen; omega
 have hbytes : Maps.size D0 * 8 ≤ 140737488355328 := by rw [hT.1]; omega
 have hks := fun ss hp => keys_sorted hown Tryz.underlying3 hT hr (ss := ss) hp
 have c0 : w.cell? ⟨tb, 0, none⟩ = some (.map (some mb)) := hb.cell 0
 have hbl := hown.lt
 refine (callsIn_wide (n := 6)).1 ?_
 have hseq : SeqGives Fence.wide 2 Tryz.prog 103 #[.pointer (some ⟨w.heap.size, 0, none⟩)] encZ (fun ss => ss.Perm (intKeys D0)) (Maps.size D0) (w.alloc (.cells #[.map (some mb)] 118)) :=
  AnyZI.keys_gives (ρ := Tryz.keysA_ren) { Tryz.keysA with } Fence.wide _ trivial rfl (by omega) w.heap.size mb L.length D0 _ (by simp) (by simp) (by
   obtain ⟨es, clock, hb, Ft, hs, hD⟩ := hown
   exact ⟨es, clock, (Below.heap_alloc _ _ mb hbl).trans hb, Ft, hs, hD⟩)
 have cK : ∀ mb W, CallsIn Fence.wide 5 Tryz.prog 70 #[.map mb] W fun e w' => e = .returned (.func (.func 103) #[] #[.pointer (some ⟨W.heap.size, 0, none⟩)]) ∧ w' = W.alloc (.cells #[.map mb] 118) := fun mb W => AnyZI.keys_in Tryz.keysA Fence.wide 5 trivial rfl mb W
 have cS := AnyZI.sorted_in Tryz.sortedA Fence.wide 5 trivial trivial trivial trivial rfl (by omega) (Tryz.sortsA _) (enters_of Tryz.func102 (by kernel_rfl) rfl) 103 #[.pointer (some ⟨w.heap.size, 0, none⟩)] trivial (enters_of Tryz.func103 (by kernel_rfl) rfl) _ _ hmax hbytes _ hseq
 change CallsIn _ _ Tryz.prog 69 _ _ _ at cS
 have hfK : Fence.wide.fn 70 := trivial
 have hfS : Fence.wide.fn 69 := trivial
 clear hseq hT hown hb hr hmax hbytes
 refine callsIn_of_wp Tryz.func41 rfl trivial ?_ rfl
 simp only [Tryz.ntmps41, List.size_toArray, List.length_cons, List.length_nil, Nat.reduceAdd, Nat.reduceSub, Array.replicate_succ, Array.replicate_zero, List.push_toArray, List.append_toArray, List.nil_append, List.cons_append]
 gi_wp2_with (first
  | (gi_at_call 70; refine (cK _ _).mono ?_; rintro e w' ⟨rfl, rfl⟩)
  | (gi_at_call 69; refine cS.mono ?_; rintro e w' ⟨v, ss, rfl, hS, hrow, hnil, hb⟩))
 go_ret
 obtain ⟨k1, k2⟩ := hks ss hS
 have hb2 : Below w.heap.size w w' := ((Below.refl _ w).alloc (Nat.le_refl _) _).trans (hb.mono (by simp))
 refine ⟨v, rfl, ?_, Mod.of_below hb2⟩
 have h5 := ownsRow_base_a hrow (show w.heap.size ≤ _ by simp)
 rw [k1, k2] at h5
 have e1 : inE.cells (idsR L) = (idsR L).map encZ := by
  unfold Enc.cells
  show ((idsR L).map fun x => [Value.int .i64 x]).flatten = _
  induction idsR L with
  | nil => rfl
  | cons x r ih => rw [List.map_cons, List.flatten_cons, ih]; rfl
 rw [e1, show (idsR L).length = L.length from by simp [idsR]]
 exact h5
end Go.Proofs.YthlmgoagnfkhdaaGreat

/- Edits with their spans in the first 70 bytes. Conditions: at most 1000 edits. -/
import Derived.Test.YtffplppglicibaaGimOf7
import Derived.Test.YtffplppglicibaaGimTailM
namespace Go.Proofs.Ytffplppglicibaa
open Go.RowKit Go.Gim

def edL (e : Ed) : Ed := ⟨(lowN e.a 70 : Nat), ((lowN e.a 70 : Nat) : Int) + (lowN e.b 4 : Nat), e.t⟩
def editsL (es : List Ed) : List Ed := es.map edL
theorem editsL_len (es : List Ed) : (editsL es).length = es.length := List.length_map _
theorem editsL_snoc {es : List Ed} {k : Nat} {x : Ed} (hx : es[k]? = some x) : editsL (es.take (k + 1)) = editsL (es.take k) ++ [edL x] := by
  obtain ⟨hk, rfl⟩ := List.getElem?_eq_some_iff.1 hx
  unfold editsL
  rw [List.take_succ_eq_append_getElem hk, List.map_append]; rfl

set_option maxHeartbeats 1600000 in
set_option maxRecDepth 1000000 in
theorem edits7_any (ao : Option Addr) (cap : Nat) (es : List Ed) (w : World) (hr : Reads w 3 ao es.length (edE.cells es)) (hn : es.length ≤ 1000) :
    Calls Try.prog 38 #[.slice ao es.length cap] w (edE.Out 37 (editsL es) w) := by
  have hl1 : maxLen = 9223372036854775807 := rfl
  obtain ⟨N, hN⟩ : ∃ N, N = es.length := ⟨_, rfl⟩
  have HN := Lib.hid hN
  have Hr := Lib.hid hr
  unfold Enc.Out
  rw [editsL_len, ← hN]
  rw [← hN] at hn
  clear hr hN
  go_enter Try.func38, Try.ntmps38
  go_wp2_with fail
  go_loopw [3, 4] (fun v i wr => ∃ k : Nat, k ≤ N ∧ i = .int .i64 k ∧ Hid (wr.ownsRow w.heap.size 37 3 v k (edE.cells (editsL (es.take k)))) ∧ Ext w wr) (fun _ i _ => N - (intOf i).toNat)
  case atStart => exact ⟨0, by omega, rfl, Lib.hid (World.ownsRow_nil _ _ _ _), Mod.refl _ _⟩
  case round =>
    obtain ⟨k, hk, rfl, HO, hx⟩ := hrel
    by_cases hlt : k < N
    · have hlt' : (k : Int) < (N : Int) := by omega
      have hk0 : (0 : Int) ≤ (k : Int) := by omega
      have hlk : k < es.length := by rw [← HN.out]; exact hlt
      obtain ⟨b, off, rfl⟩ := Hr.out.some (by rw [← HN.out]; omega)
      obtain ⟨q0, q1, q2⟩ := reads_ed (Hr.out.mod hx (fun _ _ f => f)) (List.getElem?_eq_getElem hlk)
      have Hst := Lib.hid (editsL_snoc (List.getElem?_eq_getElem hlk))
      generalize es[k] = x at *
      obtain ⟨p, q, t⟩ := x
      unfold edL at Hst
      simp only at q0 q1 q2 Hst
      have BA := lowN_lt p 70 (by omega)
      have BB := lowN_lt q 4 (by omega)
      have L1 := fun v => lowC p 70 70 rfl (by omega) (by omega) v
      have L2 := Lib.hid (fun v => lowC q 4 4 rfl (by omega) (by omega) v)
      generalize lowN p 70 = A at *
      generalize lowN q 4 = B at *
      obtain ⟨va, vc, hva, _, _⟩ := ownsRow_shape HO.out
      subst hva
      have hbl := World.block_lt_of_cell? wr _ q0
      go_wp2_with fail
      refine (L1 _).mono ?_
      rintro e wz ⟨rfl, rfl⟩
      go_upto_region 6 with fail
      refine wp_region_ext_tail1 18 (.slice va k vc) _ rfl rfl rfl (by kernel_rfl) (by kernel_rfl) (fun _ _ _ _ h => h) ?_
      simp only [List.take_succ_cons, List.take_zero, List.drop_succ_cons, List.drop_zero, Act.put, List.setIfInBounds_toArray, List.set_cons_zero, List.set_cons_succ, Nat.reduceSub]
      repeat (go_big_quiet_step (exact Calls.ext_of_same (L2.out _)))
      refine wpQuiet_nil ?_
      intro we hxe
      have hxm := hx.ext_trans hxe
      have Hom := Lib.hid (ownsRow_mod HO.out hxe (fun _ _ f => f))
      clear q0 q1 q2 L1 L2 hbl
      go_wp2_with (at_builtin; refine wpList_append_reads rfl _ _ 47 rfl w.heap.size 37 _ 3 32 Try.info37 Try.underlying47 rfl (by decide) _ k _ rfl (Hom.out.alloc _) _ 1 1 [.int .i64 (A : Nat), .int .i64 ((A : Int) + B), .string t] rfl ?hrd (edE.one ⟨(A : Nat), (A : Int) + B, t⟩) (by omega) (by omega) ?hbs ?_)
      case hrd =>
        have := Reads.new we 37 #[.int .i64 (A : Nat), .int .i64 ((A : Int) + B), .string t] 3 1 rfl
        simpa using this
      case hbs => have := hxm.size; simp at this ⊢; omega
      intro v' w7 hown hm7 hbk
      have hx7 := (hxm.alloc (.cells #[.int .i64 (A : Nat), .int .i64 ((A : Int) + B), .string t] 37)).trans hm7 (fun i hi e => by have h1 := (Hom.out.lt i e).1; omega)
      have Hown := Lib.hid hown
      clear hm7 hbk hown hxm
      go_wp2_with fail
      go_roundw
      case rel => exact ⟨k + 1, by omega, by go_num, Lib.hid (by rw [Hst.out, edE.cells_append]; exact Hown.out), hx7⟩
      case measure => simp [intOf]; omega
    · have hlt' : ¬ (k : Int) < (N : Int) := by omega
      obtain rfl : k = N := by omega
      have hO := HO.out
      rw [List.take_of_length_le (by rw [← HN.out]; exact Nat.le_refl _)] at hO
      have HO2 := Lib.hid hO
      clear hO HO
      go_wp2_with fail
      go_ret
      exact ⟨_, rfl, HO2.out, hx⟩
end Go.Proofs.Ytffplppglicibaa

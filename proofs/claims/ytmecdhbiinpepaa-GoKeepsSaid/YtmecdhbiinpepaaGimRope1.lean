/- What rope's Len, Text, rises, Slice, Pieces compute. Conditions: a rope of at most 65536 bytes. -/
import Derived.Test.YtmecdhbiinpepaaGimPackE
namespace Go.Proofs.Ytmecdhbiinpepaa
open Go.RowKit Go.Gim

set_option maxHeartbeats 800000 in
set_option maxRecDepth 1000000 in
theorem len_nil (w : World) : Calls Try.prog 37 #[.pointer none] w fun e w' => e = .returned (.int .i64 0) ∧ w' = w := by
  go_enter Try.func37, Try.ntmps37
  go_wp2_with fail
  go_ret
  exact ⟨rfl, rfl⟩
set_option maxHeartbeats 800000 in
set_option maxRecDepth 1000000 in
theorem len_any (R : Rp) (w : World) (h : RopeAt w R) : Calls Try.prog 37 #[.pointer (some ⟨R.rb, 0, none⟩)] w fun e w' => e = .returned (.int .i64 (R.t.size : Nat)) ∧ w' = w := by
  obtain ⟨_, c1, _, hb⟩ := h.cells
  go_enter Try.func37, Try.ntmps37
  go_wp2_with fail
  refine (size_any R.t _ h.tree).mono ?_
  rintro e w' ⟨rfl, rfl⟩
  go_wp2_with fail
  go_ret
  exact ⟨rfl, rfl⟩

set_option maxHeartbeats 800000 in
set_option maxRecDepth 1000000 in
theorem text_nil (w : World) : Calls Try.prog 39 #[.pointer none] w fun e w' => e = .returned (.string ⟨#[]⟩) ∧ w' = w := by
  go_enter Try.func39, Try.ntmps39
  go_wp2_with fail
  go_ret
  exact ⟨rfl, rfl⟩
set_option maxHeartbeats 800000 in
set_option maxRecDepth 1000000 in
theorem text_rope (R : Rp) (w : World) (h : RopeAt w R) : Calls Try.prog 39 #[.pointer (some ⟨R.rb, 0, none⟩)] w fun e w' => e = .returned (.string (bs R.text)) ∧ Ext w w' := by
  obtain ⟨_, c1, _, hb⟩ := h.cells
  have hs := h.size
  have e : cut R.t.text 0 (R.t.size : Int) = R.text := cut_all _
  have E := Lib.hid e
  clear e
  go_enter Try.func39, Try.ntmps39
  go_wp2_with fail
  refine wp_region_ext_lit (by kernel_rfl) (by kernel_rfl) ?_
  repeat (go_big_quiet_step (first | exact Calls.ext_of_same (size_any R.t _ (h.tree.ext (Mod.of_below (ext_below _ _)))) | exact Calls.ext_of (text_any R.t 0 (R.t.size : Int) _ (h.tree.ext (Mod.of_below (ext_below _ _))) (by omega) (by omega) (by omega) (by omega))))
  refine wpQuiet_nil ?_
  intro we hxe
  go_wp2_with fail
  go_ret
  exact ⟨ret_string (by rw [E.out]), hxe⟩

/-- Is a stretch in a text of n bytes? -/
def risesB (f g : Int) (n : Nat) : Bool := decide (0 ≤ f ∧ f ≤ g ∧ g ≤ n)
theorem rises_out {f g : Int} {n : Nat} (h : risesB f g n = true) : 0 ≤ f ∧ f ≤ g ∧ g ≤ n := by simpa [risesB] using h
theorem rises_of {f g : Int} {n : Nat} (h : 0 ≤ f ∧ f ≤ g ∧ g ≤ n) : risesB f g n = true := by simpa [risesB] using h
theorem rises_not {f g : Int} {n : Nat} (h : ¬ (0 ≤ f ∧ f ≤ g ∧ g ≤ n)) : risesB f g n = false := by
  unfold risesB; exact decide_eq_false h
set_option maxHeartbeats 800000 in
set_option maxRecDepth 1000000 in
theorem rises_any (R : Rp) (f g : Int) (w : World) (h : RopeAt w R) : Calls Try.prog 102 #[.pointer (some ⟨R.rb, 0, none⟩), .int .i64 f, .int .i64 g] w fun e w' => e = .returned (.bool (risesB f g R.t.size)) ∧ w' = w := by
  obtain ⟨_, c1, _, hb⟩ := h.cells
  by_cases h1 : 0 ≤ f
  · by_cases h2 : f ≤ g
    · go_enter Try.func102, Try.ntmps102
      go_wp2_with fail
      refine (size_any R.t _ h.tree).mono ?_
      rintro e w' ⟨rfl, rfl⟩
      go_wp2_with fail
      go_ret
      exact ⟨ret_bool (by simp [risesB, h1]; omega), rfl⟩
    · have h2' : decide (f ≤ g) = false := by simpa using h2
      go_enter Try.func102, Try.ntmps102
      go_wp2_with fail
      go_ret
      exact ⟨ret_bool (rises_not (by omega)).symm, rfl⟩
  · have h1' : decide (0 ≤ f) = false := by simpa using h1
    go_enter Try.func102, Try.ntmps102
    go_wp2_with fail
    go_ret
    exact ⟨ret_bool (rises_not (by omega)).symm, rfl⟩

theorem count_le {t : T} (h : Pcs t.owns) : t.count ≤ t.size := by
  have h1 : t.owns.length = t.count := by rw [← pcs_own t 0, List.length_map, pcs_len]
  rw [← h1, T.size_join]
  have : ∀ l : List ByteArray, Sized l → l.length ≤ (join l).length := by
    intro l
    induction l with
    | nil => intro _; simp
    | cons x r ih =>
      intro hs
      obtain ⟨h2, h3⟩ := sized_cons.1 hs
      have := ih h3
      have e : x.data.toList.length = x.size := rfl
      rw [join_cons, List.length_append, List.length_cons]; omega
  exact this _ h.1
end Go.Proofs.Ytmecdhbiinpepaa

/- What rope's Len, Text, rises, Slice, Pieces compute. Conditions: a rope of at most 65536 bytes. -/
import Derived.Test.YtmecdhbiinpepaaDoorGimPackE
namespace Go.Proofs.YtmecdhbiinpepaaDoor
open Go.RowKit Go.Gim

set_option maxHeartbeats 800000 in
set_option maxRecDepth 1000000 in
theorem len_nil (w : World) : Calls Tryd.prog 34 #[.pointer none] w fun e w' => e = .returned (.int .i64 0) ∧ w' = w := by
  go_enter Tryd.func34, Tryd.ntmps34
  go_wp2_with fail
  go_ret
  exact ⟨rfl, rfl⟩
set_option maxHeartbeats 800000 in
set_option maxRecDepth 1000000 in
theorem len_any (R : Rp) (w : World) (h : RopeAt w R) : Calls Tryd.prog 34 #[.pointer (some ⟨R.rb, 0, none⟩)] w fun e w' => e = .returned (.int .i64 (R.t.size : Nat)) ∧ w' = w := by
  obtain ⟨_, c1, _, hb⟩ := h.cells
  go_enter Tryd.func34, Tryd.ntmps34
  go_wp2_with fail
  refine (size_any R.t _ h.tree).mono ?_
  rintro e w' ⟨rfl, rfl⟩
  go_wp2_with fail
  go_ret
  exact ⟨rfl, rfl⟩

/-- Is a stretch in a text of n bytes? -/
def risesB (f g : Int) (n : Nat) : Bool := decide (0 ≤ f ∧ f ≤ g ∧ g ≤ n)
theorem rises_out {f g : Int} {n : Nat} (h : risesB f g n = true) : 0 ≤ f ∧ f ≤ g ∧ g ≤ n := by simpa [risesB] using h
theorem rises_of {f g : Int} {n : Nat} (h : 0 ≤ f ∧ f ≤ g ∧ g ≤ n) : risesB f g n = true := by simpa [risesB] using h
theorem rises_not {f g : Int} {n : Nat} (h : ¬ (0 ≤ f ∧ f ≤ g ∧ g ≤ n)) : risesB f g n = false := by
  unfold risesB; exact decide_eq_false h
set_option maxHeartbeats 800000 in
set_option maxRecDepth 1000000 in
theorem rises_any (R : Rp) (f g : Int) (w : World) (h : RopeAt w R) : Calls Tryd.prog 55 #[.pointer (some ⟨R.rb, 0, none⟩), .int .i64 f, .int .i64 g] w fun e w' => e = .returned (.bool (risesB f g R.t.size)) ∧ w' = w := by
  obtain ⟨_, c1, _, hb⟩ := h.cells
  by_cases h1 : 0 ≤ f
  · by_cases h2 : f ≤ g
    · go_enter Tryd.func55, Tryd.ntmps55
      go_wp2_with fail
      refine (size_any R.t _ h.tree).mono ?_
      rintro e w' ⟨rfl, rfl⟩
      go_wp2_with fail
      go_ret
      exact ⟨ret_bool (by simp [risesB, h1]; omega), rfl⟩
    · have h2' : decide (f ≤ g) = false := by simpa using h2
      go_enter Tryd.func55, Tryd.ntmps55
      go_wp2_with fail
      go_ret
      exact ⟨ret_bool (rises_not (by omega)).symm, rfl⟩
  · have h1' : decide (0 ≤ f) = false := by simpa using h1
    go_enter Tryd.func55, Tryd.ntmps55
    go_wp2_with fail
    go_ret
    exact ⟨ret_bool (rises_not (by omega)).symm, rfl⟩

set_option maxHeartbeats 800000 in
set_option maxRecDepth 1000000 in
theorem slice_nil (f g : Int) (w : World) : Calls Tryd.prog 35 #[.pointer none, .int .i64 f, .int .i64 g] w fun e w' => e = .returned (.tuple #[.string ⟨#[]⟩, .int .i64 1]) ∧ w' = w := by
  go_enter Tryd.func35, Tryd.ntmps35
  go_wp2_with fail
  go_ret2
  exact ⟨rfl, rfl⟩
set_option maxHeartbeats 800000 in
set_option maxRecDepth 1000000 in
theorem slice_no (R : Rp) (f g : Int) (w : World) (h : RopeAt w R) (hn : risesB f g R.t.size = false) : Calls Tryd.prog 35 #[.pointer (some ⟨R.rb, 0, none⟩), .int .i64 f, .int .i64 g] w fun e w' => e = .returned (.tuple #[.string ⟨#[]⟩, .int .i64 3]) ∧ w' = w := by
  obtain ⟨_, c1, _, hb⟩ := h.cells
  have hr := rises_any R f g w h
  rw [hn] at hr
  clear hn
  go_enter Tryd.func35, Tryd.ntmps35
  go_wp2_with fail
  refine hr.mono ?_
  rintro e w' ⟨rfl, rfl⟩
  go_wp2_with fail
  go_ret2
  exact ⟨rfl, rfl⟩
set_option maxHeartbeats 800000 in
set_option maxRecDepth 1000000 in
theorem slice_yes (R : Rp) (f g : Int) (w : World) (h : RopeAt w R) (hn : risesB f g R.t.size = true) : Calls Tryd.prog 35 #[.pointer (some ⟨R.rb, 0, none⟩), .int .i64 f, .int .i64 g] w fun e w' => e = .returned (.tuple #[.string (bs (cut R.text f g)), .int .i64 0]) ∧ Ext w w' := by
  obtain ⟨_, c1, _, hb⟩ := h.cells
  obtain ⟨g1, g2, g3⟩ := rises_out hn
  have hs := h.size
  have hr := rises_any R f g w h
  rw [hn] at hr
  clear hn
  go_enter Tryd.func35, Tryd.ntmps35
  go_wp2_with fail
  refine hr.mono ?_
  rintro e w' ⟨rfl, rfl⟩
  go_wp2_with fail
  refine (text_any R.t f g _ h.tree (by omega) (by omega) (by omega) (by omega)).mono ?_
  rintro e w1 ⟨rfl, hx⟩
  go_wp2_with fail
  go_ret2
  exact ⟨rfl, hx⟩

theorem count_le {t : T} (h : Pcs t.owns) : t.count ≤ t.size := by
  have h1 : t.owns.length = t.count := by rw [← pcs_own t 0, List.length_map, pcs_len]
  rw [← h1, T.size_join]
  have : ∀ l : List ByteArray, Sized l → l.length ≤ (join l).length := by
    intro l
    induction l with
    | nil => intro _; simp
    | cons x r ih =>
      intro hs
      obtain ⟨h2, h3⟩ := sized_cons.1 hs
      have := ih h3
      have e : x.data.toList.length = x.size := rfl
      rw [join_cons, List.length_append, List.length_cons]; omega
  exact this _ h.1
end Go.Proofs.YtmecdhbiinpepaaDoor

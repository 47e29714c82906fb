/- From any offset of any text, any way, a caret goes where the document tells: the walk. Conditions: none. -/
import Derived.Test.YtmecdhbiinpepaaGimRef9S
namespace Go.Proofs.Ytmecdhbiinpepaa
open Go.RowKit Go.Gim

theorem step_same (R : Rp) (s : ByteArray) (f way : Int) (hs : s.size ≤ 65536) (ht : R.text = s.data.toList) :
    ∃ a e : Int, Hid (∀ w, RopeAt w R → Calls Try.prog 16 #[.agg #[.pointer (some ⟨R.rb, 0, none⟩)], .int .i64 f, .int .i64 way] w fun x w' => x = .returned (.tuple #[.int .i64 a, .int .i64 e]) ∧ Ext w w') ∧
      Hid (∀ w, Calls Try.prog 20 #[.string s, .int .i64 f, .int .i64 way] w fun x w' => x = .returned (.tuple #[.int .i64 a, .int .i64 e]) ∧ Ext w w') := by
  have hz := size_text ht
  by_cases hw : 1 ≤ way ∧ way ≤ 10
  · by_cases hf : 0 ≤ f ∧ f ≤ s.size
    · obtain ⟨k, rfl⟩ := Int.eq_ofNat_of_zero_le hf.1
      exact ⟨_, _, Lib.hid fun w h => step_yes R s k way w h ht (by omega) hw.1 hw.2, Lib.hid fun w => refStep_yes s k way w hs (by omega) hw.1 hw.2⟩
    · exact ⟨_, _, Lib.hid fun w h => step_no R f way w h hw.1 hw.2 (by omega), Lib.hid fun w => refStep_no s f way w hw.1 hw.2 hf⟩
  · exact ⟨_, _, Lib.hid fun w h => step_way _ f way w hw, Lib.hid fun w => refStep_way s f way w hw⟩

set_option maxHeartbeats 3200000 in
set_option maxRecDepth 1000000 in
theorem stepTells_any (w : World) (s : ByteArray) (f way : Int) (hs : s.size ≤ 200) :
    Calls Try.prog 4 #[.string s, .int .i64 f, .int .i64 way] w fun e w' => e = .returned (.bool true) ∧ Ext w w' := by
  have j1 : ¬ (200 : Int) < (s.size : Int) := by omega
  obtain ⟨k, hk, L1⟩ := low9 f (s.size + 1) ((s.size : Int) + 1) (by omega) (by omega) (by omega)
  obtain ⟨m, hm, L2⟩ := low9 way 10 10 (by omega) (by omega) (by omega)
  have L1 := Lib.hid L1
  have L2 := Lib.hid L2
  go_enter Try.func4, Try.ntmps4
  go_wp2_with fail
  refine (of9_any s _ (by omega)).mono ?_
  rintro e u1 ⟨R, rfl, hR, htx, hx, _⟩
  have ha' : Ext u1 (u1.alloc (.cells #[.pointer (some ⟨R.rb, 0, none⟩)] 35)) := (Mod.refl _ u1).alloc _
  have hRa := hR.ext ha'
  have hxa := hx.ext_trans ha'
  obtain ⟨a, e1, A1, A2⟩ := step_same R s f way (by omega) htx
  obtain ⟨c, e2, C1, C2⟩ := step_same R s k (1 + m) (by omega) htx
  clear htx
  go_wp2_with fail
  refine (A1.out _ hRa).mono ?_
  rintro e u2 ⟨rfl, y⟩
  go_wp2_with fail
  refine (A2.out _).mono ?_
  rintro e u3 ⟨rfl, y'⟩
  replace y := y.ext_trans y'
  clear y'
  have q := box_cell y
  go_wp2_with fail
  refine (L1.out _).mono ?_
  rintro e v1 ⟨rfl, rfl⟩
  go_wp2_with fail
  refine (L2.out _).mono ?_
  rintro e v1 ⟨rfl, rfl⟩
  go_wp2_with fail
  refine (C1.out _ (hRa.ext y)).mono ?_
  rintro e u4 ⟨rfl, y'⟩
  replace y := y.ext_trans y'
  clear q y'
  go_wp2_with fail
  refine (C2.out _).mono ?_
  rintro e u5 ⟨rfl, y'⟩
  replace y := y.ext_trans y'
  clear y'
  go_wp2_with fail
  refine (awake9_any _).mono ?_
  rintro e v3 ⟨rfl, y'⟩
  go_wp2_with fail
  go_ret
  exact ⟨rfl, (hxa.ext_trans y).ext_trans y'⟩

set_option maxHeartbeats 800000 in
set_option maxRecDepth 1000000 in
theorem stepTells_calls (w : World) (s : ByteArray) (ws : s.size ≤ 9223372036854775807) (f : Int) (wf : (Lit.int .i64 f).wf = true) (way : Int) (ww : (Lit.int .i64 way).wf = true) :
    Calls Try.prog 4 #[.string s, .int .i64 f, .int .i64 way] w fun e w' => e = .returned (.bool true) ∧ Ext w w' := by
  clear ws wf ww
  by_cases h1 : s.size ≤ 200
  · exact stepTells_any w s f way h1
  · have j1 : (200 : Int) < (s.size : Int) := by omega
    go_enter Try.func4, Try.ntmps4
    go_wp2_with fail
    refine (awake9_any _).mono ?_
    rintro e w1 ⟨rfl, hx⟩
    go_wp2_with fail
    go_ret
    exact ⟨rfl, hx⟩

end Go.Proofs.Ytmecdhbiinpepaa

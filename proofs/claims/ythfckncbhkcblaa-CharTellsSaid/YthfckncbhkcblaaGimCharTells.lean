/- Any text's characters, and where they begin, are the document's; so is what one is: the walk. Conditions: none. -/
import Derived.Test.YthfckncbhkcblaaGimCharA
namespace Go.Proofs.Ythfckncbhkcblaa
open Go.RowKit Go.Gim

set_option maxHeartbeats 1600000 in
set_option maxRecDepth 1000000 in
theorem charTells_long (w : World) (s c : ByteArray) (h : 200 < s.size ∨ s.size ≤ 200 ∧ 200 < c.size) (h1 : s.size ≤ 9223372036854775807) (h2 : c.size ≤ 9223372036854775807) :
    Calls Try.prog 7 #[.string s, .string c] w fun e w' => e = .returned (.bool true) ∧ Ext w w' := by
  rcases h with h | ⟨h, h3⟩
  · have i1 : (200 : Int) < (s.size : Int) := by omega
    go_enter Try.func7, Try.ntmps7
    go_wp2_with fail
    refine (awake11_any _).mono ?_
    rintro e w' ⟨rfl, hx⟩
    go_wp2_with fail
    go_ret
    exact ⟨rfl, hx⟩
  · have i1 : ¬ ((200 : Int) < (s.size : Int)) := by omega
    have i2 : (200 : Int) < (c.size : Int) := by omega
    go_enter Try.func7, Try.ntmps7
    go_wp2_with fail
    refine (awake11_any _).mono ?_
    rintro e w' ⟨rfl, hx⟩
    go_wp2_with fail
    go_ret
    exact ⟨rfl, hx⟩

set_option maxHeartbeats 3200000 in
set_option maxRecDepth 1000000 in
theorem charTells_any (w : World) (s c : ByteArray) (h1 : s.size ≤ 200) (h2 : c.size ≤ 200) :
    Calls Try.prog 7 #[.string s, .string c] w fun e w' => e = .returned (.bool true) ∧ Ext w w' := by
  have i1 : ¬ ((200 : Int) < (s.size : Int)) := by omega
  have i2 : ¬ ((200 : Int) < (c.size : Int)) := by omega
  have l1 := charsAt_len s.data.toList 0
  have l2 := placesAt_len s.data.toList 0
  rw [toList_length] at l1 l2
  by_cases h0 : s.data.toList = []
  · have hs0 : s = ⟨#[]⟩ := by rw [← bs_of s, h0]; rfl
    subst hs0
    clear h0
    go_enter Try.func7, Try.ntmps7
    go_wp2_with fail
    refine (split_any ⟨#[]⟩ _ (by first | omega | decide)).mono ?_
    rintro e wa ⟨aa, ca, rfl, ha, hxa⟩
    go_wp2_with fail
    refine (refSplit_any ⟨#[]⟩ _ (by first | omega | decide)).mono ?_
    rintro e wb ⟨ab, cb, rfl, hb, hxb⟩
    go_wp2_with fail
    refine (texts_strs wb aa ab ca cb _ _ ((Reads.own ha).mod hxb (fun _ _ f => f)) (Reads.own hb) (by omega) (by omega)).mono ?_
    rintro e wt ⟨rfl, mt, rfl⟩
    rw [decide_eq_true rfl]
    go_wp2_with fail
    refine (places_any ⟨#[]⟩ _ (by first | omega | decide)).mono ?_
    rintro e wc ⟨ac, cc, rfl, hc, hxc⟩
    go_wp2_with fail
    refine (refPlaces_any ⟨#[]⟩ _ (by first | omega | decide)).mono ?_
    rintro e wd ⟨ad, cd, rfl, hd, hxd⟩
    go_wp2_with fail
    refine (ints_nats wd ac ad cc cd _ _ ((Reads.own hc).mod hxd (fun _ _ f => f)) (Reads.own hd) (by simp only [List.length_cons]; omega) (by simp only [List.length_cons]; omega)).mono ?_
    rintro e we ⟨rfl, me, rfl⟩
    rw [decide_eq_true rfl]
    have hE : Ext w (wd.drewN me) := (((hxa.ext_trans hxb).drewN mt).ext_trans (hxc.ext_trans hxd)).drewN me
    clear ha hb hc hd
    go_wp2_with fail
    refine (first_any ⟨#[]⟩ _ (by first | omega | decide)).mono ?_
    rintro e wf ⟨rfl, rfl⟩
    rw [show bs (firstL (⟨#[]⟩ : ByteArray).data.toList) = ⟨#[]⟩ from rfl]
    go_wp2_with fail
    refine (proper_any c _ (by omega)).mono ?_
    rintro e wf ⟨rfl, rfl⟩
    go_wp2_with fail
    refine (refProper_any c _ (by omega)).mono ?_
    rintro e wg ⟨rfl, hxg⟩
    go_wp2_with fail
    refine (fold_any c _ (by omega)).mono ?_
    rintro e wh ⟨rfl, hxh⟩
    go_wp2_with fail
    refine (refFold_any c _ (by omega)).mono ?_
    rintro e wi ⟨rfl, hxi⟩
    go_wp2_with fail
    refine (word_any c _).mono ?_
    rintro e wf ⟨rfl, rfl⟩
    go_wp2_with fail
    refine (refWord_any c _).mono ?_
    rintro e wf ⟨rfl, rfl⟩
    go_wp2_with fail
    refine (awake11_any _).mono ?_
    rintro e wj ⟨rfl, hxj⟩
    go_wp2_with fail
    go_ret
    exact ⟨rfl, hE.ext_trans (hxg.ext_trans (hxh.ext_trans (hxi.ext_trans hxj)))⟩
  · have hp : 0 < s.size := by rw [← toList_length]; exact List.length_pos_iff.2 h0
    have i3 : (0 : Int) < (s.size : Int) := by omega
    have hlen : 0 < (charsAt s.data.toList 0).length := by rw [charsAt_step _ 0 hp]; simp
    have h00 : (strs (charsAt s.data.toList 0))[0]? = some (.string (bs (firstL s.data.toList))) := by
      rw [charsAt_step _ 0 hp]; simp [strs, firstL, h0]
    clear h0
    go_enter Try.func7, Try.ntmps7
    go_wp2_with fail
    refine (refSplit_any s _ (by omega)).mono ?_
    rintro e w1 ⟨ao, cap, rfl, hown, hx1⟩
    obtain ⟨b, off, rfl⟩ := (Reads.own hown).some hlen
    have c0 := (Reads.own hown).at h00
    rw [Nat.add_zero] at c0
    have i4 : (0 : Int) < ((charsAt s.data.toList 0).length : Int) := by omega
    go_wp2_with fail
    refine (split_any s _ (by first | omega | decide)).mono ?_
    rintro e wa ⟨aa, ca, rfl, ha, hxa⟩
    go_wp2_with fail
    refine (refSplit_any s _ (by first | omega | decide)).mono ?_
    rintro e wb ⟨ab, cb, rfl, hb, hxb⟩
    go_wp2_with fail
    refine (texts_strs wb aa ab ca cb _ _ ((Reads.own ha).mod hxb (fun _ _ f => f)) (Reads.own hb) (by omega) (by omega)).mono ?_
    rintro e wt ⟨rfl, mt, rfl⟩
    rw [decide_eq_true rfl]
    go_wp2_with fail
    refine (places_any s _ (by first | omega | decide)).mono ?_
    rintro e wc ⟨ac, cc, rfl, hc, hxc⟩
    go_wp2_with fail
    refine (refPlaces_any s _ (by first | omega | decide)).mono ?_
    rintro e wd ⟨ad, cd, rfl, hd, hxd⟩
    go_wp2_with fail
    refine (ints_nats wd ac ad cc cd _ _ ((Reads.own hc).mod hxd (fun _ _ f => f)) (Reads.own hd) (by simp only [List.length_cons]; omega) (by simp only [List.length_cons]; omega)).mono ?_
    rintro e we ⟨rfl, me, rfl⟩
    rw [decide_eq_true rfl]
    have hE : Ext w (wd.drewN me) := (hx1.ext_trans (((hxa.ext_trans hxb).drewN mt).ext_trans (hxc.ext_trans hxd))).drewN me
    clear ha hb hc hd
    go_wp2_with fail
    refine (first_any s _ (by first | omega | decide)).mono ?_
    rintro e wf ⟨rfl, rfl⟩
    go_wp2_with fail
    refine (proper_any c _ (by omega)).mono ?_
    rintro e wf ⟨rfl, rfl⟩
    go_wp2_with fail
    refine (refProper_any c _ (by omega)).mono ?_
    rintro e wg ⟨rfl, hxg⟩
    go_wp2_with fail
    refine (fold_any c _ (by omega)).mono ?_
    rintro e wh ⟨rfl, hxh⟩
    go_wp2_with fail
    refine (refFold_any c _ (by omega)).mono ?_
    rintro e wi ⟨rfl, hxi⟩
    go_wp2_with fail
    refine (word_any c _).mono ?_
    rintro e wf ⟨rfl, rfl⟩
    go_wp2_with fail
    refine (refWord_any c _).mono ?_
    rintro e wf ⟨rfl, rfl⟩
    go_wp2_with fail
    refine (awake11_any _).mono ?_
    rintro e wj ⟨rfl, hxj⟩
    go_wp2_with fail
    go_ret
    exact ⟨rfl, hE.ext_trans (hxg.ext_trans (hxh.ext_trans (hxi.ext_trans hxj)))⟩

theorem charTells_calls (w : World) (s : ByteArray) (h1 : s.size ≤ maxLen) (c : ByteArray) (h2 : c.size ≤ maxLen) :
    Calls Try.prog 7 #[.string s, .string c] w fun e w' => e = .returned (.bool true) ∧ Ext w w' := by
  unfold maxLen at h1 h2
  by_cases a : s.size ≤ 200
  · by_cases b : c.size ≤ 200
    · exact charTells_any w s c a b
    · exact charTells_long w s c (.inr ⟨a, by omega⟩) (by omega) (by omega)
  · exact charTells_long w s c (.inl (by omega)) (by omega) (by omega)

end Go.Proofs.Ythfckncbhkcblaa

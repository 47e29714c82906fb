/- The small functions of gimletlaw3: inside, awake. Conditions: none. -/
import Derived.Test.YtbcjlbapgidhiaaGimWhole
import Derived.Test.YtbcjlbapgidhiaaGimNew
import Derived.Test.YtbcjlbapgidhiaaGimRope2
namespace Go.Proofs.Ytbcjlbapgidhiaa
open Go.RowKit Go.Gim

set_option maxHeartbeats 800000 in
set_option maxRecDepth 1000000 in
theorem inside_yes (f g n : Int) (w : World) (h : 0 ≤ f ∧ f ≤ g ∧ g ≤ n) : Calls Try.prog 29 #[.int .i64 f, .int .i64 g, .int .i64 n] w fun e w' => e = .returned (.int .i64 0) ∧ w' = w := by
  obtain ⟨h1, h2, h3⟩ := h
  have i1 : decide (f < 0) = false := by simpa using h1
  have i2 : decide (g < f) = false := by simpa using h2
  go_enter Try.func29, Try.ntmps29
  go_wp2_with fail
  go_ret
  exact ⟨rfl, rfl⟩
set_option maxHeartbeats 800000 in
set_option maxRecDepth 1000000 in
theorem inside_no (f g n : Int) (w : World) (h : ¬ (0 ≤ f ∧ f ≤ g ∧ g ≤ n)) : Calls Try.prog 29 #[.int .i64 f, .int .i64 g, .int .i64 n] w fun e w' => e = .returned (.int .i64 3) ∧ w' = w := by
  by_cases h1 : f < 0
  · clear h
    go_enter Try.func29, Try.ntmps29
    go_wp2_with fail
    go_ret
    exact ⟨rfl, rfl⟩
  · have i1 : decide (f < 0) = false := by simpa using h1
    by_cases h2 : g < f
    · clear h
      go_enter Try.func29, Try.ntmps29
      go_wp2_with fail
      go_ret
      exact ⟨rfl, rfl⟩
    · have i2 : decide (g < f) = false := by simpa using h2
      have h3 : n < g := by omega
      clear h
      go_enter Try.func29, Try.ntmps29
      go_wp2_with fail
      go_ret
      exact ⟨rfl, rfl⟩

/-- A short text is one piece. -/
theorem one_piece {t : T} (h : Pcs t.owns) (h1 : 0 < t.size) (h2 : t.size ≤ 64) : t.count = 1 := by
  rw [← owns_len]
  rw [T.size_join] at h1 h2
  cases ho : t.owns with
  | nil => rw [ho] at h1; simp [join] at h1
  | cons x r =>
    cases r with
    | nil => rfl
    | cons y q =>
      rw [ho] at h h2
      have := h.2.1
      have e1 : x.data.toList.length = x.size := rfl
      have e2 : y.data.toList.length = y.size := rfl
      rw [join_cons, join_cons, List.length_append, List.length_append] at h2
      omega

theorem NewDice.of {zs : List Int} {w w' : World} {e : Ending} (h : NewDice zs w e w') : ∃ D : Dice, e = .returned (.pointer (some ⟨D.d, 0, none⟩)) ∧ DiceAt w' D ∧ D.nums = zs ∧ Ext w w' ∧ w.heap.size ≤ D.d ∧ (∀ k, D.sv.ownBlock = some k → w.heap.size ≤ k) := by
  obtain ⟨d, sv, rfl, h1, h2, h3, h4⟩ := h
  exact ⟨_, rfl, h1, rfl, h2, h3, h4⟩
theorem DiceAt.of {w : World} {D : Dice} (h : DiceAt w D) : DiceOf w D := ⟨D, h, .refl D⟩

/-- A rope all of which is new since a world. -/
structure Rp.New (R : Rp) (w : World) : Prop where
  all : ∀ k ∈ R.all, w.heap.size ≤ k
  dice : w.heap.size ≤ R.D.d
theorem Fresh.base {R : Rp} {D : Dice} {s : List UInt8} {w w1 w2 : World} (h : Fresh R D s w1 w2) (hx : Ext w w1) (hd : w.heap.size ≤ D.d) : Ext w w2 ∧ R.New w :=
  ⟨Mod.trans hx h.mod (fun i hi e => by have : i = D.d := e; omega), fun k hk => Nat.le_trans hx.size (h.new k hk), by rw [h.dice]; exact hd⟩
theorem Done.base {R R' : Rp} {s : List UInt8} {w w1 w2 : World} (h : Done R R' s w1 w2) (hx : Ext w w1) (hn : R.New w) : Ext w w2 ∧ R'.New w :=
  ⟨Mod.trans hx h.mod (fun i hi e => by
    rcases e with e | e
    · have := hn.all i e; omega
    · have := hn.dice; omega), fun k hk => (h.grew.all k hk).elim (hn.all k) (fun h2 => Nat.le_trans hx.size h2), by rw [h.grew.2.1]; exact hn.dice⟩

set_option maxHeartbeats 1600000 in
set_option maxRecDepth 1000000 in
theorem awake3_any (w : World) : Calls Try.prog 23 #[] w fun e w' => e = .returned (.bool true) ∧ Ext w w' := by
  go_enter Try.func23, Try.ntmps23
  go_wp2_with fail
  have hx0 : Ext w (w.alloc (.cells #[.int .u32 5] 39)) := (Mod.refl _ w).alloc _
  refine (new_any _ _ _ [5] (by simp) (by simp) (Reads.new w 39 #[.int .u32 5] 1 1 rfl)).mono ?_
  rintro e w1 hN
  obtain ⟨D, rfl, hD, _, hx1, hdd, _⟩ := hN.of
  clear hN
  go_wp2_with fail
  have hx2 : Ext w1 (w1.alloc (.cells #[.string ⟨#[97, 98]⟩, .string ⟨#[99, 100]⟩] 9)) := (Mod.refl _ w1).alloc _
  refine (rope_new D _ _ [⟨#[97, 98]⟩, ⟨#[99, 100]⟩] _ (hD.of.ext hx2) (Reads.new w1 9 #[.string ⟨#[97, 98]⟩, .string ⟨#[99, 100]⟩] 1 2 rfl) (by simp)).mono ?_
  rintro e w2 hP
  obtain ⟨R, rfl, hF⟩ := hP.1 (by decide)
  obtain ⟨hb, hn⟩ := (hF.after hx2).base (hx0.ext_trans hx1) (by have := hx0.size; omega)
  have hR := hF.rope
  have htx : R.text = [97, 98, 99, 100] := hF.text
  have hts : R.t.size = 4 := by rw [T.size, show R.t.text = [97, 98, 99, 100] from htx]; rfl
  have hsl := slice_yes R 1 3 w2 hR (rises_of ⟨by omega, by omega, by omega⟩)
  rw [show bs (cut R.text 1 3) = ⟨#[98, 99]⟩ from by rw [htx]; rfl] at hsl
  have hone := one_piece hR.pcs (by omega) (by omega)
  have htr := fun (w3 : World) (hx3 : Ext w2 w3) => text_rope R w3 (hR.ext hx3)
  rw [show bs R.text = ⟨#[97, 98, 99, 100]⟩ from by rw [htx]; rfl] at htr
  have hln := fun (w3 : World) (hx3 : Ext w2 w3) => len_any R w3 (hR.ext hx3)
  rw [hts] at hln
  have Htr := Lib.hid htr
  have Hln := Lib.hid hln
  have Hsl := Lib.hid hsl
  have Hone := Lib.hid hone
  clear hP hF htx hts hsl htr hln hone
  go_wp2_with fail
  refine Hsl.out.mono ?_
  rintro e w3 ⟨rfl, hx3⟩
  go_wp2_with fail
  refine (Hln.out w3 hx3).mono ?_
  rintro e w4 ⟨rfl, rfl⟩
  go_wp2_with fail
  refine (Htr.out _ hx3).mono ?_
  rintro e w5 ⟨rfl, hx5⟩
  go_wp2_with fail
  refine (piecesOf_any R _ ((hR.ext hx3).ext hx5)).mono ?_
  rintro e w6 ⟨v, rfl, hr6, hx6⟩
  obtain ⟨ao, cap, rfl, _⟩ := ownsRow_shape hr6.2
  rw [pcs_len, Hone.out]
  clear hr6
  go_wp2_with fail
  go_ret
  exact ⟨rfl, ((hb.ext_trans hx3).ext_trans hx5).ext_trans hx6⟩

end Go.Proofs.Ytbcjlbapgidhiaa

/- What rope's New and Twin compute. Conditions: a rope of at most 65536 bytes. -/
import Derived.Test.YtbcjlbapgidhiaaGimRepl
import Derived.Test.YtbcjlbapgidhiaaGimText
namespace Go.Proofs.Ytbcjlbapgidhiaa
open Go.RowKit Go.Gim Go.Lib

/-- A dice as it lies in memory, whatever it has told. -/
def DiceOf (w : World) (D : Dice) : Prop := ∃ D', DiceAt w D' ∧ Dice.Like D' D
theorem DiceOf.ext {w w' : World} {D : Dice} (h : DiceOf w D) (hm : Ext w w') : DiceOf w' D := let ⟨D', h1, h2⟩ := h; ⟨D', h1.ext hm, h2⟩

/-- A rope that has just been made, by a dice, of a text. -/
structure Fresh (R : Rp) (D : Dice) (s : List UInt8) (w w' : World) : Prop where
  rope : RopeAt w' R
  dice : R.D = D
  text : R.text = s
  new : ∀ k ∈ R.all, w.heap.size ≤ k
  mod : Mod (· = D.d) w w'

theorem Fresh.after {R : Rp} {D : Dice} {s : List UInt8} {w w' w'' : World} (k : Ext w w') (h : Fresh R D s w' w'') : Fresh R D s w w'' :=
  ⟨h.rope, h.dice, h.text, fun x hx => Nat.le_trans k.size (h.new x hx), Mod.trans k.any h.mod (fun _ _ f => f)⟩
theorem Fresh.ext {R : Rp} {D : Dice} {s : List UInt8} {w w' w'' : World} (h : Fresh R D s w w') (k : Ext w' w'') : Fresh R D s w w'' :=
  ⟨h.rope.ext k, h.dice, h.text, h.new, Mod.trans h.mod k (fun _ _ f => f.elim)⟩
/-- A rope that was made, and turned since. -/
theorem Fresh.done {R R' : Rp} {D : Dice} {s s' : List UInt8} {w w' w'' : World} (h : Fresh R D s w w') (k : Done R R' s' w' w'') : Fresh R' D s' w w'' :=
  ⟨k.rope, k.grew.2.1.trans h.dice, k.text, fun x hx => (k.grew.all x hx).elim (h.new x) (fun h2 => Nat.le_trans h.mod.size h2), Mod.trans h.mod k.mod (fun i hi hf => by
    rcases hf with hf | hf
    · have := h.new i hf; omega
    · rw [hf, h.dice])⟩
/-- An old rope stands apart from a fresh one. -/
theorem Fresh.apart {R O : Rp} {D : Dice} {s : List UInt8} {w w' : World} (h : Fresh R D s w w') (hO : RopeAt w O) (hOD : D.Off O.all) (hd : Dice.Like O.D D ∨ (O.D.d ≠ D.d ∧ D.sv.ownBlock ≠ some O.D.d ∧ O.D.sv.ownBlock ≠ some D.d)) : Apart O R := by
  have hl := hO.lt
  have hdl := hO.dlt
  refine ⟨fun k hk hk2 => ?_, fun k hk => ⟨fun e => ?_, fun e => ?_⟩, by rw [h.dice]; exact hOD, by rw [h.dice]; exact hd⟩
  · have := hl k hk; have := h.new k hk2; omega
  · have := h.new k hk; have := hdl.1; omega
  · have := h.new k hk; have := hdl.2 k e; omega
theorem Fresh.old {R O : Rp} {D : Dice} {s : List UInt8} {w w' : World} (h : Fresh R D s w w') (hO : RopeAt w O) (hOD : D.Off O.all) (hd : Dice.Like O.D D ∨ (O.D.d ≠ D.d ∧ D.sv.ownBlock ≠ some O.D.d ∧ O.D.sv.ownBlock ≠ some D.d)) : RopeAt w' O := by
  refine hO.mod h.mod (fun k hk e => (hOD k hk).1 e) ?_
  rcases hd with hl | ⟨h1, h2, h3⟩
  · obtain ⟨D', h4, h5⟩ := h.rope.dice
    rw [h.dice] at h5
    exact ⟨D', h4, h5.trans hl.symm⟩
  · obtain ⟨D', h4, h5⟩ := hO.dice
    exact ⟨D', h4.mod h.mod (fun e => h1 (h5.1.symm.trans e)) (fun k hk e => h3 (by rw [← h5.2.1, hk, e])), h5⟩

/-- The empty rope in a block that has just been made. -/
theorem RopeAt.empty {w : World} {D : Dice} (hD : DiceOf w D) : RopeAt (w.alloc (.cells #[.pointer (some ⟨D.d, 0, none⟩), .pointer none] 92)) ⟨w.heap.size, D, .nil⟩ := by
  obtain ⟨D', h1, h2⟩ := hD
  have hl := h1.lt
  rw [h2.1, h2.2.1] at hl
  refine ⟨Blk.new _ _ _, trivial, by simp [Rp.all, T.blocks], trivial, trivial, good_nil, ⟨D', h1.ext ((Mod.refl _ w).alloc _), h2⟩, ?_, by simp [T.size, T.text]⟩
  intro k hk
  simp [Rp.all, T.blocks] at hk
  subst hk
  exact ⟨fun e => by have := hl.1; simp at e; omega, fun e => by have := hl.2 _ e; omega⟩

/-- weld of one text alone, by any dice. -/
theorem weld_one {w : World} {D : Dice} (m : ByteArray) (hD : DiceOf w D) (hs : m.size ≤ 1000000) :
    Calls Try.prog 59 #[.pointer (some ⟨D.d, 0, none⟩), .pointer none, .string m, .pointer none] w fun e w' =>
      ∃ t D', Dice.Like D' D ∧ e = .returned (.pointer t.addr) ∧ t.text = m.data.toList ∧ Pcs t.owns ∧ WeldAt D' [] w t .nil w' := by
  obtain ⟨D', h1, h2⟩ := hD
  have hI : WeldIn D' .nil m .nil w := ⟨WeldAt.start (a := .nil) (b := .nil) trivial trivial (by simp [T.blocks]) trivial trivial trivial trivial h1, h1, fun k hk => by simp [T.blocks] at hk, good_nil, good_nil, by simp [T.size, T.text]; omega⟩
  rw [← h2.1]
  refine (weld_any D' .nil .nil m w hI).mono ?_
  rintro e w' ⟨t, rfl, hj, hp, hW⟩
  refine ⟨t, D', h2, rfl, ?_, hp, hW⟩
  rw [T.text_owns, hj]; simp [T.owns, join]

/-- A rope in a block that is made with its tree. -/
theorem RopeAt.boxed {w w3 : World} {D D' : Dice} {t : T} (hD : DiceOf w D) (hl : Dice.Like D' D) (hp : Pcs t.owns) (hW : WeldAt D' [] w t .nil w3) (hs : t.size ≤ 65536) :
    Fresh ⟨w3.heap.size, D, t⟩ D t.text w (w3.alloc (.cells #[.pointer (some ⟨D.d, 0, none⟩), .pointer t.addr] 92)) := by
  have hx : Ext w3 (w3.alloc (.cells #[.pointer (some ⟨D.d, 0, none⟩), .pointer t.addr] 92)) := (Mod.refl _ w3).alloc _
  have hm : Mod (· = D.d) w w3 := hW.mod.mono (fun k _ h => h.elim (fun h => by cases h) (fun h => h.trans hl.1))
  have hold : ∀ k ∈ t.blocks, w.heap.size ≤ k := fun k hk => (hW.old k (List.mem_append_left _ hk)).elim (fun h => by cases h) id
  have hlt : ∀ k ∈ t.blocks, k < w3.heap.size := hW.ta.lt
  obtain ⟨D0, k1, k2⟩ := hD
  have hdl := k1.lt
  rw [k2.1, k2.2.1] at hdl
  have hsz := hm.size
  have hnew : ∀ k ∈ Rp.all ⟨w3.heap.size, D, t⟩, w.heap.size ≤ k := by
    intro k hk
    rcases List.mem_cons.1 hk with rfl | hk
    · exact hsz
    · exact hold k hk
  obtain ⟨D3, h3, h4⟩ := hW.dice
  refine ⟨⟨Blk.new _ _ _, hW.ta.ext hx, ?_, hW.ha, hW.la, hp, ⟨D3, h3.ext hx, h4.trans hl⟩, fun k hk => ?_, hs⟩, rfl, rfl, hnew, Mod.trans hm hx (fun _ _ f => f.elim)⟩
  · refine List.nodup_cons.2 ⟨fun hk => by have := hlt _ hk; simp at this, ?_⟩
    have := hW.nd
    rwa [show t.blocks ++ T.nil.blocks = t.blocks from List.append_nil _] at this
  · have := hnew k hk
    exact ⟨fun e => by have h5 : k = D.d := e; have := hdl.1; omega, fun e => by have := hdl.2 k e; omega⟩

def TwinPost (D : Dice) (s : List UInt8) (w : World) (e : Ending) (w' : World) : Prop := ∃ R, e = .returned (.pointer (some ⟨R.rb, 0, none⟩)) ∧ Fresh R D s w w'

set_option maxHeartbeats 800000 in
set_option maxRecDepth 1000000 in
theorem twin_nil (d : Option Addr) (w : World) : Calls Try.prog 35 #[.pointer none, .pointer d] w fun e w' => e = .returned (.pointer none) ∧ w' = w := by
  go_enter Try.func35, Try.ntmps35
  go_wp2_with fail
  go_ret
  exact ⟨rfl, rfl⟩
set_option maxHeartbeats 800000 in
set_option maxRecDepth 1000000 in
theorem twin_none (R : Rp) (w : World) : Calls Try.prog 35 #[.pointer (some ⟨R.rb, 0, none⟩), .pointer none] w fun e w' => e = .returned (.pointer none) ∧ w' = w := by
  go_enter Try.func35, Try.ntmps35
  go_wp2_with fail
  go_ret
  exact ⟨rfl, rfl⟩
set_option maxHeartbeats 1600000 in
set_option maxRecDepth 1000000 in
theorem twin_any (R : Rp) (D : Dice) (w : World) (h : RopeAt w R) (hD : DiceOf w D) : Calls Try.prog 35 #[.pointer (some ⟨R.rb, 0, none⟩), .pointer (some ⟨D.d, 0, none⟩)] w (TwinPost D R.text w) := by
  have hsz := h.size
  go_enter Try.func35, Try.ntmps35
  go_wp2_with fail
  refine (text_rope R _ h).mono ?_
  rintro e w1 ⟨rfl, hx⟩
  have hs : (bs R.text).size = R.t.size := rfl
  go_wp2_with fail
  refine (weld_one (D := D) (bs R.text) (hD.ext hx) (by omega)).mono ?_
  rintro e w2 ⟨t, D', hl, rfl, ht, hp, hW⟩
  have hts : t.size = R.t.size := by rw [T.size, ht]; rfl
  have hf := Fresh.after hx (RopeAt.boxed (hD.ext hx) hl hp hW (by omega))
  rw [ht] at hf
  have Hf := Lib.hid hf
  clear hf hts ht hs
  go_wp2_with fail
  go_ret
  exact ⟨_, rfl, Hf.out⟩

end Go.Proofs.Ytbcjlbapgidhiaa

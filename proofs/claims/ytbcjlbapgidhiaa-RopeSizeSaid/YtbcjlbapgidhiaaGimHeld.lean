/- A rope that goes on from deed to deed since a world: what each call leaves of it. Conditions: none. -/
import Derived.Test.YtbcjlbapgidhiaaGimRopes
namespace Go.Proofs.Ytbcjlbapgidhiaa
open Go.RowKit Go.Gim

/-- A rope of a text, all of it new since a world, its dice too. -/
structure Held (w0 : World) (D : Dice) (R : Rp) (s : ByteArray) (w : World) : Prop where
  rope : RopeAt w R
  text : R.text = s.data.toList
  ext : Ext w0 w
  new : R.New w0
  dice : R.D = D

theorem Held.size {w0 w : World} {D : Dice} {R : Rp} {s : ByteArray} (h : Held w0 D R s w) : R.t.size = s.size := by
  rw [T.size, show R.t.text = s.data.toList from h.text]; rfl
theorem Held.bs {w0 w : World} {D : Dice} {R : Rp} {s : ByteArray} (h : Held w0 D R s w) : bs R.text = s := bs_eq h.text
theorem Held.on {w0 w w' : World} {D : Dice} {R : Rp} {s : ByteArray} (h : Held w0 D R s w) (hx : Ext w w') : Held w0 D R s w' :=
  ⟨h.rope.ext hx, h.text, h.ext.ext_trans hx, h.new, h.dice⟩
theorem Held.drewN {w0 w : World} {D : Dice} {R : Rp} {s : ByteArray} (h : Held w0 D R s w) (n : Nat) : Held w0 D R s (w.drewN n) := h.on ((Mod.refl _ w).drewN n)
theorem Held.diceOf {w0 w : World} {D : Dice} {R : Rp} {s : ByteArray} (h : Held w0 D R s w) : DiceOf w D := by
  have := h.rope.dice
  rw [h.dice] at this
  exact this
theorem Held.done {w0 w w' : World} {D : Dice} {R R' : Rp} {s s' : ByteArray} {l : List UInt8} (h : Held w0 D R s w) (hd : Done R R' l w w') (hl : l = s'.data.toList) : Held w0 D R' s' w' := by
  obtain ⟨h1, h2⟩ := hd.base h.ext h.new
  exact ⟨hd.rope, hd.text.trans hl, h1, h2, hd.grew.2.1.trans h.dice⟩
theorem Held.start {w0 w w' : World} {D : Dice} {R : Rp} {s : ByteArray} {l : List UInt8} (hx : Ext w0 w) (hd : w0.heap.size ≤ D.d) (hF : Fresh R D l w w') (hl : l = s.data.toList) : Held w0 D R s w' := by
  obtain ⟨h1, h2⟩ := hF.base hx hd
  exact ⟨hF.rope, hF.text.trans hl, h1, h2, hF.dice⟩
theorem Held.d {w0 w : World} {D : Dice} {R : Rp} {s : ByteArray} (h : Held w0 D R s w) : w0.heap.size ≤ D.d := by
  have := h.new.dice
  rwa [h.dice] at this
/-- Another rope is made by the same dice: the first one stays, and both are apart. -/
theorem Held.made {w0 w w' : World} {D : Dice} {R O : Rp} {s s' : ByteArray} {l : List UInt8} (h : Held w0 D R s w) (hF : Fresh O D l w w') (hl : l = s'.data.toList) : Held w0 D R s w' ∧ Held w0 D O s' w' ∧ Apart R O := by
  have ho := h.rope.off
  rw [h.dice] at ho
  have hl2 : Dice.Like R.D D := by rw [h.dice]; exact Dice.Like.refl D
  have hO := Held.start h.ext h.d hF hl
  exact ⟨⟨hF.old h.rope ho (.inl hl2), h.text, hO.ext, h.new, h.dice⟩, hO, hF.apart h.rope ho (.inl hl2)⟩
/-- Cut: two ropes, apart. -/
theorem Held.cut {w0 w w' : World} {D : Dice} {R R' O : Rp} {s a b : ByteArray} {l m : List UInt8} (h : Held w0 D R s w) (hC : CutTo R R' O l m w w') (hl : l = a.data.toList) (hm : m = b.data.toList) : Held w0 D R' a w' ∧ Held w0 D O b w' ∧ Apart R' O ∧ R'.rb = R.rb := by
  obtain ⟨h1, h2, h3⟩ := hC.base h.ext h.new
  exact ⟨⟨hC.rope, hC.text.trans hl, h1, h2, hC.grew.2.1.trans h.dice⟩, ⟨hC.other, hC.rest.trans hm, h1, h3, hC.odice.trans h.dice⟩, hC.apart, hC.grew.1⟩
/-- Join: both texts in one rope. -/
theorem Held.joined {w0 w w' : World} {D : Dice} {R O R' : Rp} {a b s : ByteArray} (h : Held w0 D R a w) (k : Held w0 D O b w) (hJ : Joined R O R' w w') (hs : a.data.toList ++ b.data.toList = s.data.toList) : Held w0 D R' s w' ∧ R'.rb = R.rb ∧ RopeAt w' { O with t := .nil } := by
  obtain ⟨h1, h2⟩ := hJ.base h.ext h.new k.new
  exact ⟨⟨hJ.rope, by rw [hJ.text, h.text, k.text]; exact hs, h1, h2, hJ.dice.trans h.dice⟩, hJ.rb, hJ.other⟩

theorem splice_in (s c : ByteArray) (p : Nat) : splice s.data.toList p p c.data.toList = (s.extract 0 p ++ c ++ s.extract p s.size).data.toList := by
  simp only [splice, Int.toNat_natCast, ByteArray.data_append, Array.toList_append, ByteArray.data_extract, Array.toList_extract, List.extract_eq_take_drop, List.append_assoc, Nat.sub_zero, List.drop_zero]
  rw [List.take_of_length_le (l := s.data.toList.drop p) (by simp)]
theorem splice_out (s : ByteArray) (p q : Nat) : splice s.data.toList p q [] = (s.extract 0 p ++ s.extract q s.size).data.toList := by
  simp only [splice, Int.toNat_natCast, ByteArray.data_append, Array.toList_append, ByteArray.data_extract, Array.toList_extract, List.extract_eq_take_drop, List.append_assoc, Nat.sub_zero, List.drop_zero, List.nil_append]
  rw [List.take_of_length_le (l := s.data.toList.drop q) (by simp)]
theorem take_ex (s : ByteArray) (p : Nat) : s.data.toList.take p = (s.extract 0 p).data.toList := by simp
theorem drop_ex (s : ByteArray) (p : Nat) : s.data.toList.drop p = (s.extract p s.size).data.toList := by
  simp only [ByteArray.data_extract, Array.toList_extract, List.extract_eq_take_drop]
  rw [List.take_of_length_le (l := s.data.toList.drop p) (by simp)]
theorem size_in (s c : ByteArray) (p : Nat) (hp : p ≤ s.size) : (s.extract 0 p ++ c ++ s.extract p s.size).size = s.size + c.size := by
  rw [ByteArray.size_append, ByteArray.size_append, ByteArray.size_extract, ByteArray.size_extract]; omega
theorem size_out (s : ByteArray) (p q : Nat) (hp : p ≤ q) (hq : q ≤ s.size) : (s.extract 0 p ++ s.extract q s.size).size = s.size - (q - p) := by
  rw [ByteArray.size_append, ByteArray.size_extract, ByteArray.size_extract]; omega

end Go.Proofs.Ytbcjlbapgidhiaa

/- Ropes and dice that a law makes: what their making gives, in one step each. Conditions: none. -/
import Derived.Test.YtbcjlbapgidhiaaGimLaw3
import Derived.Test.YtbcjlbapgidhiaaGimJoin
import Derived.Test.YtbcjlbapgidhiaaGimCut
import Derived.Test.YtbcjlbapgidhiaaGimCount
import Derived.Test.YtbcjlbapgidhiaaGimUpto
namespace Go.Proofs.Ytbcjlbapgidhiaa
open Go.RowKit Go.Gim

theorem u32_top {n : Int} (h : (Lit.int .u32 n).wf = true) : n ≤ 4294967295 := by
  simp only [Lit.wf, Bool.and_eq_true, decide_eq_true_eq] at h
  exact h.2
theorem i64_in {n : Int} (h : (Lit.int .i64 n).wf = true) : IsInt n := by
  simp only [Lit.wf, Bool.and_eq_true, decide_eq_true_eq] at h
  exact h

/-- A dice that has just been made: all of it is new since a world. -/
structure MadeDice (D : Dice) (w w1 : World) : Prop where
  dice : DiceOf w1 D
  ext : Ext w w1
  d : w.heap.size ≤ D.d
  sv : ∀ k, D.sv.ownBlock = some k → w.heap.size ≤ k
def MadeDicePost (w : World) (e : Ending) (w1 : World) : Prop := ∃ D : Dice, e = .returned (.pointer (some ⟨D.d, 0, none⟩)) ∧ MadeDice D w w1

/-- dice.New of a row that is read. -/
theorem dice_new (w : World) (ao : Option Addr) (cap : Nat) (zs : List Int) (hl : zs.length ≤ 1000) (hw : ∀ n ∈ zs, n ≤ 4294967295) (hr : Reads w 1 ao zs.length (zs.map (Value.int .u32))) :
    Calls Try.prog 25 #[.slice ao zs.length cap] w (MadeDicePost w) :=
  (new_any w ao cap zs hl hw hr).mono fun _ _ h => by
    obtain ⟨D, rfl, h1, _, h2, h3, h4⟩ := NewDice.of h
    exact ⟨D, rfl, h1.of, h2, h3, h4⟩
/-- dice.New of numbers that stand in the text. -/
theorem dice_lit (w : World) (zs : List Int) (cs : Array Value) (hcs : cs.toList = zs.map (Value.int .u32)) (hl : zs.length ≤ 1000) (hw : ∀ n ∈ zs, n ≤ 4294967295) :
    Calls Try.prog 25 #[.slice (some ⟨w.heap.size, 0, none⟩) zs.length zs.length] (w.alloc (.cells cs 39)) (MadeDicePost w) := by
  have hsz : cs.size = zs.length * 1 := by rw [← Array.length_toList, hcs]; simp
  have hr := Reads.new w 39 cs 1 zs.length hsz
  rw [hcs] at hr
  refine (dice_new _ _ _ zs hl hw hr).mono fun _ _ h => ?_
  obtain ⟨D, rfl, h1⟩ := h
  have hx : Ext w (w.alloc (.cells cs 39)) := (Mod.refl _ w).alloc _
  exact ⟨D, rfl, h1.dice, hx.ext_trans h1.ext, Nat.le_trans hx.size h1.d, fun k hk => Nat.le_trans hx.size (h1.sv k hk)⟩

def MadeRopePost (D : Dice) (s : List UInt8) (w : World) (e : Ending) (w1 : World) : Prop := ∃ R : Rp, e = .returned (.tuple #[.pointer (some ⟨R.rb, 0, none⟩), .int .i64 0]) ∧ Fresh R D s w w1
/-- rope.New of one text. -/
theorem rope_one (D : Dice) (s : ByteArray) (w : World) (hD : DiceOf w D) (hs : s.size ≤ 65536) :
    Calls Try.prog 24 #[.pointer (some ⟨D.d, 0, none⟩), .slice (some ⟨w.heap.size, 0, none⟩) 1 1] (w.alloc (.cells #[.string s] 9)) (MadeRopePost D s.data.toList w) := by
  have hx : Ext w (w.alloc (.cells #[.string s] 9)) := (Mod.refl _ w).alloc _
  refine (rope_new D _ _ [s] _ (hD.ext hx) (Reads.new w 9 #[.string s] 1 1 rfl) (by simp)).mono fun _ _ h => ?_
  have hj : join [s] = s.data.toList := by simp [join]
  have hjl : (join [s]).length ≤ 65536 := by rw [hj, toList_length]; exact hs
  obtain ⟨R, rfl, hF⟩ := h.1 hjl
  rw [hj] at hF
  exact ⟨R, rfl, hF.after hx⟩
/-- rope.New of two texts. -/
theorem rope_two (D : Dice) (s t : ByteArray) (w : World) (hD : DiceOf w D) (hs : s.size + t.size ≤ 65536) :
    Calls Try.prog 24 #[.pointer (some ⟨D.d, 0, none⟩), .slice (some ⟨w.heap.size, 0, none⟩) 2 2] (w.alloc (.cells #[.string s, .string t] 9)) (MadeRopePost D (s.data.toList ++ t.data.toList) w) := by
  have hx : Ext w (w.alloc (.cells #[.string s, .string t] 9)) := (Mod.refl _ w).alloc _
  refine (rope_new D _ _ [s, t] _ (hD.ext hx) (Reads.new w 9 #[.string s, .string t] 1 2 rfl) (by simp)).mono fun _ _ h => ?_
  have hj : join [s, t] = s.data.toList ++ t.data.toList := by simp [join]
  have hjl : (join [s, t]).length ≤ 65536 := by rw [hj, List.length_append, toList_length, toList_length]; exact hs
  obtain ⟨R, rfl, hF⟩ := h.1 hjl
  rw [hj] at hF
  exact ⟨R, rfl, hF.after hx⟩
/-- rope.New of no text. -/
theorem rope_none (D : Dice) (w : World) (hD : DiceOf w D) :
    Calls Try.prog 24 #[.pointer (some ⟨D.d, 0, none⟩), .slice none 0 0] w (MadeRopePost D [] w) := by
  refine (new_empty D none 0 w hD).mono fun _ _ h => ?_
  exact h.1 (by simp [join])

/-- A new dice stands apart from what was there. -/
theorem MadeDice.off {D : Dice} {w w1 : World} {O : Rp} (h : MadeDice D w w1) (hO : RopeAt w O) : D.Off O.all ∧ (O.D.d ≠ D.d ∧ D.sv.ownBlock ≠ some O.D.d ∧ O.D.sv.ownBlock ≠ some D.d) := by
  have hl := hO.lt
  have hd := hO.dlt
  have h1 := h.d
  refine ⟨fun k hk => ⟨fun e => by have := hl k hk; omega, fun e => by have := hl k hk; have := h.sv k e; omega⟩, fun e => by omega, fun e => by have := h.sv _ e; omega, fun e => by have := hd.2 _ e; omega⟩
/-- Behind a new dice and a new rope by it: the old rope is as it was, and apart. -/
theorem Fresh.with {R O : Rp} {D : Dice} {s : List UInt8} {w w1 w2 : World} (hm : MadeDice D w w1) (h : Fresh R D s w1 w2) (hO : RopeAt w O) : RopeAt w2 O ∧ Apart O R := by
  obtain ⟨h1, h2⟩ := hm.off hO
  have hO1 := hO.ext hm.ext
  exact ⟨h.old hO1 h1 (.inr h2), h.apart hO1 h1 (.inr h2)⟩
theorem Fresh.based {R : Rp} {D : Dice} {s : List UInt8} {w0 w w1 w2 : World} (hx : Ext w0 w) (hm : MadeDice D w w1) (h : Fresh R D s w1 w2) : Ext w0 w2 ∧ R.New w0 :=
  h.base (hx.ext_trans hm.ext) (Nat.le_trans hx.size hm.d)
theorem Fresh.size {R : Rp} {D : Dice} {s : List UInt8} {w w1 : World} (h : Fresh R D s w w1) : R.t.size = s.length := by rw [← h.text]; rfl
theorem Done.size {R R' : Rp} {s : List UInt8} {w w1 : World} (h : Done R R' s w w1) : R'.t.size = s.length := by rw [← h.text]; rfl
theorem bs_eq {l : List UInt8} {s : ByteArray} (h : l = s.data.toList) : bs l = s := by rw [h, bs_of]
/-- A deed done to one rope leaves the other one, and both apart. -/
theorem Done.aside {R R' O : Rp} {s : List UInt8} {w w1 : World} (h : Done R R' s w w1) (ha : Apart R O) (hO : RopeAt w O) : RopeAt w1 O ∧ Apart R' O :=
  ⟨hO.other ha h.mod h.rope h.grew.2.1, ha.grew h.grew hO⟩

/-- Cut leaves another rope, and both parts apart from it. -/
theorem CutTo.aside {R R' O X : Rp} {s s' : List UInt8} {w w1 : World} (h : CutTo R R' O s s' w w1) (ha : Apart R X) (hX : RopeAt w X) : RopeAt w1 X ∧ Apart R' X ∧ Apart O X := by
  have hl := hX.lt
  have hd := hX.dlt
  refine ⟨hX.other ha h.mod h.rope h.grew.2.1, ha.grew h.grew hX, ?_⟩
  have hall : ∀ k ∈ O.all, k ∈ R.all ∨ w.heap.size ≤ k := by
    intro k hk
    rcases List.mem_cons.1 hk with rfl | hk
    · exact .inr h.onew.1
    · exact (h.onew.2 k hk).imp (fun h => List.mem_cons_of_mem _ h) id
  refine ⟨fun k hk hk2 => ?_, by rw [h.odice]; exact ha.offR, fun k hk => ?_, by rw [h.odice]; exact ha.dice⟩
  · rcases hall k hk with h1 | h1
    · exact ha.blocks k h1 hk2
    · have := hl k hk2; omega
  · rcases hall k hk with h1 | h1
    · exact ha.offO k h1
    · exact ⟨fun e => by have := hd.1; omega, fun e => by have := hd.2 k e; omega⟩
theorem CutTo.base {R R' O : Rp} {s s' : List UInt8} {w w1 w2 : World} (h : CutTo R R' O s s' w1 w2) (hx : Ext w w1) (hn : R.New w) : Ext w w2 ∧ R'.New w ∧ O.New w := by
  refine ⟨Mod.trans hx h.mod (fun i hi e => by
    rcases e with e | e
    · have := hn.all i e; omega
    · have := hn.dice; omega), ⟨fun k hk => (h.grew.all k hk).elim (hn.all k) (fun h2 => Nat.le_trans hx.size h2), by rw [h.grew.2.1]; exact hn.dice⟩, fun k hk => ?_, by rw [h.odice]; exact hn.dice⟩
  rcases List.mem_cons.1 hk with rfl | hk
  · exact Nat.le_trans hx.size h.onew.1
  · exact (h.onew.2 k hk).elim (fun h2 => hn.all k (List.mem_cons_of_mem _ h2)) (fun h2 => Nat.le_trans hx.size h2)
theorem Joined.base {R O R' : Rp} {w w1 w2 : World} (h : Joined R O R' w1 w2) (hx : Ext w w1) (hR : R.New w) (hO : O.New w) : Ext w w2 ∧ R'.New w := by
  refine ⟨Mod.trans hx h.mod (fun i hi e => by
    rcases e with (e | e) | e
    · have := hR.all i e; omega
    · have := hR.dice; omega
    · have := hO.all i e; omega), fun k hk => ?_, by rw [h.dice]; exact hR.dice⟩
  rcases List.mem_cons.1 hk with rfl | hk
  · rw [h.rb]; exact hR.all _ (List.mem_cons_self ..)
  · rcases h.old k hk with h1 | h1 | h1
    · exact hR.all k (List.mem_cons_of_mem _ h1)
    · exact hO.all k (List.mem_cons_of_mem _ h1)
    · exact Nat.le_trans hx.size h1
theorem CutTo.sizes {R R' O : Rp} {s s' : List UInt8} {w w1 : World} (h : CutTo R R' O s s' w w1) : R'.t.size = s.length ∧ O.t.size = s'.length := ⟨by rw [← h.text]; rfl, by rw [← h.rest]; rfl⟩

end Go.Proofs.Ytbcjlbapgidhiaa

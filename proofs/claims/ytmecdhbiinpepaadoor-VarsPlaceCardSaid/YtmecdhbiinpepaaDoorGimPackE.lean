/- What package rope's text computes. Conditions: at most 10000000 bytes. -/
import Derived.Test.YtmecdhbiinpepaaDoorGimLay
import Derived.Test.YtmecdhbiinpepaaDoorGimTree
import Derived.Test.YtmecdhbiinpepaaDoorGimPackA
import Derived.Test.YtmecdhbiinpepaaDoorGimPackD
import Derived.Deep.RegionHeld3
import Derived.Outline
namespace Go.Proofs.YtmecdhbiinpepaaDoor
open Go.RowKit Go.Gim Go.Lib

theorem RowB.convert {B : Nat} {l : List UInt8} {v : Value} {w : World} (h : RowB B l v w) : (convert 83 9 v).run Tryd.prog w = .ok (.string (bs l)) w := by
  rcases h.2.2 with ⟨rfl, hn⟩ | ⟨g, cap, cur, rfl, _, _, hnc, _⟩
  · obtain rfl : l = [] := List.length_eq_zero_iff.1 hn
    rw [run_convert_bytes_string w _ _ _ none 0 0 Tryd.underlying83 Tryd.underlying5 Tryd.underlying9]
    simp [Conv.bytesToString]; rfl
  · refine Go.run_convert_bytes_back w _ _ _ ⟨g, 0, none⟩ cap l Tryd.underlying83 Tryd.underlying5 Tryd.underlying9 (fun j hj => ?_)
    have e1 : (⟨g, 0, none⟩ : Addr).add j = ⟨g, j, none⟩ := by unfold Addr.add; split <;> simp_all
    rw [e1, h.2.cellAt j (by omega)]
    simp [hj]

theorem RowB.nil (w : World) : RowB w.heap.size [] (.slice none 0 0) w := ⟨Nat.le_refl _, World.ownsRow_nil w _ _ _⟩

set_option maxHeartbeats 1600000 in
set_option maxRecDepth 1000000 in
theorem text_any (t : T) (f g : Int) (w : World) (ht : TreeAt w t) (hs : t.size ≤ 10000000) (h0 : 0 ≤ f) (h1 : g ≤ 10000000) (h2 : f ≤ 10000000) :
    Calls Tryd.prog 56 #[.pointer t.addr, .int .i64 f, .int .i64 g] w fun e w' => e = .returned (.string (bs (cut t.text f g))) ∧ Ext w w' := by
  go_enter Tryd.func56, Tryd.ntmps56
  go_wp2_with fail
  refine (lay_any t _ [] f g w.heap.size w ht ht.lt hs h0 h1 h2 (RowB.nil w) (by simp; omega)).mono ?_
  rintro e w1 ⟨v', rfl, hr, hm⟩
  rw [List.nil_append] at hr
  have hcv := hr.convert
  clear hr
  go_wp2_with fail
  go_ret
  exact ⟨rfl, hm.os, hm.tape, hm.output, hm.size, fun k hk _ => hm.block k hk (by omega)⟩

end Go.Proofs.YtmecdhbiinpepaaDoor

/- What package rope's pieces computes. Conditions: at most 10000000 bytes. -/
namespace Go.Gim
/-- The pieces as Pieces tells them: a text, its prio, its depth. -/
structure Pc where
  own : ByteArray
  prio : Int
  depth : Nat
def T.pcs : T → Nat → List Pc
  | .nil, _ => []
  | .node _ own p l r, d => l.pcs (d + 1) ++ ⟨own, p, d⟩ :: r.pcs (d + 1)
def pcCells (l : List Pc) : List Value := l.flatMap fun x => [.string x.own, .int .u32 x.prio, .int .i64 x.depth]
theorem pcCells_append (a b : List Pc) : pcCells (a ++ b) = pcCells a ++ pcCells b := by simp [pcCells]
theorem pcCells_len (a : List Pc) : (pcCells a).length = a.length * 3 := by
  induction a with
  | nil => rfl
  | cons x r ih => simp only [pcCells, List.flatMap_cons, List.length_append, List.length_cons, List.length_nil] at ih ⊢; omega
theorem pcs_own (t : T) : ∀ d, (t.pcs d).map Pc.own = t.owns := by
  induction t with
  | nil => intro d; rfl
  | node b own p l r ihl ihr => intro d; simp [T.pcs, T.owns, ihl, ihr]
theorem pcs_len (t : T) (d : Nat) : (t.pcs d).length = t.count := by
  induction t generalizing d with
  | nil => rfl
  | node b own p l r ihl ihr => simp [T.pcs, T.count, ihl, ihr]; omega
end Go.Gim
namespace Go.Proofs.YtmecdhbiinpepaaDoor
open Go.RowKit Go.Gim

end Go.Proofs.YtmecdhbiinpepaaDoor

/- A rope in memory: its block, its dice, its tree; two ropes side by side. Conditions: at most 65536 bytes. -/
namespace Go.Proofs.YtmecdhbiinpepaaDoor
open Go.RowKit Go.Gim

/-- A rope: its block, its dice (where it lies), its tree. -/
structure Rp where
  rb : Nat
  D : Dice
  t : T

abbrev ropeT : TypeId := 86
def Rp.ptr (R : Rp) : Value := .pointer (some ⟨R.rb, 0, none⟩)
def Rp.text (R : Rp) : List UInt8 := R.t.text
def Rp.all (R : Rp) : List Nat := R.rb :: R.t.blocks
/-- What a deed done to it may turn. -/
def Rp.Foot (R : Rp) (k : Nat) : Prop := k ∈ R.all ∨ k = R.D.d

structure RopeAt (w : World) (R : Rp) : Prop where
  blk : Blk w R.rb 86 #[.pointer (some ⟨R.D.d, 0, none⟩), .pointer R.t.addr]
  tree : TreeAt w R.t
  nd : R.all.Nodup
  heap : R.t.Heap
  le : R.t.Le 4294967295
  pcs : Pcs R.t.owns
  dice : ∃ D, DiceAt w D ∧ Dice.Like D R.D
  off : R.D.Off R.all
  size : R.t.size ≤ 65536

theorem RopeAt.lt {w : World} {R : Rp} (h : RopeAt w R) : ∀ k ∈ R.all, k < w.heap.size := by
  intro k hk
  rcases List.mem_cons.1 hk with rfl | hk
  · exact h.blk.lt
  · exact h.tree.lt k hk
theorem RopeAt.dlt {w : World} {R : Rp} (h : RopeAt w R) : R.D.d < w.heap.size ∧ ∀ k, R.D.sv.ownBlock = some k → k < w.heap.size := by
  obtain ⟨D, hD, hl⟩ := h.dice
  have := hD.lt
  rw [hl.1, hl.2.1] at this
  exact this
theorem RopeAt.flt {w : World} {R : Rp} (h : RopeAt w R) : ∀ k, R.Foot k → k < w.heap.size := by
  rintro k (hk | rfl)
  · exact h.lt k hk
  · exact h.dlt.1

/-- A rope whose blocks and whose dice have not turned. -/
theorem RopeAt.mod {S : Nat → Prop} {w w' : World} {R : Rp} (h : RopeAt w R) (hm : Mod S w w') (h1 : ∀ k ∈ R.all, ¬ S k) (h2 : ∃ D, DiceAt w' D ∧ Dice.Like D R.D) : RopeAt w' R :=
  ⟨h.blk.mod hm (h1 _ (List.mem_cons_self ..)), h.tree.mod hm (fun k hk => h1 k (List.mem_cons_of_mem _ hk)), h.nd, h.heap, h.le, h.pcs, h2, h.off, h.size⟩
theorem RopeAt.ext {w w' : World} {R : Rp} (h : RopeAt w R) (hm : Ext w w') : RopeAt w' R :=
  h.mod hm (fun _ _ f => f) (let ⟨D, hD, hl⟩ := h.dice; ⟨D, hD.ext hm, hl⟩)
theorem RopeAt.drewN {w : World} {R : Rp} (h : RopeAt w R) (n : Nat) : RopeAt (w.drewN n) R := h.ext ((Mod.refl _ w).drewN n)
/-- What is no part of its foot or its dice's numbers may turn. -/
theorem RopeAt.far {S : Nat → Prop} {w w' : World} {R : Rp} (h : RopeAt w R) (hm : Mod S w w') (h1 : ∀ k, R.Foot k → ¬ S k) (h2 : ∀ k, R.D.sv.ownBlock = some k → ¬ S k) : RopeAt w' R :=
  h.mod hm (fun k hk => h1 k (.inl hk)) (let ⟨D, hD, hl⟩ := h.dice; ⟨D, hD.mod hm (by rw [hl.1]; exact h1 _ (.inr rfl)) (by rw [hl.2.1]; exact h2), hl⟩)

/-- Two ropes whose blocks are apart; their dice are one, or apart too. -/
structure Apart (R O : Rp) : Prop where
  blocks : ∀ k ∈ R.all, k ∉ O.all
  offR : R.D.Off O.all
  offO : O.D.Off R.all
  dice : Dice.Like R.D O.D ∨ (R.D.d ≠ O.D.d ∧ O.D.sv.ownBlock ≠ some R.D.d ∧ R.D.sv.ownBlock ≠ some O.D.d)

theorem Dice.Like.symm {D E : Dice} (h : Dice.Like D E) : Dice.Like E D := ⟨h.1.symm, h.2.1.symm, h.2.2.symm⟩
theorem Apart.symm {R O : Rp} (h : Apart R O) : Apart O R :=
  ⟨fun k hk hk2 => h.blocks k hk2 hk, h.offO, h.offR, h.dice.imp Dice.Like.symm (fun ⟨a, b, c⟩ => ⟨a.symm, c, b⟩)⟩

/-- The other rope, where the first one has turned. -/
theorem RopeAt.other {w w' : World} {R R' O : Rp} (hO : RopeAt w O) (ha : Apart R O) (hm : Mod R.Foot w w') (hR' : RopeAt w' R') (hD : R'.D = R.D) : RopeAt w' O := by
  have hno : ∀ k ∈ O.all, ¬ R.Foot k := by
    rintro k hk (h | rfl)
    · exact ha.blocks k h hk
    · exact (ha.offR _ hk).1 rfl
  refine hO.mod hm hno ?_
  rcases ha.dice with hl | ⟨h1, h2, h3⟩
  · obtain ⟨D, hDw, hDl⟩ := hR'.dice
    rw [hD] at hDl
    exact ⟨D, hDw, hDl.trans hl⟩
  · obtain ⟨D, hDw, hDl⟩ := hO.dice
    refine ⟨D, hDw.mod hm ?_ ?_, hDl⟩
    · rintro (h | h)
      · exact (ha.offO _ h).1 hDl.1
      · exact h1 (h.symm.trans hDl.1)
    · rw [hDl.2.1]
      rintro k hk (h | rfl)
      · exact (ha.offO _ h).2 hk
      · exact h2 hk

/-- The blocks of the rope behind a deed: old ones of its own, or new. -/
def Rp.Grew (R R' : Rp) (w : World) : Prop := R'.rb = R.rb ∧ R'.D = R.D ∧ ∀ k ∈ R'.t.blocks, k ∈ R.t.blocks ∨ w.heap.size ≤ k
theorem Rp.Grew.all {R R' : Rp} {w : World} (h : R.Grew R' w) : ∀ k ∈ R'.all, k ∈ R.all ∨ w.heap.size ≤ k := by
  intro k hk
  rcases List.mem_cons.1 hk with rfl | hk
  · exact .inl (by rw [h.1]; exact List.mem_cons_self ..)
  · exact (h.2.2 k hk).imp (fun h => List.mem_cons_of_mem _ h) id
theorem Apart.grew {w : World} {R R' O : Rp} (ha : Apart R O) (hg : R.Grew R' w) (hO : RopeAt w O) : Apart R' O := by
  have hl := hO.lt
  have hd := hO.dlt
  refine ⟨fun k hk hk2 => ?_, by rw [hg.2.1]; exact ha.offR, fun k hk => ?_, by rw [hg.2.1]; exact ha.dice⟩
  · rcases hg.all k hk with h | h
    · exact ha.blocks k h hk2
    · have := hl k hk2; omega
  · rcases hg.all k hk with h | h
    · exact ha.offO k h
    · exact ⟨fun e => by omega, fun e => by have := hd.2 k e; omega⟩
theorem Rp.Grew.foot {R R' : Rp} {w : World} (h : R.Grew R' w) : ∀ k, k < w.heap.size → R'.Foot k → R.Foot k := by
  rintro k hk (h1 | h1)
  · rcases h.all k h1 with h2 | h2
    · exact .inl h2
    · omega
  · exact .inr (by rw [h1, h.2.1])
theorem Rp.Grew.refl (R : Rp) (w : World) : R.Grew R w := ⟨rfl, rfl, fun _ h => .inl h⟩
theorem Rp.Grew.trans {R R' R'' : Rp} {w w' : World} (h : R.Grew R' w) (k : R'.Grew R'' w') (hs : w.heap.size ≤ w'.heap.size) : R.Grew R'' w :=
  ⟨k.1.trans h.1, k.2.1.trans h.2.1, fun x hx => (k.2.2 x hx).elim (h.2.2 x) (fun h2 => .inr (Nat.le_trans hs h2))⟩

/-- What a deed done to a rope leaves: the rope there, its text s. -/
structure Done (R R' : Rp) (s : List UInt8) (w w' : World) : Prop where
  rope : RopeAt w' R'
  text : R'.text = s
  grew : R.Grew R' w
  mod : Mod R.Foot w w'
theorem Done.trans {R R' R'' : Rp} {s s' : List UInt8} {w w' w'' : World} (h : Done R R' s w w') (k : Done R' R'' s' w' w'') : Done R R'' s' w w'' :=
  ⟨k.rope, k.text, h.grew.trans k.grew h.mod.size, Mod.trans h.mod k.mod (fun i hi hf => h.grew.foot i hi hf)⟩
theorem Done.ext {R R' : Rp} {s : List UInt8} {w w' w'' : World} (h : Done R R' s w w') (k : Ext w' w'') : Done R R' s w w'' :=
  ⟨h.rope.ext k, h.text, h.grew, Mod.trans h.mod k (fun _ _ f => f.elim)⟩
theorem Done.refl {R : Rp} {w : World} (h : RopeAt w R) : Done R R R.text w w := ⟨h, rfl, Rp.Grew.refl R w, Mod.refl _ w⟩
theorem Done.after {R R' : Rp} {s : List UInt8} {w w' w'' : World} (k : Ext w w') (h : Done R R' s w' w'') : Done R R' s w w'' :=
  ⟨h.rope, h.text, ⟨h.grew.1, h.grew.2.1, fun x hx => (h.grew.2.2 x hx).imp id (fun h2 => Nat.le_trans k.size h2)⟩, Mod.trans (k.any) h.mod (fun _ _ f => f)⟩

theorem RopeAt.cells {w : World} {R : Rp} (h : RopeAt w R) : w.cell? ⟨R.rb, 0, none⟩ = some (.pointer (some ⟨R.D.d, 0, none⟩)) ∧ w.cell? ⟨R.rb, 1, none⟩ = some (.pointer R.t.addr) ∧ w.frozen? ⟨R.rb, 1, none⟩ = false ∧ R.rb < w.heap.size :=
  ⟨h.blk.cell 0, h.blk.cell 1, h.blk.free 1, h.blk.lt⟩

end Go.Proofs.YtmecdhbiinpepaaDoor

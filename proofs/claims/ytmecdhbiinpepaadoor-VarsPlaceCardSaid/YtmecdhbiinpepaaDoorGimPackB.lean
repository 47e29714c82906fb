/- What rope's Insert and Delete compute. Conditions: a rope of at most 65536 bytes. -/
import Derived.Test.YtmecdhbiinpepaaDoorGimRepl
import Derived.Test.YtmecdhbiinpepaaDoorGimPackE
import Derived.Test.YtmecdhbiinpepaaDoorGimDice
import Derived.Test.YtmecdhbiinpepaaDoorGimRope1
import Derived.Test.YtmecdhbiinpepaaDoorGimPackA
import Derived.Test.YtmecdhbiinpepaaDoorGimCount
import Derived.Test.YtmecdhbiinpepaaDoorGimUpto
import Derived.Deep.LoopGhost
import Derived.Deep.DeepCutAuto
import Derived.Outline
import Derived.LaidEqlPtr
namespace Go.Proofs.YtmecdhbiinpepaaDoor
open Go.RowKit Go.Gim

/-- OK, and the rope has another text. -/
def DonePost (R : Rp) (s : List UInt8) (w : World) (e : Ending) (w' : World) : Prop := e = .returned (.int .i64 0) ∧ ∃ R', Done R R' s w w'

end Go.Proofs.YtmecdhbiinpepaaDoor

/- What rope's New and Twin compute. Conditions: a rope of at most 65536 bytes. -/
namespace Go.Proofs.YtmecdhbiinpepaaDoor
open Go.RowKit Go.Gim Go.Lib

/-- A dice as it lies in memory, whatever it has told. -/
def DiceOf (w : World) (D : Dice) : Prop := ∃ D', DiceAt w D' ∧ Dice.Like D' D
theorem DiceOf.ext {w w' : World} {D : Dice} (h : DiceOf w D) (hm : Ext w w') : DiceOf w' D := let ⟨D', h1, h2⟩ := h; ⟨D', h1.ext hm, h2⟩

/-- A rope that has just been made, by a dice, of a text. -/
structure Fresh (R : Rp) (D : Dice) (s : List UInt8) (w w' : World) : Prop where
  rope : RopeAt w' R
  dice : R.D = D
  text : R.text = s
  new : ∀ k ∈ R.all, w.heap.size ≤ k
  mod : Mod (· = D.d) w w'

theorem Fresh.after {R : Rp} {D : Dice} {s : List UInt8} {w w' w'' : World} (k : Ext w w') (h : Fresh R D s w' w'') : Fresh R D s w w'' :=
  ⟨h.rope, h.dice, h.text, fun x hx => Nat.le_trans k.size (h.new x hx), Mod.trans k.any h.mod (fun _ _ f => f)⟩
theorem Fresh.ext {R : Rp} {D : Dice} {s : List UInt8} {w w' w'' : World} (h : Fresh R D s w w') (k : Ext w' w'') : Fresh R D s w w'' :=
  ⟨h.rope.ext k, h.dice, h.text, h.new, Mod.trans h.mod k (fun _ _ f => f.elim)⟩
/-- A rope that was made, and turned since. -/
theorem Fresh.done {R R' : Rp} {D : Dice} {s s' : List UInt8} {w w' w'' : World} (h : Fresh R D s w w') (k : Done R R' s' w' w'') : Fresh R' D s' w w'' :=
  ⟨k.rope, k.grew.2.1.trans h.dice, k.text, fun x hx => (k.grew.all x hx).elim (h.new x) (fun h2 => Nat.le_trans h.mod.size h2), Mod.trans h.mod k.mod (fun i hi hf => by
    rcases hf with hf | hf
    · have := h.new i hf; omega
    · rw [hf, h.dice])⟩
/-- An old rope stands apart from a fresh one. -/
theorem Fresh.apart {R O : Rp} {D : Dice} {s : List UInt8} {w w' : World} (h : Fresh R D s w w') (hO : RopeAt w O) (hOD : D.Off O.all) (hd : Dice.Like O.D D ∨ (O.D.d ≠ D.d ∧ D.sv.ownBlock ≠ some O.D.d ∧ O.D.sv.ownBlock ≠ some D.d)) : Apart O R := by
  have hl := hO.lt
  have hdl := hO.dlt
  refine ⟨fun k hk hk2 => ?_, fun k hk => ⟨fun e => ?_, fun e => ?_⟩, by rw [h.dice]; exact hOD, by rw [h.dice]; exact hd⟩
  · have := hl k hk; have := h.new k hk2; omega
  · have := h.new k hk; have := hdl.1; omega
  · have := h.new k hk; have := hdl.2 k e; omega
theorem Fresh.old {R O : Rp} {D : Dice} {s : List UInt8} {w w' : World} (h : Fresh R D s w w') (hO : RopeAt w O) (hOD : D.Off O.all) (hd : Dice.Like O.D D ∨ (O.D.d ≠ D.d ∧ D.sv.ownBlock ≠ some O.D.d ∧ O.D.sv.ownBlock ≠ some D.d)) : RopeAt w' O := by
  refine hO.mod h.mod (fun k hk e => (hOD k hk).1 e) ?_
  rcases hd with hl | ⟨h1, h2, h3⟩
  · obtain ⟨D', h4, h5⟩ := h.rope.dice
    rw [h.dice] at h5
    exact ⟨D', h4, h5.trans hl.symm⟩
  · obtain ⟨D', h4, h5⟩ := hO.dice
    exact ⟨D', h4.mod h.mod (fun e => h1 (h5.1.symm.trans e)) (fun k hk e => h3 (by rw [← h5.2.1, hk, e])), h5⟩

/-- The empty rope in a block that has just been made. -/
theorem RopeAt.empty {w : World} {D : Dice} (hD : DiceOf w D) : RopeAt (w.alloc (.cells #[.pointer (some ⟨D.d, 0, none⟩), .pointer none] 86)) ⟨w.heap.size, D, .nil⟩ := by
  obtain ⟨D', h1, h2⟩ := hD
  have hl := h1.lt
  rw [h2.1, h2.2.1] at hl
  refine ⟨Blk.new _ _ _, trivial, by simp [Rp.all, T.blocks], trivial, trivial, good_nil, ⟨D', h1.ext ((Mod.refl _ w).alloc _), h2⟩, ?_, by simp [T.size, T.text]⟩
  intro k hk
  simp [Rp.all, T.blocks] at hk
  subst hk
  exact ⟨fun e => by have := hl.1; simp at e; omega, fun e => by have := hl.2 _ e; omega⟩

/-- weld of one text alone, by any dice. -/
theorem weld_one {w : World} {D : Dice} (m : ByteArray) (hD : DiceOf w D) (hs : m.size ≤ 1000000) :
    Calls Tryd.prog 53 #[.pointer (some ⟨D.d, 0, none⟩), .pointer none, .string m, .pointer none] w fun e w' =>
      ∃ t D', Dice.Like D' D ∧ e = .returned (.pointer t.addr) ∧ t.text = m.data.toList ∧ Pcs t.owns ∧ WeldAt D' [] w t .nil w' := by
  obtain ⟨D', h1, h2⟩ := hD
  have hI : WeldIn D' .nil m .nil w := ⟨WeldAt.start (a := .nil) (b := .nil) trivial trivial (by simp [T.blocks]) trivial trivial trivial trivial h1, h1, fun k hk => by simp [T.blocks] at hk, good_nil, good_nil, by simp [T.size, T.text]; omega⟩
  rw [← h2.1]
  refine (weld_any D' .nil .nil m w hI).mono ?_
  rintro e w' ⟨t, rfl, hj, hp, hW⟩
  refine ⟨t, D', h2, rfl, ?_, hp, hW⟩
  rw [T.text_owns, hj]; simp [T.owns, join]

/-- A rope in a block that is made with its tree. -/
theorem RopeAt.boxed {w w3 : World} {D D' : Dice} {t : T} (hD : DiceOf w D) (hl : Dice.Like D' D) (hp : Pcs t.owns) (hW : WeldAt D' [] w t .nil w3) (hs : t.size ≤ 65536) :
    Fresh ⟨w3.heap.size, D, t⟩ D t.text w (w3.alloc (.cells #[.pointer (some ⟨D.d, 0, none⟩), .pointer t.addr] 86)) := by
  have hx : Ext w3 (w3.alloc (.cells #[.pointer (some ⟨D.d, 0, none⟩), .pointer t.addr] 86)) := (Mod.refl _ w3).alloc _
  have hm : Mod (· = D.d) w w3 := hW.mod.mono (fun k _ h => h.elim (fun h => by cases h) (fun h => h.trans hl.1))
  have hold : ∀ k ∈ t.blocks, w.heap.size ≤ k := fun k hk => (hW.old k (List.mem_append_left _ hk)).elim (fun h => by cases h) id
  have hlt : ∀ k ∈ t.blocks, k < w3.heap.size := hW.ta.lt
  obtain ⟨D0, k1, k2⟩ := hD
  have hdl := k1.lt
  rw [k2.1, k2.2.1] at hdl
  have hsz := hm.size
  have hnew : ∀ k ∈ Rp.all ⟨w3.heap.size, D, t⟩, w.heap.size ≤ k := by
    intro k hk
    rcases List.mem_cons.1 hk with rfl | hk
    · exact hsz
    · exact hold k hk
  obtain ⟨D3, h3, h4⟩ := hW.dice
  refine ⟨⟨Blk.new _ _ _, hW.ta.ext hx, ?_, hW.ha, hW.la, hp, ⟨D3, h3.ext hx, h4.trans hl⟩, fun k hk => ?_, hs⟩, rfl, rfl, hnew, Mod.trans hm hx (fun _ _ f => f.elim)⟩
  · refine List.nodup_cons.2 ⟨fun hk => by have := hlt _ hk; simp at this, ?_⟩
    have := hW.nd
    rwa [show t.blocks ++ T.nil.blocks = t.blocks from List.append_nil _] at this
  · have := hnew k hk
    exact ⟨fun e => by have h5 : k = D.d := e; have := hdl.1; omega, fun e => by have := hdl.2 k e; omega⟩

def TwinPost (D : Dice) (s : List UInt8) (w : World) (e : Ending) (w' : World) : Prop := ∃ R, e = .returned (.pointer (some ⟨R.rb, 0, none⟩)) ∧ Fresh R D s w w'

end Go.Proofs.YtmecdhbiinpepaaDoor

/- What rope's New computes. Conditions: at most 1000 parts; a dice that is one, or none. -/
namespace Go.Proofs.YtmecdhbiinpepaaDoor
open Go.RowKit Go.Gim Go.Lib

def NewPost (D : Dice) (ps : List ByteArray) (w : World) (e : Ending) (w' : World) : Prop :=
  ((join ps).length ≤ 65536 → ∃ R, e = .returned (.tuple #[.pointer (some ⟨R.rb, 0, none⟩), .int .i64 0]) ∧ Fresh R D (join ps) w w') ∧
  (65536 < (join ps).length → e = .returned (.tuple #[.pointer none, .int .i64 4]) ∧ Ext w w')

set_option maxHeartbeats 800000 in
set_option maxRecDepth 1000000 in
theorem new_nodice (ao : Option Addr) (n cap : Nat) (w : World) : Calls Tryd.prog 30 #[.pointer none, .slice ao n cap] w fun e w' => e = .returned (.tuple #[.pointer none, .int .i64 1]) ∧ w' = w := by
  go_enter Tryd.func30, Tryd.ntmps30
  go_wp2_with fail
  go_ret2
  exact ⟨rfl, rfl⟩

theorem join_take_succ (ps : List ByteArray) (k : Nat) (hk : k < ps.length) : join (ps.take (k + 1)) = join (ps.take k) ++ ps[k].data.toList := by
  rw [List.take_succ_eq_append_getElem hk, join_append]; simp [join]
theorem join_take_le (ps : List ByteArray) (k : Nat) : (join (ps.take k)).length ≤ (join ps).length := by
  have : join ps = join (ps.take k) ++ join (ps.drop k) := by rw [← join_append, List.take_append_drop]
  rw [this, List.length_append]; omega

/-- What New's loop holds. -/
def NewAt (ps : List ByteArray) (w : World) (k : Nat) (v : Value) (wr : World) : Prop :=
  k ≤ ps.length ∧ (join (ps.take k)).length ≤ 65536 ∧ RowB w.heap.size (join (ps.take k)) v wr ∧ Mod (w.heap.size ≤ ·) w wr

/-- The end of New: the box, weld, the store. -/
theorem new_end {w wr : World} {D : Dice} {ps : List ByteArray} {v : Value} (hN : NewAt ps w ps.length v wr) (hD : DiceOf w D) :
    (join ps).length ≤ 65536 ∧ RowB w.heap.size (join ps) v (wr.alloc (.cells #[.pointer (some ⟨D.d, 0, none⟩), .pointer none] 86)) ∧ DiceOf (wr.alloc (.cells #[.pointer (some ⟨D.d, 0, none⟩), .pointer none] 86)) D ∧
    RopeAt (wr.alloc (.cells #[.pointer (some ⟨D.d, 0, none⟩), .pointer none] 86)) ⟨wr.heap.size, D, .nil⟩ ∧ Ext w wr := by
  obtain ⟨_, h1, h2, h3⟩ := hN
  rw [List.take_length] at h1 h2
  have hx : Ext w wr := ⟨h3.os, h3.tape, h3.output, h3.size, fun k hk _ => h3.block k hk (Nat.not_le.2 hk)⟩
  exact ⟨h1, h2.later ((Mod.refl _ wr).alloc _), (hD.ext hx).ext ((Mod.refl _ wr).alloc _), RopeAt.empty (hD.ext hx), hx⟩

set_option maxHeartbeats 1600000 in
set_option maxRecDepth 1000000 in
theorem new_some (D : Dice) (b off cap : Nat) (ps : List ByteArray) (w : World) (hD : DiceOf w D) (hr : Reads w 1 (some ⟨b, off, none⟩) ps.length (ps.map Value.string)) (hn : ps.length ≤ 1000) (h0 : 0 < ps.length) :
    Calls Tryd.prog 30 #[.pointer (some ⟨D.d, 0, none⟩), .slice (some ⟨b, off, none⟩) ps.length cap] w (NewPost D ps w) := by
  have hbl : b < w.heap.size := World.block_lt_of_cell? w _ (hr.at (j := 0) (v := .string ps[0]) (by simp [h0]))
  go_enter Tryd.func30, Tryd.ntmps30
  go_wp2_with fail
  go_loopw [6, 14] (fun p q wr => ∃ k : Nat, ∃ v : Value, q = .int .i64 k ∧ v = p ∧ Hid (NewAt ps w k v wr)) (fun _ q _ => ps.length - (intOf q).toNat)
  case atStart => exact ⟨0, _, rfl, rfl, Lib.hid ⟨by omega, by simp [join], RowB.nil w, Mod.refl _ _⟩⟩
  case round =>
    obtain ⟨k, v, rfl, rfl, HN⟩ := hrel
    by_cases hk : k < ps.length
    · have hk' : (k : Int) < (ps.length : Int) := by omega
      obtain ⟨_, h1, h2, h3⟩ := HN.out
      have hc : wr.cell? ⟨b, off + k, none⟩ = some (.string ps[k]) := by
        rw [h3.cell (p := ⟨b, off + k, none⟩) hbl (Nat.not_le.2 hbl)]
        exact hr.at (by simp [hk])
      obtain ⟨ao, cp, hv, hcp, _⟩ := ownsRow_shape h2.2
      have hjs := join_take_succ ps k hk
      have hjl := join_take_le ps (k + 1)
      rw [hjs, List.length_append, toList_length] at hjl
      have Hjs := Lib.hid hjs
      clear hjs
      generalize hsk : ps[k] = s at *
      generalize hL : join (ps.take k) = L at *
      have HL := Lib.hid hL
      have Hsk := Lib.hid hsk
      clear hL hsk
      have Hv := Lib.hid hv
      clear h3
      rw [hv] at h2 ⊢
      clear hv
      by_cases hs : (65536 : Int) - (L.length : Int) < (s.size : Int)
      · go_wp2_with fail
        go_ret2
        have h4 := HN.out.2.2.2
        exact ⟨fun h => absurd h (by omega), fun _ => ⟨rfl, h4.os, h4.tape, h4.output, h4.size, fun k hk _ => h4.block k hk (Nat.not_le.2 hk)⟩⟩
      · go_wp2_with (at_builtin; refine wpList_append_rowB rfl _ _ rfl w.heap.size L _ rfl h2 _ rfl ?h63 ?_)
        case h63 => omega
        intro v2 w2 k1 k2
        have K1 := Lib.hid k1
        clear k1
        go_wp2_with fail
        go_roundw
        case rel =>
          refine ⟨k + 1, v2, by go_num, rfl, Lib.hid ⟨by omega, ?_, ?_, Mod.trans HN.out.2.2.2 k2 (fun _ _ h => h)⟩⟩
          · rw [Hjs.out, List.length_append, toList_length]; omega
          · rw [Hjs.out]; exact K1.out
        case measure => simp [intOf]; omega
    · have hk' : ¬ (k : Int) < (ps.length : Int) := by omega
      obtain rfl : k = ps.length := by have := HN.out.1; omega
      obtain ⟨h1, h2, h3, h4, h5⟩ := new_end HN.out hD
      have hcv := h2.convert
      clear h2
      go_wp2_with fail
      have hbs : (bs (join ps)).size = (join ps).length := rfl
      refine (weld_one (D := D) (bs (join ps)) h3 (by omega)).mono ?_
      rintro e w2 ⟨t, D', hl, rfl, ht, hp, hW⟩
      have hne : ¬ (wr.heap.size ∈ ([] : List Nat) ∨ wr.heap.size = D'.d) := by
        rintro (h | h)
        · cases h
        · exact (h4.off _ (List.mem_cons_self ..)).1 (h.trans hl.1)
      have hb2 := h4.blk.mod hW.mod hne
      have e1 := hb2.cell 1
      have f1 := hb2.free 1
      have hlt := hb2.lt
      simp only at e1 f1 hlt
      have hts : t.size = (join ps).length := by rw [T.size, ht]; rfl
      have hf0 : Fresh ⟨wr.heap.size, D, .nil⟩ D [] w (wr.alloc (.cells #[.pointer (some ⟨D.d, 0, none⟩), .pointer none] 86)) :=
        ⟨h4, rfl, rfl, fun k hk => (by simp [Rp.all, T.blocks] at hk; subst hk; exact h5.size), (h5.alloc _).any⟩
      have hd := h4.rooted (Mod.refl _ _) h4.blk (A := []) (fun k hk => by cases hk) hl hW hp (s := join ps) (by rw [ht]; rfl) (by omega)
      have HF := Lib.hid (hf0.done hd)
      have H1 := Lib.hid h1
      clear hf0 hd hts hbs ht hp hW hb2 h3 h4 h5 hcv h1
      go_wp2_with fail
      go_ret2
      exact ⟨fun _ => ⟨_, rfl, HF.out⟩, fun h => absurd H1.out (Nat.not_le.2 h)⟩

set_option maxHeartbeats 1600000 in
set_option maxRecDepth 1000000 in
theorem new_empty (D : Dice) (ao : Option Addr) (cap : Nat) (w : World) (hD : DiceOf w D) :
    Calls Tryd.prog 30 #[.pointer (some ⟨D.d, 0, none⟩), .slice ao 0 cap] w (NewPost D [] w) := by
  have hN : NewAt [] w ([] : List ByteArray).length (.slice none 0 0) w := ⟨by simp, by simp [join], RowB.nil w, Mod.refl _ _⟩
  go_enter Tryd.func30, Tryd.ntmps30
  go_wp2_with fail
  refine wp_loop_rounds 1 ?_
  rw [rounds_succ]
  obtain ⟨h1, h2, h3, h4, h5⟩ := new_end hN hD
  have hcv := h2.convert
  clear h2
  go_wp2_with fail
  have hbs : (bs (join [])).size = 0 := rfl
  refine (weld_one (D := D) (bs (join [])) h3 (by omega)).mono ?_
  rintro e w2 ⟨t, D', hl, rfl, ht, hp, hW⟩
  have hne : ¬ (w.heap.size ∈ ([] : List Nat) ∨ w.heap.size = D'.d) := by
    rintro (h | h)
    · cases h
    · exact (h4.off _ (List.mem_cons_self ..)).1 (h.trans hl.1)
  have hb2 := h4.blk.mod hW.mod hne
  have e1 := hb2.cell 1
  have f1 := hb2.free 1
  have hlt := hb2.lt
  simp only at e1 f1 hlt
  have hts : t.size = 0 := by rw [T.size, ht]; rfl
  have hf0 : Fresh ⟨w.heap.size, D, .nil⟩ D [] w (w.alloc (.cells #[.pointer (some ⟨D.d, 0, none⟩), .pointer none] 86)) :=
    ⟨h4, rfl, rfl, fun k hk => (by simp [Rp.all, T.blocks] at hk; subst hk; exact h5.size), (h5.alloc _).any⟩
  have hd := h4.rooted (Mod.refl _ _) h4.blk (A := []) (fun k hk => by cases hk) hl hW hp (s := join []) (by rw [ht]; rfl) (by omega)
  have HF := Lib.hid (hf0.done hd)
  have H1 := Lib.hid h1
  clear hf0 hd hts hbs ht hp hW hb2 h3 h4 h5 hcv h1 hN
  go_wp2_with fail
  go_ret2
  exact ⟨fun _ => ⟨_, rfl, HF.out⟩, fun h => absurd H1.out (Nat.not_le.2 h)⟩

/-- New, of any parts. -/
theorem rope_new (D : Dice) (ao : Option Addr) (cap : Nat) (ps : List ByteArray) (w : World) (hD : DiceOf w D) (hr : Reads w 1 ao ps.length (ps.map Value.string)) (hn : ps.length ≤ 1000) :
    Calls Tryd.prog 30 #[.pointer (some ⟨D.d, 0, none⟩), .slice ao ps.length cap] w (NewPost D ps w) := by
  by_cases h0 : 0 < ps.length
  · obtain ⟨b, off, rfl⟩ := hr.some h0
    exact new_some D b off cap ps w hD hr hn h0
  · obtain rfl : ps = [] := List.length_eq_zero_iff.1 (by omega)
    exact new_empty D ao cap w hD

end Go.Proofs.YtmecdhbiinpepaaDoor

/- What gimletlaw3's under answers of the pieces of a treap: true. Conditions: at most 1000000 pieces. -/
namespace Go.Gim
open Go Go.RowKit
theorem pcCells_cons (x : Pc) (r : List Pc) : pcCells (x :: r) = .string x.own :: .int .u32 x.prio :: .int .i64 x.depth :: pcCells r := rfl
theorem pcCells_at (L : List Pc) : ∀ (i : Nat) (x : Pc), L[i]? = some x → (pcCells L)[i * 3]? = some (.string x.own) ∧ (pcCells L)[i * 3 + 1]? = some (.int .u32 x.prio) ∧ (pcCells L)[i * 3 + 2]? = some (.int .i64 x.depth) := by
  induction L with
  | nil => intro i x h; simp at h
  | cons y r ih =>
    intro i x h
    cases i with
    | zero => simp at h; subst h; exact ⟨rfl, rfl, rfl⟩
    | succ i =>
      have := ih i x (by simpa using h)
      rw [pcCells_cons, show (i + 1) * 3 = i * 3 + 1 + 1 + 1 from by omega, show i * 3 + 1 + 1 + 1 + 1 = i * 3 + 1 + 1 + 1 + 1 from rfl]
      exact this
/-- A piece that is read: its cells. -/
theorem reads_piece {w : World} {b off n : Nat} {L : List Pc} (h : Reads w 3 (some ⟨b, off, none⟩) n (pcCells L)) {i : Nat} {x : Pc} (hx : L[i]? = some x) :
    w.cell? ⟨b, off + i * 3, none⟩ = some (.string x.own) ∧ w.cell? ⟨b, off + i * 3 + 1, none⟩ = some (.int .u32 x.prio) ∧ w.cell? ⟨b, off + i * 3 + 2, none⟩ = some (.int .i64 x.depth) := by
  have hi := (List.getElem?_eq_some_iff.1 hx).1
  have hl := pcCells_len L
  have hn : 0 < n := by have := h.1; omega
  obtain ⟨b', off', he, hc⟩ := h.2 hn
  cases he
  obtain ⟨h1, h2, h3⟩ := pcCells_at L i x hx
  exact ⟨by rw [hc _ (by omega)]; exact h1, by rw [Nat.add_assoc, hc _ (by omega)]; exact h2, by rw [Nat.add_assoc, hc _ (by omega)]; exact h3⟩
theorem pcs_deep (t : T) : ∀ (d : Nat) (x : Pc), x ∈ t.pcs d → d ≤ x.depth := by
  induction t with
  | nil => intro d x h; cases h
  | node b own p l r ihl ihr =>
    intro d x h
    simp only [T.pcs, List.mem_append, List.mem_cons] at h
    rcases h with h | rfl | h
    · have := ihl _ x h; omega
    · exact Nat.le_refl _
    · have := ihr _ x h; omega
/-- A tree's pieces stand in a list from lo on. -/
def Stand (L : List Pc) (lo : Nat) (l : List Pc) : Prop := ∀ j x, l[j]? = some x → L[lo + j]? = some x
theorem Stand.left {L : List Pc} {lo : Nat} {a b : List Pc} (h : Stand L lo (a ++ b)) : Stand L lo a := fun j x hx => h j x (by rw [List.getElem?_append_left (List.getElem?_eq_some_iff.1 hx).1, hx])
theorem Stand.right {L : List Pc} {lo : Nat} {a b : List Pc} (h : Stand L lo (a ++ b)) : Stand L (lo + a.length) b := fun j x hx => by
  have := h (a.length + j) x (by rw [List.getElem?_append_right (by omega), Nat.add_sub_cancel_left, hx])
  rwa [← Nat.add_assoc] at this
theorem Stand.tail {L : List Pc} {lo : Nat} {a : Pc} {b : List Pc} (h : Stand L lo (a :: b)) : Stand L (lo + 1) b := Stand.right (a := [a]) h
theorem Stand.head {L : List Pc} {lo : Nat} {a : Pc} {b : List Pc} (h : Stand L lo (a :: b)) : L[lo]? = some a := h 0 a rfl
end Go.Gim
namespace Go.Proofs.YtmecdhbiinpepaaDoor
open Go.RowKit Go.Gim

end Go.Proofs.YtmecdhbiinpepaaDoor

/- What gimletlaw3's whole answers of a rope: true; and the small functions of that package. Conditions: a rope of at most 65536 bytes. -/
namespace Go.Proofs.YtmecdhbiinpepaaDoor
open Go.RowKit Go.Gim

/-- What whole's loop holds. -/
def WholeAt (R : Rp) (k : Nat) (s : ByteArray) : Prop := k ≤ R.t.owns.length ∧ s.data.toList = join (R.t.owns.take k)

theorem adj_at {l : List ByteArray} (h : Adj l) : ∀ (j : Nat) (a b : ByteArray), l[j]? = some a → l[j + 1]? = some b → 64 < a.size + b.size := by
  induction l with
  | nil => intro j a b h1; simp at h1
  | cons x r ih =>
    intro j a b h1 h2
    cases r with
    | nil => simp at h2
    | cons y q =>
      cases j with
      | zero => simp at h1 h2; subst h1; subst h2; exact h.1
      | succ j => exact ih h.2 j a b (by simpa using h1) (by simpa using h2)
theorem owns_at (t : T) (d i : Nat) (x : Pc) (h : (t.pcs d)[i]? = some x) : t.owns[i]? = some x.own := by
  rw [← pcs_own t d, List.getElem?_map, h]; rfl
theorem owns_len (t : T) : t.owns.length = t.count := by rw [← pcs_own t 0, List.length_map, pcs_len]
theorem join_take_step {l : List ByteArray} {k : Nat} {x : ByteArray} (h : l[k]? = some x) : join (l.take (k + 1)) = join (l.take k) ++ x.data.toList := by
  obtain ⟨hk, rfl⟩ := List.getElem?_eq_some_iff.1 h
  rw [List.take_succ_eq_append_getElem hk, join_append]; simp [join]
theorem join_take_le2 (ps : List ByteArray) (k : Nat) : (join (ps.take k)).length ≤ (join ps).length := by
  have : join ps = join (ps.take k) ++ join (ps.drop k) := by rw [← join_append, List.take_append_drop]
  rw [this, List.length_append]; omega

end Go.Proofs.YtmecdhbiinpepaaDoor

/- The small functions of gimletlaw3: inside, awake. Conditions: none. -/
namespace Go.Proofs.YtmecdhbiinpepaaDoor
open Go.RowKit Go.Gim

/-- A short text is one piece. -/
theorem one_piece {t : T} (h : Pcs t.owns) (h1 : 0 < t.size) (h2 : t.size ≤ 64) : t.count = 1 := by
  rw [← owns_len]
  rw [T.size_join] at h1 h2
  cases ho : t.owns with
  | nil => rw [ho] at h1; simp [join] at h1
  | cons x r =>
    cases r with
    | nil => rfl
    | cons y q =>
      rw [ho] at h h2
      have := h.2.1
      have e1 : x.data.toList.length = x.size := rfl
      have e2 : y.data.toList.length = y.size := rfl
      rw [join_cons, join_cons, List.length_append, List.length_append] at h2
      omega

theorem NewDice.of {zs : List Int} {w w' : World} {e : Ending} (h : NewDice zs w e w') : ∃ D : Dice, e = .returned (.pointer (some ⟨D.d, 0, none⟩)) ∧ DiceAt w' D ∧ D.nums = zs ∧ Ext w w' ∧ w.heap.size ≤ D.d ∧ (∀ k, D.sv.ownBlock = some k → w.heap.size ≤ k) := by
  obtain ⟨d, sv, rfl, h1, h2, h3, h4⟩ := h
  exact ⟨_, rfl, h1, rfl, h2, h3, h4⟩
theorem DiceAt.of {w : World} {D : Dice} (h : DiceAt w D) : DiceOf w D := ⟨D, h, .refl D⟩

/-- A rope all of which is new since a world. -/
structure Rp.New (R : Rp) (w : World) : Prop where
  all : ∀ k ∈ R.all, w.heap.size ≤ k
  dice : w.heap.size ≤ R.D.d
theorem Fresh.base {R : Rp} {D : Dice} {s : List UInt8} {w w1 w2 : World} (h : Fresh R D s w1 w2) (hx : Ext w w1) (hd : w.heap.size ≤ D.d) : Ext w w2 ∧ R.New w :=
  ⟨Mod.trans hx h.mod (fun i hi e => by have : i = D.d := e; omega), fun k hk => Nat.le_trans hx.size (h.new k hk), by rw [h.dice]; exact hd⟩
theorem Done.base {R R' : Rp} {s : List UInt8} {w w1 w2 : World} (h : Done R R' s w1 w2) (hx : Ext w w1) (hn : R.New w) : Ext w w2 ∧ R'.New w :=
  ⟨Mod.trans hx h.mod (fun i hi e => by
    rcases e with e | e
    · have := hn.all i e; omega
    · have := hn.dice; omega), fun k hk => (h.grew.all k hk).elim (hn.all k) (fun h2 => Nat.le_trans hx.size h2), by rw [h.grew.2.1]; exact hn.dice⟩

end Go.Proofs.YtmecdhbiinpepaaDoor

/- What rope's Join computes. Conditions: ropes of at most 65536 bytes, apart. -/
namespace Go.Proofs.YtmecdhbiinpepaaDoor
open Go.RowKit Go.Gim Go.Lib

/-- The rope behind weld of whatever trees, and the store of its new root. -/
theorem RopeAt.rooted2 {w2 w3 : World} {R : Rp} {D : Dice} {A : List Nat} {t : T} {old : Value} (hb2 : Blk w2 R.rb 86 #[.pointer (some ⟨R.D.d, 0, none⟩), old]) (hrA : R.rb ∉ A) (hoff : R.D.Off [R.rb]) (hoffA : R.D.Off A)
    (hD : DiceOf w2 R.D) (hl : Dice.Like D R.D) (hW : WeldAt D A w2 t .nil w3) (hp : Pcs t.owns) (hs : t.size ≤ 65536) :
    RopeAt (w3.setCell ⟨R.rb, 1, none⟩ (.pointer t.addr)) { R with t := t } ∧ Mod (fun k => k ∈ A ∨ k = R.D.d ∨ k = R.rb) w2 (w3.setCell ⟨R.rb, 1, none⟩ (.pointer t.addr)) ∧ ∀ k ∈ t.blocks, k ∈ A ∨ w2.heap.size ≤ k := by
  have hrl := hb2.lt
  obtain ⟨D0, k1, k2⟩ := hD
  have hdl := k1.lt
  rw [k2.1, k2.2.1] at hdl
  have hr0 := hoff R.rb (List.mem_singleton.2 rfl)
  have hrd : R.rb ≠ D.d := by rw [hl.1]; exact hr0.1
  have htn : ∀ k, k ∈ t.blocks → k ∈ A ∨ w2.heap.size ≤ k := fun k hk => hW.old k (List.mem_append_left _ hk)
  have hrt2 : R.rb ∉ t.blocks := fun hk => (htn _ hk).elim hrA (fun h => by omega)
  have hb3 := hb2.mod hW.mod (fun h => h.elim hrA hrd)
  have hset : Mod (· = R.rb) w3 (w3.setCell ⟨R.rb, 1, none⟩ (.pointer t.addr)) := (Mod.refl (· = R.rb) w3).setCell (p := ⟨R.rb, 1, none⟩) (fun _ => rfl) _
  obtain ⟨D3, hD3, hl3⟩ := hW.dice
  have hl3' : Dice.Like D3 R.D := hl3.trans hl
  refine ⟨⟨?_, hW.ta.mod hset (fun k hk e => hrt2 (e ▸ hk)), ?_, hW.ha, hW.la, hp, ⟨D3, hD3.mod hset ?_ ?_, hl3'⟩, ?_, hs⟩, ?_, htn⟩
  · exact hb3.set 1 _
  · refine List.nodup_cons.2 ⟨hrt2, ?_⟩
    have := hW.nd
    rwa [show t.blocks ++ T.nil.blocks = t.blocks from List.append_nil _] at this
  · rw [hl3'.1]; exact fun e => hr0.1 e.symm
  · rw [hl3'.2.1]; intro k hk e; exact hr0.2 (e ▸ hk)
  · intro k hk
    rcases List.mem_cons.1 hk with rfl | hk
    · exact hr0
    · rcases htn k hk with h1 | h1
      · exact hoffA k h1
      · exact ⟨fun e => by have := hdl.1; have e2 : k = R.D.d := e; omega, fun e => by have := hdl.2 k e; omega⟩
  · exact Mod.trans (hW.mod.mono (fun k _ h => h.imp id (fun h => .inl (h.trans hl.1)))) hset (fun k _ h => .inr (.inr h))

/-- Behind Join: both texts in the first rope, none in the other. -/
structure Joined (R O R' : Rp) (w w' : World) : Prop where
  rope : RopeAt w' R'
  text : R'.text = R.text ++ O.text
  rb : R'.rb = R.rb
  dice : R'.D = R.D
  other : RopeAt w' { O with t := .nil }
  old : ∀ k ∈ R'.t.blocks, k ∈ R.t.blocks ∨ k ∈ O.t.blocks ∨ w.heap.size ≤ k
  mod : Mod (fun k => R.Foot k ∨ k ∈ O.all) w w'

def JoinPost (R O : Rp) (w : World) (e : Ending) (w' : World) : Prop := e = .returned (.int .i64 0) ∧ ∃ R', Joined R O R' w w'

theorem Tryd.ropeSize : (Tryd.prog.info? 86).map (·.size) = some 2 := by kernel_rfl

end Go.Proofs.YtmecdhbiinpepaaDoor

/- What rope's Cut computes. Conditions: a rope of at most 65536 bytes. -/
namespace Go.Proofs.YtmecdhbiinpepaaDoor
open Go.RowKit Go.Gim Go.Lib

/-- Behind Cut: the rope with what is ahead, a new one with the rest. -/
structure CutTo (R R' O : Rp) (s s' : List UInt8) (w w' : World) : Prop where
  rope : RopeAt w' R'
  other : RopeAt w' O
  text : R'.text = s
  rest : O.text = s'
  grew : R.Grew R' w
  odice : O.D = R.D
  onew : w.heap.size ≤ O.rb ∧ ∀ k ∈ O.t.blocks, k ∈ R.t.blocks ∨ w.heap.size ≤ k
  apart : Apart R' O
  mod : Mod R.Foot w w'

def CutPost (R : Rp) (s s' : List UInt8) (w : World) (e : Ending) (w' : World) : Prop := ∃ R' O, e = .returned (.tuple #[.pointer (some ⟨O.rb, 0, none⟩), .int .i64 0]) ∧ CutTo R R' O s s' w w'

/-- The end of Cut: two trees apart, the store of one, a box for the other. -/
theorem cut_end {w w3 : World} {R : Rp} {t u : T} {s s' : List UInt8} (h : RopeAt w R) (hm : Mod (fun k => k ∈ R.t.blocks ∨ k = R.D.d) w w3) (ht : TreeAt w3 t) (hu : TreeAt w3 u) (hnd : (t.blocks ++ u.blocks).Nodup) (hth : t.Heap) (huh : u.Heap) (htl : t.Le 4294967295) (hul : u.Le 4294967295)
    (htp : Pcs t.owns) (hup : Pcs u.owns) (hD : DiceOf w3 R.D) (hold : ∀ k ∈ t.blocks ++ u.blocks, k ∈ R.t.blocks ∨ w.heap.size ≤ k) (hts : t.text = s) (hus : u.text = s') (h1 : t.size ≤ 65536) (h2 : u.size ≤ 65536) :
    CutTo R { R with t := t } ⟨w3.heap.size, R.D, u⟩ s s' w ((w3.setCell ⟨R.rb, 1, none⟩ (.pointer t.addr)).alloc (.cells #[.pointer (some ⟨R.D.d, 0, none⟩), .pointer u.addr] 86)) := by
  have hrt := (List.nodup_cons.1 h.nd).1
  have hrd := h.off R.rb (List.mem_cons_self ..)
  have hdl := h.dlt
  have hsz := hm.size
  have hrl := h.blk.lt
  have hb3 := h.blk.mod hm (fun h => h.elim hrt hrd.1)
  have hset : Mod (· = R.rb) w3 (w3.setCell ⟨R.rb, 1, none⟩ (.pointer t.addr)) := (Mod.refl (· = R.rb) w3).setCell (p := ⟨R.rb, 1, none⟩) (fun _ => rfl) _
  have hx : Ext (w3.setCell ⟨R.rb, 1, none⟩ (.pointer t.addr)) ((w3.setCell ⟨R.rb, 1, none⟩ (.pointer t.addr)).alloc (.cells #[.pointer (some ⟨R.D.d, 0, none⟩), .pointer u.addr] 86)) := (Mod.refl _ _).alloc _
  have hnR : R.rb ∉ t.blocks ++ u.blocks := fun hk => (hold _ hk).elim hrt (fun h => by omega)
  have hoffk : ∀ k, k ∈ R.t.blocks ∨ w.heap.size ≤ k → k ≠ R.D.d ∧ R.D.sv.ownBlock ≠ some k := by
    rintro k (hk | hk)
    · exact h.off k (List.mem_cons_of_mem _ hk)
    · exact ⟨fun e => by have := hdl.1; omega, fun e => by have := hdl.2 k e; omega⟩
  have hnd2 := List.nodup_append.1 hnd
  have hD4 : DiceOf ((w3.setCell ⟨R.rb, 1, none⟩ (.pointer t.addr)).alloc (.cells #[.pointer (some ⟨R.D.d, 0, none⟩), .pointer u.addr] 86)) R.D := by
    obtain ⟨D', k1, k2⟩ := hD
    exact ⟨D', (k1.mod hset (by rw [k2.1]; exact fun e => hrd.1 e.symm) (by rw [k2.2.1]; exact fun k hk e => hrd.2 (e ▸ hk))).ext hx, k2⟩
  have hsz3 : (w3.setCell ⟨R.rb, 1, none⟩ (.pointer t.addr)).heap.size = w3.heap.size := by simp
  refine ⟨⟨(hb3.set 1 _).alloc _, (ht.mod hset (fun k hk e => hnR (e ▸ List.mem_append_left _ hk))).ext hx, List.nodup_cons.2 ⟨fun hk => hnR (List.mem_append_left _ hk), hnd2.1⟩, hth, htl, htp, hD4, ?_, h1⟩,
    ⟨?_, (hu.mod hset (fun k hk e => hnR (e ▸ List.mem_append_right _ hk))).ext hx, ?_, huh, hul, hup, hD4, ?_, h2⟩, hts, hus, ⟨rfl, rfl, fun k hk => hold k (List.mem_append_left _ hk)⟩, rfl, ⟨hsz, fun k hk => hold k (List.mem_append_right _ hk)⟩, ?_, ?_⟩
  · intro k hk
    rcases List.mem_cons.1 hk with rfl | hk
    · exact hrd
    · exact hoffk k (hold k (List.mem_append_left _ hk))
  · have := Blk.new (w3.setCell ⟨R.rb, 1, none⟩ (.pointer t.addr)) 86 #[.pointer (some ⟨R.D.d, 0, none⟩), .pointer u.addr]
    rw [hsz3] at this
    exact this
  · refine List.nodup_cons.2 ⟨fun hk => by have := hu.lt _ hk; simp at this, hnd2.2.1⟩
  · intro k hk
    rcases List.mem_cons.1 hk with rfl | hk
    · exact hoffk _ (.inr hsz)
    · exact hoffk k (hold k (List.mem_append_right _ hk))
  · refine ⟨fun k hk hk2 => ?_, fun k hk => ?_, fun k hk => ?_, .inl (.refl _)⟩
    · rcases List.mem_cons.1 hk with rfl | hk
      · rcases List.mem_cons.1 hk2 with h3 | hk2
        · have h4 : R.rb = w3.heap.size := h3; omega
        · exact hnR (List.mem_append_right _ hk2)
      · rcases List.mem_cons.1 hk2 with h3 | hk2
        · have h4 : k = w3.heap.size := h3; have := ht.lt k hk; omega
        · exact hnd2.2.2 k hk k hk2 rfl
    · rcases List.mem_cons.1 hk with rfl | hk
      · exact hoffk _ (.inr hsz)
      · exact hoffk k (hold k (List.mem_append_right _ hk))
    · rcases List.mem_cons.1 hk with rfl | hk
      · exact hrd
      · exact hoffk k (hold k (List.mem_append_left _ hk))
  · refine Mod.trans (Mod.trans (hm.mono (fun k _ hk => hk.imp (fun h => List.mem_cons_of_mem _ h) id)) hset (fun k _ hk => .inl (by rw [hk]; exact List.mem_cons_self ..))) hx (fun _ _ f => f.elim)

/-- Where ends has parted just there. -/
theorem cut_even {w w1 : World} {R : Rp} {a r : T} {f : Int} (h : RopeAt w R) (hP : Parted R.t a r) (ha : TreeAt w1 a) (hr : TreeAt w1 r) (hm : Mod (· ∈ R.t.blocks) w w1) (hf : (a.size : Int) = f) :
    CutTo R { R with t := a } ⟨w1.heap.size, R.D, r⟩ (R.text.take f.toNat) (R.text.drop f.toNat) w ((w1.setCell ⟨R.rb, 1, none⟩ (.pointer a.addr)).alloc (.cells #[.pointer (some ⟨R.D.d, 0, none⟩), .pointer r.addr] 86)) := by
  obtain ⟨D, hD, hl⟩ := h.dice
  have htx : R.text = a.text ++ r.text := by rw [Rp.text, T.text_owns, hP.owns, join_append, ← T.text_owns, ← T.text_owns]
  have hal : a.text.length = a.size := rfl
  have hsz := hP.size
  have hs := h.size
  have hg := good_append.1 (hP.owns ▸ h.pcs)
  have hh := hP.heap h.heap
  have hle := hP.le h.heap _ h.le
  refine cut_end h (hm.mono (fun k _ hk => .inl hk)) ha hr (hP.blocks.nodup_iff.2 (List.nodup_cons.1 h.nd).2) hh.1 hh.2 hle.1 hle.2 hg.1 hg.2.1 ⟨D, hD.off (A := R.t.blocks) (fun k hk => (h.off.like hl) k (List.mem_cons_of_mem _ hk)) hm, hl⟩ (fun k hk => .inl (hP.blocks.mem_iff.1 hk)) ?_ ?_ (by omega) (by omega)
  · rw [htx, List.take_left' (by omega)]
  · rw [htx, List.drop_left' (by omega)]

end Go.Proofs.YtmecdhbiinpepaaDoor

/- Ropes and dice that a law makes: what their making gives, in one step each. Conditions: none. -/
namespace Go.Proofs.YtmecdhbiinpepaaDoor
open Go.RowKit Go.Gim

theorem u32_top {n : Int} (h : (Lit.int .u32 n).wf = true) : n ≤ 4294967295 := by
  simp only [Lit.wf, Bool.and_eq_true, decide_eq_true_eq] at h
  exact h.2
theorem i64_in {n : Int} (h : (Lit.int .i64 n).wf = true) : IsInt n := by
  simp only [Lit.wf, Bool.and_eq_true, decide_eq_true_eq] at h
  exact h

/-- A dice that has just been made: all of it is new since a world. -/
structure MadeDice (D : Dice) (w w1 : World) : Prop where
  dice : DiceOf w1 D
  ext : Ext w w1
  d : w.heap.size ≤ D.d
  sv : ∀ k, D.sv.ownBlock = some k → w.heap.size ≤ k
def MadeDicePost (w : World) (e : Ending) (w1 : World) : Prop := ∃ D : Dice, e = .returned (.pointer (some ⟨D.d, 0, none⟩)) ∧ MadeDice D w w1

/-- dice.New of a row that is read. -/
theorem dice_new (w : World) (ao : Option Addr) (cap : Nat) (zs : List Int) (hl : zs.length ≤ 1000) (hw : ∀ n ∈ zs, n ≤ 4294967295) (hr : Reads w 1 ao zs.length (zs.map (Value.int .u32))) :
    Calls Tryd.prog 31 #[.slice ao zs.length cap] w (MadeDicePost w) :=
  (new_any w ao cap zs hl hw hr).mono fun _ _ h => by
    obtain ⟨D, rfl, h1, _, h2, h3, h4⟩ := NewDice.of h
    exact ⟨D, rfl, h1.of, h2, h3, h4⟩
/-- dice.New of numbers that stand in the text. -/
theorem dice_lit (w : World) (zs : List Int) (cs : Array Value) (hcs : cs.toList = zs.map (Value.int .u32)) (hl : zs.length ≤ 1000) (hw : ∀ n ∈ zs, n ≤ 4294967295) :
    Calls Tryd.prog 31 #[.slice (some ⟨w.heap.size, 0, none⟩) zs.length zs.length] (w.alloc (.cells cs 63)) (MadeDicePost w) := by
  have hsz : cs.size = zs.length * 1 := by rw [← Array.length_toList, hcs]; simp
  have hr := Reads.new w 63 cs 1 zs.length hsz
  rw [hcs] at hr
  refine (dice_new _ _ _ zs hl hw hr).mono fun _ _ h => ?_
  obtain ⟨D, rfl, h1⟩ := h
  have hx : Ext w (w.alloc (.cells cs 63)) := (Mod.refl _ w).alloc _
  exact ⟨D, rfl, h1.dice, hx.ext_trans h1.ext, Nat.le_trans hx.size h1.d, fun k hk => Nat.le_trans hx.size (h1.sv k hk)⟩

def MadeRopePost (D : Dice) (s : List UInt8) (w : World) (e : Ending) (w1 : World) : Prop := ∃ R : Rp, e = .returned (.tuple #[.pointer (some ⟨R.rb, 0, none⟩), .int .i64 0]) ∧ Fresh R D s w w1
/-- rope.New of one text. -/
theorem rope_one (D : Dice) (s : ByteArray) (w : World) (hD : DiceOf w D) (hs : s.size ≤ 65536) :
    Calls Tryd.prog 30 #[.pointer (some ⟨D.d, 0, none⟩), .slice (some ⟨w.heap.size, 0, none⟩) 1 1] (w.alloc (.cells #[.string s] 9)) (MadeRopePost D s.data.toList w) := by
  have hx : Ext w (w.alloc (.cells #[.string s] 9)) := (Mod.refl _ w).alloc _
  refine (rope_new D _ _ [s] _ (hD.ext hx) (Reads.new w 9 #[.string s] 1 1 rfl) (by simp)).mono fun _ _ h => ?_
  have hj : join [s] = s.data.toList := by simp [join]
  have hjl : (join [s]).length ≤ 65536 := by rw [hj, toList_length]; exact hs
  obtain ⟨R, rfl, hF⟩ := h.1 hjl
  rw [hj] at hF
  exact ⟨R, rfl, hF.after hx⟩
/-- rope.New of two texts. -/
theorem rope_two (D : Dice) (s t : ByteArray) (w : World) (hD : DiceOf w D) (hs : s.size + t.size ≤ 65536) :
    Calls Tryd.prog 30 #[.pointer (some ⟨D.d, 0, none⟩), .slice (some ⟨w.heap.size, 0, none⟩) 2 2] (w.alloc (.cells #[.string s, .string t] 9)) (MadeRopePost D (s.data.toList ++ t.data.toList) w) := by
  have hx : Ext w (w.alloc (.cells #[.string s, .string t] 9)) := (Mod.refl _ w).alloc _
  refine (rope_new D _ _ [s, t] _ (hD.ext hx) (Reads.new w 9 #[.string s, .string t] 1 2 rfl) (by simp)).mono fun _ _ h => ?_
  have hj : join [s, t] = s.data.toList ++ t.data.toList := by simp [join]
  have hjl : (join [s, t]).length ≤ 65536 := by rw [hj, List.length_append, toList_length, toList_length]; exact hs
  obtain ⟨R, rfl, hF⟩ := h.1 hjl
  rw [hj] at hF
  exact ⟨R, rfl, hF.after hx⟩
/-- rope.New of no text. -/
theorem rope_none (D : Dice) (w : World) (hD : DiceOf w D) :
    Calls Tryd.prog 30 #[.pointer (some ⟨D.d, 0, none⟩), .slice none 0 0] w (MadeRopePost D [] w) := by
  refine (new_empty D none 0 w hD).mono fun _ _ h => ?_
  exact h.1 (by simp [join])

/-- A new dice stands apart from what was there. -/
theorem MadeDice.off {D : Dice} {w w1 : World} {O : Rp} (h : MadeDice D w w1) (hO : RopeAt w O) : D.Off O.all ∧ (O.D.d ≠ D.d ∧ D.sv.ownBlock ≠ some O.D.d ∧ O.D.sv.ownBlock ≠ some D.d) := by
  have hl := hO.lt
  have hd := hO.dlt
  have h1 := h.d
  refine ⟨fun k hk => ⟨fun e => by have := hl k hk; omega, fun e => by have := hl k hk; have := h.sv k e; omega⟩, fun e => by omega, fun e => by have := h.sv _ e; omega, fun e => by have := hd.2 _ e; omega⟩
/-- Behind a new dice and a new rope by it: the old rope is as it was, and apart. -/
theorem Fresh.with {R O : Rp} {D : Dice} {s : List UInt8} {w w1 w2 : World} (hm : MadeDice D w w1) (h : Fresh R D s w1 w2) (hO : RopeAt w O) : RopeAt w2 O ∧ Apart O R := by
  obtain ⟨h1, h2⟩ := hm.off hO
  have hO1 := hO.ext hm.ext
  exact ⟨h.old hO1 h1 (.inr h2), h.apart hO1 h1 (.inr h2)⟩
theorem Fresh.based {R : Rp} {D : Dice} {s : List UInt8} {w0 w w1 w2 : World} (hx : Ext w0 w) (hm : MadeDice D w w1) (h : Fresh R D s w1 w2) : Ext w0 w2 ∧ R.New w0 :=
  h.base (hx.ext_trans hm.ext) (Nat.le_trans hx.size hm.d)
theorem Fresh.size {R : Rp} {D : Dice} {s : List UInt8} {w w1 : World} (h : Fresh R D s w w1) : R.t.size = s.length := by rw [← h.text]; rfl
theorem Done.size {R R' : Rp} {s : List UInt8} {w w1 : World} (h : Done R R' s w w1) : R'.t.size = s.length := by rw [← h.text]; rfl
theorem bs_eq {l : List UInt8} {s : ByteArray} (h : l = s.data.toList) : bs l = s := by rw [h, bs_of]
/-- A deed done to one rope leaves the other one, and both apart. -/
theorem Done.aside {R R' O : Rp} {s : List UInt8} {w w1 : World} (h : Done R R' s w w1) (ha : Apart R O) (hO : RopeAt w O) : RopeAt w1 O ∧ Apart R' O :=
  ⟨hO.other ha h.mod h.rope h.grew.2.1, ha.grew h.grew hO⟩

/-- Cut leaves another rope, and both parts apart from it. -/
theorem CutTo.aside {R R' O X : Rp} {s s' : List UInt8} {w w1 : World} (h : CutTo R R' O s s' w w1) (ha : Apart R X) (hX : RopeAt w X) : RopeAt w1 X ∧ Apart R' X ∧ Apart O X := by
  have hl := hX.lt
  have hd := hX.dlt
  refine ⟨hX.other ha h.mod h.rope h.grew.2.1, ha.grew h.grew hX, ?_⟩
  have hall : ∀ k ∈ O.all, k ∈ R.all ∨ w.heap.size ≤ k := by
    intro k hk
    rcases List.mem_cons.1 hk with rfl | hk
    · exact .inr h.onew.1
    · exact (h.onew.2 k hk).imp (fun h => List.mem_cons_of_mem _ h) id
  refine ⟨fun k hk hk2 => ?_, by rw [h.odice]; exact ha.offR, fun k hk => ?_, by rw [h.odice]; exact ha.dice⟩
  · rcases hall k hk with h1 | h1
    · exact ha.blocks k h1 hk2
    · have := hl k hk2; omega
  · rcases hall k hk with h1 | h1
    · exact ha.offO k h1
    · exact ⟨fun e => by have := hd.1; omega, fun e => by have := hd.2 k e; omega⟩
theorem CutTo.base {R R' O : Rp} {s s' : List UInt8} {w w1 w2 : World} (h : CutTo R R' O s s' w1 w2) (hx : Ext w w1) (hn : R.New w) : Ext w w2 ∧ R'.New w ∧ O.New w := by
  refine ⟨Mod.trans hx h.mod (fun i hi e => by
    rcases e with e | e
    · have := hn.all i e; omega
    · have := hn.dice; omega), ⟨fun k hk => (h.grew.all k hk).elim (hn.all k) (fun h2 => Nat.le_trans hx.size h2), by rw [h.grew.2.1]; exact hn.dice⟩, fun k hk => ?_, by rw [h.odice]; exact hn.dice⟩
  rcases List.mem_cons.1 hk with rfl | hk
  · exact Nat.le_trans hx.size h.onew.1
  · exact (h.onew.2 k hk).elim (fun h2 => hn.all k (List.mem_cons_of_mem _ h2)) (fun h2 => Nat.le_trans hx.size h2)
theorem Joined.base {R O R' : Rp} {w w1 w2 : World} (h : Joined R O R' w1 w2) (hx : Ext w w1) (hR : R.New w) (hO : O.New w) : Ext w w2 ∧ R'.New w := by
  refine ⟨Mod.trans hx h.mod (fun i hi e => by
    rcases e with (e | e) | e
    · have := hR.all i e; omega
    · have := hR.dice; omega
    · have := hO.all i e; omega), fun k hk => ?_, by rw [h.dice]; exact hR.dice⟩
  rcases List.mem_cons.1 hk with rfl | hk
  · rw [h.rb]; exact hR.all _ (List.mem_cons_self ..)
  · rcases h.old k hk with h1 | h1 | h1
    · exact hR.all k (List.mem_cons_of_mem _ h1)
    · exact hO.all k (List.mem_cons_of_mem _ h1)
    · exact Nat.le_trans hx.size h1
theorem CutTo.sizes {R R' O : Rp} {s s' : List UInt8} {w w1 : World} (h : CutTo R R' O s s' w w1) : R'.t.size = s.length ∧ O.t.size = s'.length := ⟨by rw [← h.text]; rfl, by rw [← h.rest]; rfl⟩

end Go.Proofs.YtmecdhbiinpepaaDoor

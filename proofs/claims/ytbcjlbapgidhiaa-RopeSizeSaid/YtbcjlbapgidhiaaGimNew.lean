/- What rope's New computes. Conditions: at most 1000 parts; a dice that is one, or none. -/
import Derived.Test.YtbcjlbapgidhiaaGimRope3
namespace Go.Proofs.Ytbcjlbapgidhiaa
open Go.RowKit Go.Gim Go.Lib

def NewPost (D : Dice) (ps : List ByteArray) (w : World) (e : Ending) (w' : World) : Prop :=
  ((join ps).length ≤ 65536 → ∃ R, e = .returned (.tuple #[.pointer (some ⟨R.rb, 0, none⟩), .int .i64 0]) ∧ Fresh R D (join ps) w w') ∧
  (65536 < (join ps).length → e = .returned (.tuple #[.pointer none, .int .i64 4]) ∧ Ext w w')

set_option maxHeartbeats 800000 in
set_option maxRecDepth 1000000 in
theorem new_nodice (ao : Option Addr) (n cap : Nat) (w : World) : Calls Try.prog 24 #[.pointer none, .slice ao n cap] w fun e w' => e = .returned (.tuple #[.pointer none, .int .i64 1]) ∧ w' = w := by
  go_enter Try.func24, Try.ntmps24
  go_wp2_with fail
  go_ret2
  exact ⟨rfl, rfl⟩

theorem join_take_succ (ps : List ByteArray) (k : Nat) (hk : k < ps.length) : join (ps.take (k + 1)) = join (ps.take k) ++ ps[k].data.toList := by
  rw [List.take_succ_eq_append_getElem hk, join_append]; simp [join]
theorem join_take_le (ps : List ByteArray) (k : Nat) : (join (ps.take k)).length ≤ (join ps).length := by
  have : join ps = join (ps.take k) ++ join (ps.drop k) := by rw [← join_append, List.take_append_drop]
  rw [this, List.length_append]; omega

/-- What New's loop holds. -/
def NewAt (ps : List ByteArray) (w : World) (k : Nat) (v : Value) (wr : World) : Prop :=
  k ≤ ps.length ∧ (join (ps.take k)).length ≤ 65536 ∧ RowB w.heap.size (join (ps.take k)) v wr ∧ Mod (w.heap.size ≤ ·) w wr

/-- The end of New: the box, weld, the store. -/
theorem new_end {w wr : World} {D : Dice} {ps : List ByteArray} {v : Value} (hN : NewAt ps w ps.length v wr) (hD : DiceOf w D) :
    (join ps).length ≤ 65536 ∧ RowB w.heap.size (join ps) v (wr.alloc (.cells #[.pointer (some ⟨D.d, 0, none⟩), .pointer none] 92)) ∧ DiceOf (wr.alloc (.cells #[.pointer (some ⟨D.d, 0, none⟩), .pointer none] 92)) D ∧
    RopeAt (wr.alloc (.cells #[.pointer (some ⟨D.d, 0, none⟩), .pointer none] 92)) ⟨wr.heap.size, D, .nil⟩ ∧ Ext w wr := by
  obtain ⟨_, h1, h2, h3⟩ := hN
  rw [List.take_length] at h1 h2
  have hx : Ext w wr := ⟨h3.os, h3.tape, h3.output, h3.size, fun k hk _ => h3.block k hk (Nat.not_le.2 hk)⟩
  exact ⟨h1, h2.later ((Mod.refl _ wr).alloc _), (hD.ext hx).ext ((Mod.refl _ wr).alloc _), RopeAt.empty (hD.ext hx), hx⟩

set_option maxHeartbeats 1600000 in
set_option maxRecDepth 1000000 in
theorem new_some (D : Dice) (b off cap : Nat) (ps : List ByteArray) (w : World) (hD : DiceOf w D) (hr : Reads w 1 (some ⟨b, off, none⟩) ps.length (ps.map Value.string)) (hn : ps.length ≤ 1000) (h0 : 0 < ps.length) :
    Calls Try.prog 24 #[.pointer (some ⟨D.d, 0, none⟩), .slice (some ⟨b, off, none⟩) ps.length cap] w (NewPost D ps w) := by
  have hbl : b < w.heap.size := World.block_lt_of_cell? w _ (hr.at (j := 0) (v := .string ps[0]) (by simp [h0]))
  go_enter Try.func24, Try.ntmps24
  go_wp2_with fail
  go_loopw [6, 14] (fun p q wr => ∃ k : Nat, ∃ v : Value, q = .int .i64 k ∧ v = p ∧ Hid (NewAt ps w k v wr)) (fun _ q _ => ps.length - (intOf q).toNat)
  case atStart => exact ⟨0, _, rfl, rfl, Lib.hid ⟨by omega, by simp [join], RowB.nil w, Mod.refl _ _⟩⟩
  case round =>
    obtain ⟨k, v, rfl, rfl, HN⟩ := hrel
    by_cases hk : k < ps.length
    · have hk' : (k : Int) < (ps.length : Int) := by omega
      obtain ⟨_, h1, h2, h3⟩ := HN.out
      have hc : wr.cell? ⟨b, off + k, none⟩ = some (.string ps[k]) := by
        rw [h3.cell (p := ⟨b, off + k, none⟩) hbl (Nat.not_le.2 hbl)]
        exact hr.at (by simp [hk])
      obtain ⟨ao, cp, hv, hcp, _⟩ := ownsRow_shape h2.2
      have hjs := join_take_succ ps k hk
      have hjl := join_take_le ps (k + 1)
      rw [hjs, List.length_append, toList_length] at hjl
      have Hjs := Lib.hid hjs
      clear hjs
      generalize hsk : ps[k] = s at *
      generalize hL : join (ps.take k) = L at *
      have HL := Lib.hid hL
      have Hsk := Lib.hid hsk
      clear hL hsk
      have Hv := Lib.hid hv
      clear h3
      rw [hv] at h2 ⊢
      clear hv
      by_cases hs : (65536 : Int) - (L.length : Int) < (s.size : Int)
      · go_wp2_with fail
        go_ret2
        have h4 := HN.out.2.2.2
        exact ⟨fun h => absurd h (by omega), fun _ => ⟨rfl, h4.os, h4.tape, h4.output, h4.size, fun k hk _ => h4.block k hk (Nat.not_le.2 hk)⟩⟩
      · go_wp2_with (at_builtin; refine wpList_append_rowB rfl _ _ rfl w.heap.size L _ rfl h2 _ rfl ?h63 ?_)
        case h63 => omega
        intro v2 w2 k1 k2
        have K1 := Lib.hid k1
        clear k1
        go_wp2_with fail
        go_roundw
        case rel =>
          refine ⟨k + 1, v2, by go_num, rfl, Lib.hid ⟨by omega, ?_, ?_, Mod.trans HN.out.2.2.2 k2 (fun _ _ h => h)⟩⟩
          · rw [Hjs.out, List.length_append, toList_length]; omega
          · rw [Hjs.out]; exact K1.out
        case measure => simp [intOf]; omega
    · have hk' : ¬ (k : Int) < (ps.length : Int) := by omega
      obtain rfl : k = ps.length := by have := HN.out.1; omega
      obtain ⟨h1, h2, h3, h4, h5⟩ := new_end HN.out hD
      have hcv := h2.convert
      clear h2
      go_wp2_with fail
      have hbs : (bs (join ps)).size = (join ps).length := rfl
      refine (weld_one (D := D) (bs (join ps)) h3 (by omega)).mono ?_
      rintro e w2 ⟨t, D', hl, rfl, ht, hp, hW⟩
      have hne : ¬ (wr.heap.size ∈ ([] : List Nat) ∨ wr.heap.size = D'.d) := by
        rintro (h | h)
        · cases h
        · exact (h4.off _ (List.mem_cons_self ..)).1 (h.trans hl.1)
      have hb2 := h4.blk.mod hW.mod hne
      have e1 := hb2.cell 1
      have f1 := hb2.free 1
      have hlt := hb2.lt
      simp only at e1 f1 hlt
      have hts : t.size = (join ps).length := by rw [T.size, ht]; rfl
      have hf0 : Fresh ⟨wr.heap.size, D, .nil⟩ D [] w (wr.alloc (.cells #[.pointer (some ⟨D.d, 0, none⟩), .pointer none] 92)) :=
        ⟨h4, rfl, rfl, fun k hk => (by simp [Rp.all, T.blocks] at hk; subst hk; exact h5.size), (h5.alloc _).any⟩
      have hd := h4.rooted (Mod.refl _ _) h4.blk (A := []) (fun k hk => by cases hk) hl hW hp (s := join ps) (by rw [ht]; rfl) (by omega)
      have HF := Lib.hid (hf0.done hd)
      have H1 := Lib.hid h1
      clear hf0 hd hts hbs ht hp hW hb2 h3 h4 h5 hcv h1
      go_wp2_with fail
      go_ret2
      exact ⟨fun _ => ⟨_, rfl, HF.out⟩, fun h => absurd H1.out (Nat.not_le.2 h)⟩

set_option maxHeartbeats 1600000 in
set_option maxRecDepth 1000000 in
theorem new_empty (D : Dice) (ao : Option Addr) (cap : Nat) (w : World) (hD : DiceOf w D) :
    Calls Try.prog 24 #[.pointer (some ⟨D.d, 0, none⟩), .slice ao 0 cap] w (NewPost D [] w) := by
  have hN : NewAt [] w ([] : List ByteArray).length (.slice none 0 0) w := ⟨by simp, by simp [join], RowB.nil w, Mod.refl _ _⟩
  go_enter Try.func24, Try.ntmps24
  go_wp2_with fail
  refine wp_loop_rounds 1 ?_
  rw [rounds_succ]
  obtain ⟨h1, h2, h3, h4, h5⟩ := new_end hN hD
  have hcv := h2.convert
  clear h2
  go_wp2_with fail
  have hbs : (bs (join [])).size = 0 := rfl
  refine (weld_one (D := D) (bs (join [])) h3 (by omega)).mono ?_
  rintro e w2 ⟨t, D', hl, rfl, ht, hp, hW⟩
  have hne : ¬ (w.heap.size ∈ ([] : List Nat) ∨ w.heap.size = D'.d) := by
    rintro (h | h)
    · cases h
    · exact (h4.off _ (List.mem_cons_self ..)).1 (h.trans hl.1)
  have hb2 := h4.blk.mod hW.mod hne
  have e1 := hb2.cell 1
  have f1 := hb2.free 1
  have hlt := hb2.lt
  simp only at e1 f1 hlt
  have hts : t.size = 0 := by rw [T.size, ht]; rfl
  have hf0 : Fresh ⟨w.heap.size, D, .nil⟩ D [] w (w.alloc (.cells #[.pointer (some ⟨D.d, 0, none⟩), .pointer none] 92)) :=
    ⟨h4, rfl, rfl, fun k hk => (by simp [Rp.all, T.blocks] at hk; subst hk; exact h5.size), (h5.alloc _).any⟩
  have hd := h4.rooted (Mod.refl _ _) h4.blk (A := []) (fun k hk => by cases hk) hl hW hp (s := join []) (by rw [ht]; rfl) (by omega)
  have HF := Lib.hid (hf0.done hd)
  have H1 := Lib.hid h1
  clear hf0 hd hts hbs ht hp hW hb2 h3 h4 h5 hcv h1 hN
  go_wp2_with fail
  go_ret2
  exact ⟨fun _ => ⟨_, rfl, HF.out⟩, fun h => absurd H1.out (Nat.not_le.2 h)⟩

/-- New, of any parts. -/
theorem rope_new (D : Dice) (ao : Option Addr) (cap : Nat) (ps : List ByteArray) (w : World) (hD : DiceOf w D) (hr : Reads w 1 ao ps.length (ps.map Value.string)) (hn : ps.length ≤ 1000) :
    Calls Try.prog 24 #[.pointer (some ⟨D.d, 0, none⟩), .slice ao ps.length cap] w (NewPost D ps w) := by
  by_cases h0 : 0 < ps.length
  · obtain ⟨b, off, rfl⟩ := hr.some h0
    exact new_some D b off cap ps w hD hr hn h0
  · obtain rfl : ps = [] := List.length_eq_zero_iff.1 (by omega)
    exact new_empty D ao cap w hD

end Go.Proofs.Ytbcjlbapgidhiaa
